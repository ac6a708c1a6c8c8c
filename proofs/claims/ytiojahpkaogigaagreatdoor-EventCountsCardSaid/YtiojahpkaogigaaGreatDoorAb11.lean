/- One operation at a state, with what is reckoned left to the kernel. Conditions: none. -/
import Derived.Test.YtiojahpkaogigaaGreatDoorAb10
namespace Go.Ab
variable {wr wr2 : Bool}

/-- An operation at a state: all that 'AOps.step' asks. -/
structure SO (C : Cx) (ops : Array Oper) (o : Oper) (r : Regs) (m : MemL) (ins : List (Operand × PV)) (mem : List (Nat × Ent)) (pv : Option PV) (upd : MemL) (new : List Nat) : Prop where
  hT : OpTG C.P C.Γ o ins mem pv upd new
  hw : wants ops r o true
  hin : InsOK C.Γ r ins
  hm : MemOK m mem
  hf : fresh C.M m r new = true
  hd : dstOK C o.dst = true

abbrev OpIs (C : Cx) (r : Regs) (x : Operand) (p : PV) : Prop := ∃ q, opP C.Γ r x = some q ∧ Le q p

theorem wantT {g : Bool} (h : g = true) : true = (g == true) := by rw [h]; rfl
theorem wantF {g : Bool} (h : g = false) : true = (g == false) := by rw [h]; rfl
theorem skipT {g : Bool} (h : g = false) : false = (g == true) := by rw [h]; rfl
theorem skipF {g : Bool} (h : g = true) : false = (g == false) := by rw [h]; rfl
theorem idx_map {α β : Type} {xs : List α} {i : Nat} {x : α} (f : α → β) (h : xs[i]? = some x) : (xs.map f)[((i : Nat) : Int).toNat]? = some (f x) := by simp [h]
theorem idx_mapI {α β : Type} {xs : List α} {i : Int} {x : α} (f : α → β) (h : xs[i.toNat]? = some x) : (xs.map f)[i.toNat]? = some (f x) := by simp [h]
theorem lt_of_idx {α : Type} {xs : List α} {i : Nat} {x : α} (h : xs[i]? = some x) : i < xs.length := by
  rcases Nat.lt_or_ge i xs.length with h' | h'
  · exact h'
  · simp [List.getElem?_eq_none h'] at h
theorem all_map {α : Type} {f : α → List FV} {n : Nat} (h : ∀ x, (f x).length = n) (xs : List α) : (xs.map f).all (fun r => r.length == n) = true := by
  simp [List.all_eq_true, h]

section
variable {C : Cx} {ops : Array Oper} {l : List Oper} {o : Oper} {r : Regs} {m : MemL} {Q : Post}
theorem AOps.so {ins : List (Operand × PV)} {mem : List (Nat × Ent)} {pv : Option PV} {upd : MemL} {new : List Nat} (s : SO C ops o r m ins mem pv upd new) (h : AOps C ops l (setR r o.dst pv) (upd ++ m) Q) : AOps C ops (o :: l) r m Q :=
  AOps.step s.hT s.hw s.hin s.hm s.hf s.hd h
theorem Run.so {r' : Regs} {m' : MemL} {is : List Info} {ins : List (Operand × PV)} {mem : List (Nat × Ent)} {pv : Option PV} {upd : MemL} {new : List Nat} (s : SO C ops o r m ins mem pv upd new) (h : Run C ops l (setR r o.dst pv) (upd ++ m) is r' m') :
    Run C ops (o :: l) r m (⟨insT ins ++ guardT ops o, mem.map (·.1), o.dst, pv, upd, new⟩ :: is) r' m' := Run.run s.hT s.hw s.hin s.hm s.hf s.hd h

namespace L
theorem move {x : Operand} (p : PV) (ho : o.op = .move x := by rfl) (hx : OpIs C r x p := by exact ⟨_, by kernel_rfl, Le.same⟩) (hw : wants ops r o true := by exact rfl) (hd : dstOK C o.dst = true := by kernel_rfl) :
    SO C ops o r m [(x, p)] [] (some p) [] [] := ⟨(OpT.move ho).g, hw, ⟨hx, trivial⟩, trivial, rfl, hd⟩
theorem assign {x : Operand} (p : PV) (ho : o.op = .assign x := by rfl) (hx : OpIs C r x p := by exact ⟨_, by kernel_rfl, Le.same⟩) (hw : wants ops r o true := by exact rfl) (hd : dstOK C o.dst = true := by kernel_rfl) :
    SO C ops o r m [(x, p)] [] (some p) [] [] := ⟨(OpT.assign ho).g, hw, ⟨hx, trivial⟩, trivial, rfl, hd⟩
theorem pickT {c x y : Operand} {b : Bool} (p : PV) (hb : b = true) (ho : o.op = .pick c x y := by rfl) (hc : OpIs C r c (.c (.raw (.bool b))) := by exact ⟨_, by kernel_rfl, Le.same⟩) (hx : OpIs C r x p := by exact ⟨_, by kernel_rfl, Le.same⟩) (hw : wants ops r o true := by exact rfl) (hd : dstOK C o.dst = true := by kernel_rfl) :
    SO C ops o r m [(c, .c (.raw (.bool b))), (x, p)] [] (some p) [] [] := by
  subst hb; exact ⟨(OpT.pick (b := true) ho).g, hw, ⟨hc, hx, trivial⟩, trivial, rfl, hd⟩
theorem pickF {c x y : Operand} {b : Bool} (p : PV) (hb : b = false) (ho : o.op = .pick c x y := by rfl) (hc : OpIs C r c (.c (.raw (.bool b))) := by exact ⟨_, by kernel_rfl, Le.same⟩) (hx : OpIs C r y p := by exact ⟨_, by kernel_rfl, Le.same⟩) (hw : wants ops r o true := by exact rfl) (hd : dstOK C o.dst = true := by kernel_rfl) :
    SO C ops o r m [(c, .c (.raw (.bool b))), (y, p)] [] (some p) [] [] := by
  subst hb; exact ⟨(OpT.pick (b := false) ho).g, hw, ⟨hc, hx, trivial⟩, trivial, rfl, hd⟩
theorem load {t : TypeId} {x : Operand} (id off : Nat) (cells : List PV) (p : PV) (ht : TI C.P t false 1) (ho : o.op = .load t x := by rfl) (hx : OpIs C r x (.ptr id off) := by exact ⟨_, by kernel_rfl, Le.same⟩) (hm : look m id = some (.var cells) := by kernel_rfl) (hp : cells[off]? = some p := by kernel_rfl)
    (hw : wants ops r o true := by exact rfl) (hd : dstOK C o.dst = true := by kernel_rfl) : SO C ops o r m [(x, .ptr id off)] [(id, .var cells)] (some p) [] [] := ⟨(OpT.load ho ht hp).g, hw, ⟨hx, trivial⟩, ⟨hm, trivial⟩, rfl, hd⟩
theorem loadAgg {t : TypeId} {x : Operand} {n : Nat} (id off : Nat) (cells ps : List PV) (ht : TI C.P t true n) (ho : o.op = .load t x := by rfl) (hx : OpIs C r x (.ptr id off) := by exact ⟨_, by kernel_rfl, Le.same⟩) (hm : look m id = some (.var cells) := by kernel_rfl) (hp : (cells.drop off).take n = ps := by kernel_rfl) (hl : ps.length = n := by kernel_rfl)
    (hw : wants ops r o true := by exact rfl) (hd : dstOK C o.dst = true := by kernel_rfl) : SO C ops o r m [(x, .ptr id off)] [(id, .var cells)] (some (.agg ps)) [] [] := ⟨(OpT.loadAgg ho ht hp hl).g, hw, ⟨hx, trivial⟩, ⟨hm, trivial⟩, rfl, hd⟩
theorem loadF {t : TypeId} {x : Operand} (y : FV) (ys : List FV) (ht : TI C.P t false 1) (ho : o.op = .load t x := by rfl) (hx : OpIs C r x (.fptr (y :: ys)) := by exact ⟨_, by kernel_rfl, Le.same⟩)
    (hw : wants ops r o true := by exact rfl) (hd : dstOK C o.dst = true := by kernel_rfl) : SO C ops o r m [(x, .fptr (y :: ys))] [] (some (.c y)) [] [] := ⟨(OpT.loadF ho ht).g, hw, ⟨hx, trivial⟩, trivial, rfl, hd⟩
theorem loadAggF {t : TypeId} {x : Operand} {n : Nat} (cells ys : List FV) (ht : TI C.P t true n) (ho : o.op = .load t x := by rfl) (hx : OpIs C r x (.fptr cells) := by exact ⟨_, by kernel_rfl, Le.same⟩) (hp : cells.take n = ys := by kernel_rfl) (hl : ys.length = n := by kernel_rfl)
    (hw : wants ops r o true := by exact rfl) (hd : dstOK C o.dst = true := by kernel_rfl) : SO C ops o r m [(x, .fptr cells)] [] (some (.agg (ys.map .c))) [] [] := ⟨(OpT.loadAggF ho ht hp hl).g, hw, ⟨hx, trivial⟩, trivial, rfl, hd⟩
theorem loadA {t e : TypeId} {x : Operand} (id sz i off : Nat) (xs : List (List FV)) (cs : List FV) (y : FV) (ht : TI C.P t false 1) (hi : xs[i]? = some cs) (ho : o.op = .load t x := by rfl) (hx : OpIs C r x (.aptr id sz i off) := by exact ⟨_, by kernel_rfl, Le.same⟩) (hm : look m id = some (.arr wr e sz xs) := by kernel_rfl) (hy : cs[off]? = some y := by kernel_rfl)
    (hw : wants ops r o true := by exact rfl) (hd : dstOK C o.dst = true := by kernel_rfl) : SO C ops o r m [(x, .aptr id sz i off)] [(id, .arr wr e sz xs)] (some (.c y)) [] [] := ⟨(OpT.loadA ho ht hi hy).g, hw, ⟨hx, trivial⟩, ⟨hm, trivial⟩, rfl, hd⟩
theorem loadAggA {t : TypeId} {x : Operand} {n : Nat} (e : TypeId) (id sz i off : Nat) (xs : List (List FV)) (cs ys : List FV) (ht : TI C.P t true n) (hi : xs[i]? = some cs) (ho : o.op = .load t x := by rfl) (hx : OpIs C r x (.aptr id sz i off) := by exact ⟨_, by kernel_rfl, Le.same⟩) (hm : look m id = some (.arr wr e sz xs) := by kernel_rfl) (hy : (cs.drop off).take n = ys := by kernel_rfl) (hl : ys.length = n := by kernel_rfl)
    (hw : wants ops r o true := by exact rfl) (hd : dstOK C o.dst = true := by kernel_rfl) : SO C ops o r m [(x, .aptr id sz i off)] [(id, .arr wr e sz xs)] (some (.agg (ys.map .c))) [] [] := ⟨(OpT.loadAggA ho ht hi hy hl).g, hw, ⟨hx, trivial⟩, ⟨hm, trivial⟩, rfl, hd⟩
theorem store {t : TypeId} {ad x : Operand} {n : Nat} (id off : Nat) (cells cells' : List PV) (p : PV) (ht : (C.P.info? t).map (·.size) = some n) (ho : o.op = .store t ad x := by rfl) (ha : OpIs C r ad (.ptr id off) := by exact ⟨_, by kernel_rfl, Le.same⟩) (hx : OpIs C r x p := by exact ⟨_, by kernel_rfl, Le.same⟩) (hm : look m id = some (.var cells) := by kernel_rfl)
    (hn : p.cells.length = n := by kernel_rfl) (hf : p.flat = true := by kernel_rfl) (hfit : (Nat.ble (off + n) cells.length) = true := by kernel_rfl) (hres : splice cells off p.cells = cells' := by kernel_rfl)
    (hw : wants ops r o true := by exact rfl) (hd : dstOK C o.dst = true := by kernel_rfl) : SO C ops o r m [(ad, .ptr id off), (x, p)] [(id, .var cells)] none [(id, some (.var cells'))] [] := ⟨(OpT.store ho ht hn hf (Nat.le_of_ble_eq_true hfit) hres).g, hw, ⟨ha, hx, trivial⟩, ⟨hm, trivial⟩, rfl, hd⟩
theorem alloc {t : TypeId} {i : TypeInfo} {z : Value} {zs : List Value} (s : Nat) (hi : C.P.info? t = some i) (hz : i.zero = some z) (hzs : z.cells = zs.toArray) (h1 : zs.all (·.oneCell') = true) (ho : o.op = .alloc t := by rfl) (hf : fresh C.M m r [s] = true := by kernel_rfl)
    (hw : wants ops r o true := by exact rfl) (hd : dstOK C o.dst = true := by kernel_rfl) : SO C ops o r m [] [] (some (.ptr s 0)) [(s, some (.var (zs.map fun v => .c (.raw v))))] [s] := ⟨(OpT.alloc ho hi hz hzs h1).g, hw, trivial, trivial, hf, hd⟩
theorem box {t : TypeId} {x : Operand} (s : Nat) (p : PV) (ps : List PV) (ho : o.op = .box t x := by rfl) (hx : OpIs C r x p := by exact ⟨_, by kernel_rfl, Le.same⟩) (hfl : p.flat = true := by kernel_rfl) (hps : p.cells = ps := by kernel_rfl) (hs : PV.saysL s ps = false := by kernel_rfl) (hf : fresh C.M m r [s] = true := by kernel_rfl)
    (hw : wants ops r o true := by exact rfl) (hd : dstOK C o.dst = true := by kernel_rfl) : SO C ops o r m [(x, p)] [] (some (.ptr s 0)) [(s, some (.var ps))] [s] := ⟨(OpT.box ho hfl hps hs).g, hw, ⟨hx, trivial⟩, trivial, hf, hd⟩
theorem fieldAddr {s : TypeId} {x : Operand} {f off : Nat} (id k : Nat) (hf : FI C.P s f off) (ho : o.op = .fieldAddr s x f := by rfl) (hx : OpIs C r x (.ptr id k) := by exact ⟨_, by kernel_rfl, Le.same⟩)
    (hw : wants ops r o true := by exact rfl) (hd : dstOK C o.dst = true := by kernel_rfl) : SO C ops o r m [(x, .ptr id k)] [] (some (.ptr id (k + off))) [] [] := ⟨(OpT.fieldAddr ho hf).g, hw, ⟨hx, trivial⟩, trivial, rfl, hd⟩
theorem fieldAddrF {s : TypeId} {x : Operand} {f off : Nat} (cells ys : List FV) (hf : FI C.P s f off) (ho : o.op = .fieldAddr s x f := by rfl) (hx : OpIs C r x (.fptr cells) := by exact ⟨_, by kernel_rfl, Le.same⟩) (hy : cells.drop off = ys := by kernel_rfl)
    (hw : wants ops r o true := by exact rfl) (hd : dstOK C o.dst = true := by kernel_rfl) : SO C ops o r m [(x, .fptr cells)] [] (some (.fptr ys)) [] [] := ⟨(OpT.fieldAddrF ho hf hy).g, hw, ⟨hx, trivial⟩, trivial, rfl, hd⟩
theorem fieldAddrA {s : TypeId} {x : Operand} {f off : Nat} (id sz i k : Nat) (hf : FI C.P s f off) (ho : o.op = .fieldAddr s x f := by rfl) (hx : OpIs C r x (.aptr id sz i k) := by exact ⟨_, by kernel_rfl, Le.same⟩)
    (hw : wants ops r o true := by exact rfl) (hd : dstOK C o.dst = true := by kernel_rfl) : SO C ops o r m [(x, .aptr id sz i k)] [] (some (.aptr id sz i (k + off))) [] [] := ⟨(OpT.fieldAddrA ho hf).g, hw, ⟨hx, trivial⟩, trivial, rfl, hd⟩
theorem indexF {t e : TypeId} {x ix : Operand} {sz : Nat} {k : IntKind} {n : Int} (xs : List (List FV)) (cs : List FV) (hs : SI C.P t e sz) (h0 : 0 ≤ n) (hc : xs[n.toNat]? = some cs) (ho : o.op = .indexAddr t x ix := by rfl) (hx : OpIs C r x (.c (.sl xs)) := by exact ⟨_, by kernel_rfl, Le.same⟩) (hi : OpIs C r ix (.c (.raw (.int k n))) := by exact ⟨_, by kernel_rfl, Le.same⟩) (hl : cs.length = sz := by kernel_rfl)
    (hw : wants ops r o true := by exact rfl) (hd : dstOK C o.dst = true := by kernel_rfl) : SO C ops o r m [(x, .c (.sl xs)), (ix, .c (.raw (.int k n)))] [] (some (.fptr cs)) [] [] := ⟨(OpT.indexF ho hs h0 hc hl).g, hw, ⟨hx, hi, trivial⟩, trivial, rfl, hd⟩
theorem indexO {t e : TypeId} {x ix : Operand} {sz : Nat} {k : IntKind} {n : Int} (e' : TypeId) (id : Nat) (xs : List (List FV)) (hs : SI C.P t e sz) (h0 : 0 ≤ n) (hlt : n.toNat < xs.length) (ho : o.op = .indexAddr t x ix := by rfl) (hx : OpIs C r x (.osl id) := by exact ⟨_, by kernel_rfl, Le.same⟩) (hi : OpIs C r ix (.c (.raw (.int k n))) := by exact ⟨_, by kernel_rfl, Le.same⟩) (hm : look m id = some (.arr wr e' sz xs) := by kernel_rfl)
    (hw : wants ops r o true := by exact rfl) (hd : dstOK C o.dst = true := by kernel_rfl) : SO C ops o r m [(x, .osl id), (ix, .c (.raw (.int k n)))] [(id, .arr wr e' sz xs)] (some (.aptr id sz n.toNat 0)) [] [] := ⟨(OpT.indexO ho hs h0 hlt).g, hw, ⟨hx, hi, trivial⟩, ⟨hm, trivial⟩, rfl, hd⟩
theorem indexAF {t e : TypeId} {x ix : Operand} {len sz : Nat} {k : IntKind} {n : Int} (cells ys : List FV) (ht : C.P.underlying t = some (.array len e)) (hsz : (C.P.info? e).map (·.size) = some sz) (h0 : 0 ≤ n) (hn : n < len) (hy : cells.drop (n.toNat * sz) = ys) (ho : o.op = .indexAddr t x ix := by rfl) (hx : OpIs C r x (.fptr cells) := by exact ⟨_, by kernel_rfl, Le.same⟩) (hi : OpIs C r ix (.c (.raw (.int k n))) := by exact ⟨_, by kernel_rfl, Le.same⟩)
    (hw : wants ops r o true := by exact rfl) (hd : dstOK C o.dst = true := by kernel_rfl) : SO C ops o r m [(x, .fptr cells), (ix, .c (.raw (.int k n)))] [] (some (.fptr ys)) [] [] := ⟨(OpT.indexAF ho ht hsz h0 hn hy).g, hw, ⟨hx, hi, trivial⟩, trivial, rfl, hd⟩
theorem nilCheck {x : Operand} (p : PV) (hp : (match p with | .ptr _ _ | .fptr _ | .aptr _ _ _ _ => true | _ => false) = true := by kernel_rfl) (ho : o.op = .nilCheck x := by rfl) (hx : OpIs C r x p := by exact ⟨_, by kernel_rfl, Le.same⟩)
    (hw : wants ops r o true := by exact rfl) (hd : dstOK C o.dst = true := by kernel_rfl) : SO C ops o r m [(x, p)] [] (some p) [] [] := ⟨(OpT.nilCheck ho hp).g, hw, ⟨hx, trivial⟩, trivial, rfl, hd⟩
theorem bin {op : BinOp} {t u : TypeId} {x y : Operand} {v1 v2 res : Value} (h : ∀ w, (do eqGuard op t x y v1 v2; binOp op t v1 v2 : Sem Value).run C.P w = .ok res w) (ho : o.op = .binOp op t x y u := by rfl) (hx : OpIs C r x (.c (.raw v1)) := by exact ⟨_, by kernel_rfl, Le.same⟩) (hy : OpIs C r y (.c (.raw v2)) := by exact ⟨_, by kernel_rfl, Le.same⟩) (hr : res.oneCell' = true := by kernel_rfl)
    (hw : wants ops r o true := by exact rfl) (hd : dstOK C o.dst = true := by kernel_rfl) : SO C ops o r m [(x, .c (.raw v1)), (y, .c (.raw v2))] [] (some (.c (.raw res))) [] [] := ⟨(OpT.bin ho h hr).g, hw, ⟨hx, hy, trivial⟩, trivial, rfl, hd⟩
theorem un {op : UnOp} {t : TypeId} {x : Operand} {v res : Value} (h : ∀ w, (Op.unary op v).run C.P w = .ok res w) (ho : o.op = .unOp op t x := by rfl) (hx : OpIs C r x (.c (.raw v)) := by exact ⟨_, by kernel_rfl, Le.same⟩) (hr : res.oneCell' = true := by kernel_rfl)
    (hw : wants ops r o true := by exact rfl) (hd : dstOK C o.dst = true := by kernel_rfl) : SO C ops o r m [(x, .c (.raw v))] [] (some (.c (.raw res))) [] [] := ⟨(OpT.un ho h hr).g, hw, ⟨hx, trivial⟩, trivial, rfl, hd⟩
theorem conv {s t : TypeId} {x : Operand} {v res : Value} (h : ∀ w, (convert s t v).run C.P w = .ok res w) (ho : o.op = .convert s t x := by rfl) (hx : OpIs C r x (.c (.raw v)) := by exact ⟨_, by kernel_rfl, Le.same⟩) (hr : res.oneCell' = true := by kernel_rfl)
    (hw : wants ops r o true := by exact rfl) (hd : dstOK C o.dst = true := by kernel_rfl) : SO C ops o r m [(x, .c (.raw v))] [] (some (.c (.raw res))) [] [] := ⟨(OpT.conv ho h hr).g, hw, ⟨hx, trivial⟩, trivial, rfl, hd⟩
theorem extract {x : Operand} {k : Nat} (xs : List PV) (p : PV) (ho : o.op = .extract x k := by rfl) (hx : OpIs C r x (.tup xs) := by exact ⟨_, by kernel_rfl, Le.same⟩) (hp : xs[k]? = some p := by kernel_rfl)
    (hw : wants ops r o true := by exact rfl) (hd : dstOK C o.dst = true := by kernel_rfl) : SO C ops o r m [(x, .tup xs)] [] (some p) [] [] := ⟨(OpT.extract ho hp).g, hw, ⟨hx, trivial⟩, trivial, rfl, hd⟩
theorem lenF {t e : TypeId} {x : Operand} (xs : List (List FV)) (n : Nat) (ht : C.P.underlying t = some (.slice e)) (hn : xs.length = n) (ho : o.op = .call { callee := .builtin .len, args := #[x], argTypes := #[t] } := by rfl) (hx : OpIs C r x (.c (.sl xs)) := by exact ⟨_, by kernel_rfl, Le.same⟩)
    (hw : wants ops r o true := by exact rfl) (hd : dstOK C o.dst = true := by kernel_rfl) : SO C ops o r m [(x, .c (.sl xs))] [] (some (.c (.raw (.int .i64 n)))) [] [] := by
  subst hn; exact ⟨(OpT.lenF ho ht rfl).g, hw, ⟨hx, trivial⟩, trivial, rfl, hd⟩
theorem lenN {t e : TypeId} {x : Operand} (ht : C.P.underlying t = some (.slice e)) (ho : o.op = .call { callee := .builtin .len, args := #[x], argTypes := #[t] } := by rfl) (hx : OpIs C r x (.c (.raw (.slice none 0 0))) := by exact ⟨_, by kernel_rfl, Le.same⟩)
    (hw : wants ops r o true := by exact rfl) (hd : dstOK C o.dst = true := by kernel_rfl) : SO C ops o r m [(x, .c (.raw (.slice none 0 0)))] [] (some (.c (.raw (.int .i64 0)))) [] [] := ⟨(OpT.lenN ho ht).g, hw, ⟨hx, trivial⟩, trivial, rfl, hd⟩
theorem lenO {t e : TypeId} {x : Operand} {sz : Nat} (e' : TypeId) (id : Nat) (xs : List (List FV)) (n : Nat) (ht : C.P.underlying t = some (.slice e)) (hn : xs.length = n) (ho : o.op = .call { callee := .builtin .len, args := #[x], argTypes := #[t] } := by rfl) (hx : OpIs C r x (.osl id) := by exact ⟨_, by kernel_rfl, Le.same⟩) (hm : look m id = some (.arr wr e' sz xs) := by kernel_rfl)
    (hw : wants ops r o true := by exact rfl) (hd : dstOK C o.dst = true := by kernel_rfl) : SO C ops o r m [(x, .osl id)] [(id, .arr wr e' sz xs)] (some (.c (.raw (.int .i64 n)))) [] [] := by
  subst hn; exact ⟨(OpT.lenO ho ht).g, hw, ⟨hx, trivial⟩, ⟨hm, trivial⟩, rfl, hd⟩
theorem lenS {t : TypeId} {x : Operand} (s : List UInt8) (ht : C.P.underlying t = some .string) (ho : o.op = .call { callee := .builtin .len, args := #[x], argTypes := #[t] } := by rfl) (hx : OpIs C r x (.c (.raw (.string (mkS s)))) := by exact ⟨_, by kernel_rfl, Le.same⟩)
    (hw : wants ops r o true := by exact rfl) (hd : dstOK C o.dst = true := by kernel_rfl) : SO C ops o r m [(x, .c (.raw (.string (mkS s))))] [] (some (.c (.raw (.int .i64 s.length)))) [] [] := ⟨(OpT.lenS ho ht).g, hw, ⟨hx, trivial⟩, trivial, rfl, hd⟩
theorem indexS {t : TypeId} {x ix : Operand} {k : IntKind} {n : Int} {b : UInt8} (s : List UInt8) (ht : C.P.underlying t = some .string) (h0 : 0 ≤ n) (hb : s[n.toNat]? = some b) (ho : o.op = .index t x ix := by rfl) (hx : OpIs C r x (.c (.raw (.string (mkS s)))) := by exact ⟨_, by kernel_rfl, Le.same⟩) (hi : OpIs C r ix (.c (.raw (.int k n))) := by exact ⟨_, by kernel_rfl, Le.same⟩)
    (hw : wants ops r o true := by exact rfl) (hd : dstOK C o.dst = true := by kernel_rfl) : SO C ops o r m [(x, .c (.raw (.string (mkS s)))), (ix, .c (.raw (.int k n)))] [] (some (.c (.raw (.int .u8 b.toNat)))) [] [] := ⟨(OpT.indexS ho ht h0 hb).g, hw, ⟨hx, hi, trivial⟩, trivial, rfl, hd⟩
theorem append {t e : TypeId} {sz bytes : Nat} {s x : Operand} (id n : Nat) (xs ys zs : List (List FV)) (hT : AT C.P t e sz bytes) (hy : ys.all (fun r => r.length == sz) = true) (hb : (xs.length + ys.length) * bytes ≤ 140737488355328) (h63 : xs.length + ys.length ≤ maxLen) (hz : xs ++ ys = zs) (ho : o.op = .call { callee := .builtin .append, args := #[s, x], argTypes := #[t, t] } := by rfl)
    (hs : OpIs C r s (.osl id) := by exact ⟨_, by kernel_rfl, Le.same⟩) (hx : OpIs C r x (.c (.sl ys)) := by exact ⟨_, by kernel_rfl, Le.same⟩) (hm : look m id = some (.arr wr e sz xs) := by kernel_rfl) (hf : fresh C.M m r [n] = true := by kernel_rfl)
    (hw : wants ops r o true := by exact rfl) (hd : dstOK C o.dst = true := by kernel_rfl) : SO C ops o r m [(s, .osl id), (x, .c (.sl ys))] [(id, .arr wr e sz xs)] (some (.osl n)) [(n, some (.arr wr e sz zs)), (id, none)] [n] := by
  subst hz; exact ⟨(OpT.append ho hT hy hb h63).g, hw, ⟨hs, hx, trivial⟩, ⟨hm, trivial⟩, hf, hd⟩
theorem appendN {t e : TypeId} {sz bytes : Nat} {s x : Operand} (n : Nat) (ys : List (List FV)) (hT : AT C.P t e sz bytes) (hy : ys.all (fun r => r.length == sz) = true) (hb : ys.length * bytes ≤ 140737488355328) (h63 : ys.length ≤ maxLen) (ho : o.op = .call { callee := .builtin .append, args := #[s, x], argTypes := #[t, t] } := by rfl)
    (hs : OpIs C r s (.c (.raw (.slice none 0 0))) := by exact ⟨_, by kernel_rfl, Le.same⟩) (hx : OpIs C r x (.c (.sl ys)) := by exact ⟨_, by kernel_rfl, Le.same⟩) (hf : fresh C.M m r [n] = true := by kernel_rfl)
    (hw : wants ops r o true := by exact rfl) (hd : dstOK C o.dst = true := by kernel_rfl) : SO C ops o r m [(s, .c (.raw (.slice none 0 0))), (x, .c (.sl ys))] [] (some (.osl n)) [(n, some (.arr wr e sz ys))] [n] := ⟨(OpT.appendN ho hT hy hb h63).g, hw, ⟨hs, hx, trivial⟩, trivial, hf, hd⟩
theorem appendO {t e : TypeId} {sz bytes : Nat} {s x : Operand} (e2 : TypeId) (id id2 n : Nat) (xs ys zs : List (List FV)) (hT : AT C.P t e sz bytes) (hb : (xs.length + ys.length) * bytes ≤ 140737488355328) (h63 : xs.length + ys.length ≤ maxLen) (hz : xs ++ ys = zs) (ho : o.op = .call { callee := .builtin .append, args := #[s, x], argTypes := #[t, t] } := by rfl)
    (hs : OpIs C r s (.osl id) := by exact ⟨_, by kernel_rfl, Le.same⟩) (hx : OpIs C r x (.osl id2) := by exact ⟨_, by kernel_rfl, Le.same⟩) (hm : look m id = some (.arr wr e sz xs) := by kernel_rfl) (hm2 : look m id2 = some (.arr wr2 e2 sz ys) := by kernel_rfl) (hf : fresh C.M m r [n] = true := by kernel_rfl)
    (hw : wants ops r o true := by exact rfl) (hd : dstOK C o.dst = true := by kernel_rfl) : SO C ops o r m [(s, .osl id), (x, .osl id2)] [(id, .arr wr e sz xs), (id2, .arr wr2 e2 sz ys)] (some (.osl n)) [(n, some (.arr wr e sz zs)), (id, none)] [n] := by
  subst hz; exact ⟨(OpT.appendO ho hT hb h63).g, hw, ⟨hs, hx, trivial⟩, ⟨hm, hm2, trivial⟩, hf, hd⟩
theorem appendNO {t e : TypeId} {sz bytes : Nat} {s x : Operand} (e2 : TypeId) (id2 n : Nat) (ys : List (List FV)) (hT : AT C.P t e sz bytes) (hb : ys.length * bytes ≤ 140737488355328) (h63 : ys.length ≤ maxLen) (ho : o.op = .call { callee := .builtin .append, args := #[s, x], argTypes := #[t, t] } := by rfl)
    (hs : OpIs C r s (.c (.raw (.slice none 0 0))) := by exact ⟨_, by kernel_rfl, Le.same⟩) (hx : OpIs C r x (.osl id2) := by exact ⟨_, by kernel_rfl, Le.same⟩) (hm2 : look m id2 = some (.arr wr2 e2 sz ys) := by kernel_rfl) (hf : fresh C.M m r [n] = true := by kernel_rfl)
    (hw : wants ops r o true := by exact rfl) (hd : dstOK C o.dst = true := by kernel_rfl) : SO C ops o r m [(s, .c (.raw (.slice none 0 0))), (x, .osl id2)] [(id2, .arr wr2 e2 sz ys)] (some (.osl n)) [(n, some (.arr wr e sz ys))] [n] := ⟨(OpT.appendNO ho hT hb h63).g, hw, ⟨hs, hx, trivial⟩, ⟨hm2, trivial⟩, hf, hd⟩
theorem build {t : TypeId} {is : List Nat} {xs : List Operand} {zs : List Value} {places : List (Nat × Nat)} (ps out : List PV) (hb : BI C.P t zs places) (hin : InsOK C.Γ r (xs.zip ps)) (ho : o.op = .build t (is.zip xs).toArray) (hl : is.length = ps.length := by kernel_rfl) (hl2 : xs.length = ps.length := by kernel_rfl) (hf : ps.all PV.flat = true := by kernel_rfl)
    (hout : fillP (fun i => places[i]?) (zs.map fun v => .c (.raw v)) (is.zip ps) = some out := by kernel_rfl) (hw : wants ops r o true := by exact rfl) (hd : dstOK C o.dst = true := by kernel_rfl) : SO C ops o r m (xs.zip ps) [] (some (.agg out)) [] [] := ⟨(OpT.build ho hb hl hl2 hf hout).g, hw, hin, trivial, rfl, hd⟩
theorem call {x : Operand} {xs : List Operand} {ts : Array TypeId} {f : FuncId} {caps : List PV} {mc mc' : MemL} {pv : PV} {new : List Nat} (ps : List PV) (hC : ACalls C.P C.Γ f (ps ++ caps) mc pv mc' new) (hci : CI C.P f) (hin : InsOK C.Γ r (xs.zip ps)) (hm : MemOK m (entL mc)) (ho : o.op = .call { callee := .value x, args := xs.toArray, argTypes := ts } := by rfl) (hx : OpIs C r x (.func f caps) := by exact ⟨_, by kernel_rfl, Le.same⟩)
    (ho1 : once mc = true := by kernel_rfl) (hmk : madeOK mc mc' new = true := by kernel_rfl) (hl : xs.length = ps.length := by kernel_rfl) (hf : fresh C.M m r new = true := by kernel_rfl) (hw : wants ops r o true := by exact rfl) (hd : dstOK C o.dst = true := by kernel_rfl) :
    SO C ops o r m ((x, .func f caps) :: xs.zip ps) (entL mc) (some pv) (mc' ++ kill mc) new := ⟨OpTG.call ho hC hci ho1 hmk hl, hw, ⟨hx, hin⟩, hm, hf, hd⟩
theorem makeFunc {f : FuncId} {xs : List Operand} (ps : List PV) (hin : InsOK C.Γ r (xs.zip ps)) (ho : o.op = .makeFunc (.func f) #[] xs.toArray := by rfl) (hl : xs.length = ps.length := by kernel_rfl) (hw : wants ops r o true := by exact rfl) (hd : dstOK C o.dst = true := by kernel_rfl) :
    SO C ops o r m (xs.zip ps) [] (some (.func f ps)) [] [] := ⟨(OpT.makeFunc ho hl).g, hw, hin, trivial, rfl, hd⟩
theorem min2 {x y : Operand} {k : IntKind} {a b : Int} {t : Array TypeId} (ho : o.op = .call { callee := .builtin .min, args := #[x, y], argTypes := t } := by rfl) (hx : OpIs C r x (.c (.raw (.int k a))) := by exact ⟨_, by kernel_rfl, Le.same⟩) (hy : OpIs C r y (.c (.raw (.int k b))) := by exact ⟨_, by kernel_rfl, Le.same⟩)
    (hw : wants ops r o true := by exact rfl) (hd : dstOK C o.dst = true := by kernel_rfl) : SO C ops o r m [(x, .c (.raw (.int k a))), (y, .c (.raw (.int k b)))] [] (some (.c (.raw (.int k (if b < a then b else a))))) [] [] := ⟨(OpT.min2 ho).g, hw, ⟨hx, hy, trivial⟩, trivial, rfl, hd⟩
theorem buildSlice {t e : TypeId} {len sz : Nat} {is : List Nat} {xs : List Operand} {zs : List Value} {i : TypeInfo} {z : Value} (s : Nat) (ps : List PV) (rows : List (List FV)) (ht : C.P.underlying t = some (.slice e)) (hi1 : C.P.info? e = some i) (hsz : i.size = sz) (hz0 : 0 < sz) (hi2 : i.zero = some z) (hi3 : z.cells = zs.toArray)
    (hin : InsOK C.Γ r (xs.zip ps)) (ho : o.op = .buildSlice t len (is.zip xs).toArray) (hone : (zeroL zs (len * sz)).all (·.oneCell') = true := by kernel_rfl) (hsmall : Nat.ble (len * sz) 16777216 = true := by kernel_rfl) (hl : is.length = ps.length := by kernel_rfl) (hl2 : xs.length = ps.length := by kernel_rfl) (hfl : ps.all PV.flat = true := by kernel_rfl)
    (hout : fillP (fun i => some (i * sz, sz)) ((zeroL zs (len * sz)).map fun v => .c (.raw v)) (is.zip ps) = some (rows.flatten.map .c) := by kernel_rfl) (hrl : rows.length = len := by kernel_rfl) (hrow : rows.all (fun r => r.length == sz) = true := by kernel_rfl) (hf : fresh C.M m r [s] = true := by kernel_rfl)
    (hw : wants ops r o true := by exact rfl) (hd : dstOK C o.dst = true := by kernel_rfl) : SO C ops o r m (xs.zip ps) [] (some (.osl s)) [(s, some (.arr wr e sz rows))] [s] :=
  ⟨(OpT.buildSlice ho ht hi1 hsz hz0 hi2 hi3 hone (Nat.le_of_ble_eq_true hsmall) hl hl2 hfl hout hrl hrow).g, hw, hin, trivial, hf, hd⟩
end L
end
end Go.Ab
