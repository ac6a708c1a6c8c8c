/- The rules of stores, new blocks, arithmetic, comparisons, lengths, struct and slice literals. Conditions: none. -/
import Derived.Test.YtiojahpkaogigaaGreatDoorAb2
namespace Go.Ab
variable {wr wr2 : Bool}

def PV.cells : PV → List PV
  | .agg xs => xs
  | p => [p]
def PV.one : PV → Bool
  | .agg _ | .tup _ => false
  | _ => true
def PV.flat : PV → Bool
  | .agg xs => xs.all PV.one
  | .tup _ => false
  | _ => true

theorem VR.one {F : Fz} {ν : Nu} {v : Value} {p : PV} (h : VR F ν v p) (hp : p.one = true) : v.oneCell' = true := by
  cases p <;> simp only [VR] at h
  · exact h.oneCell
  · simp [PV.one] at hp
  · simp [PV.one] at hp
  · obtain ⟨b, _, rfl⟩ := h; rfl
  · obtain ⟨b, o, rfl, _⟩ := h; rfl
  · exact h.2
  · obtain ⟨b, n, cp, _, rfl⟩ := h; rfl
  · exact h.2
  · obtain ⟨vs, rfl, _⟩ := h; rfl

theorem VRs.one {F : Fz} {ν : Nu} : ∀ {ps : List PV} {vs : List Value}, VRs F ν vs ps → ps.all PV.one = true → ∀ u ∈ vs, u.oneCell' = true
  | [], vs, h, _ => by simp only [VRs] at h; simp [h]
  | p :: ps, vs, h, ha => by
    simp only [VRs] at h
    obtain ⟨v, r, rfl, h1, h2⟩ := h
    simp only [List.all_cons, Bool.and_eq_true] at ha
    intro u hu
    rcases List.mem_cons.1 hu with rfl | hu
    · exact h1.one ha.1
    · exact h2.one ha.2 u hu

theorem oneCell_cells {v : Value} (h : v.oneCell' = true) : v.cells = #[v] := by cases v <;> first | rfl | simp [Value.oneCell'] at h

theorem VR.cells {F : Fz} {ν : Nu} {v : Value} {p : PV} (h : VR F ν v p) (hp : p.flat = true) : VRs F ν v.cells.toList p.cells ∧ ∀ u ∈ v.cells.toList, u.oneCell' = true := by
  by_cases h1 : p.one = true
  · have hv := h.one h1
    have hc : p.cells = [p] := by cases p <;> first | rfl | simp [PV.one] at h1
    rw [oneCell_cells hv, hc]
    exact ⟨by simp only [VRs]; exact ⟨v, [], rfl, h, rfl⟩, fun u hu => by simp at hu; subst hu; exact hv⟩
  · cases p <;> first | (simp [PV.one] at h1; done) | (simp [PV.flat] at hp; done) | skip
    rename_i xs
    simp only [VR] at h
    obtain ⟨vs, rfl, h2⟩ := h
    exact ⟨by simpa [Value.cells, PV.cells] using h2, fun u hu => by simp [Value.cells] at hu; exact h2.one hp u hu⟩

def splice (cells : List PV) (off : Nat) (ps : List PV) : List PV := cells.take off ++ ps ++ cells.drop (off + ps.length)

section
variable {P : Program} {o : Oper}

theorem OpT.store {t : TypeId} {ad x : Operand} {id off n : Nat} {cells cells' : List PV} {p : PV} (ho : o.op = .store t ad x) (ht : (P.info? t).map (·.size) = some n) (hn : p.cells.length = n)
    (hf : p.flat = true) (hfit : off + n ≤ cells.length) (hres : splice cells off p.cells = cells') :
    OpT P o [(ad, .ptr id off), (x, p)] [(id, .var cells)] none [(id, some (.var cells'))] [] := by
  intro a w F ν M hst hi hm _ _ K Q hK
  obtain ⟨b, hb, hv⟩ := VR.ptr (hi (ad, .ptr id off) (by simp))
  have hx := (hi (x, p) (by simp)).cells hf
  have hM : M id = some (.var cells) := hm (id, .var cells) (by simp)
  obtain ⟨b', cs, ty, h1, h2, h3, h4, h5⟩ := (hst.ents id _ hM).var
  rw [hb] at h1; injection h1 with h1; injection h1 with h1; injection h1 with h1; subst h1
  have hl1 : (a.eval x).cells.toList.length = n := by rw [hx.1.length, hn]
  have hl2 : cs.toList.length = cells.length := h4.length
  have hst' := run_storeCells_at P b off ty (a.eval x).cells.toList 0 cs w h2 (by simp only [Array.length_toList] at hl1 hl2 ⊢; omega) hx.2
  have hsz : ∀ w, (Go.sizeOf t).run P w = .ok n w := by
    intro w
    cases hq : P.info? t with
    | none => simp [hq] at ht
    | some i => simp [hq] at ht; simp [Go.sizeOf, typeInfo, hq, ht]
  have hl1' : (a.eval x).cells.size = n := by simpa using hl1
  have hrun : (execOp a.eval o).run P w = .ok .skip (w.setRow b (cs.toList.take off ++ (a.eval x).cells.toList ++ cs.toList.drop (off + (a.eval x).cells.toList.length)).toArray) := by
    simp only [Nat.add_zero] at hst'
    simp [execOp, ho, hv, Instr.storeAt, Instr.sureAddr, storeVar, hsz, hl1', hst']
  unfold Oper.wp
  rw [hrun]
  simp only [Oper.upon]
  have hbk : blk (ν id) = some b := by rw [hb]; rfl
  refine hK undef _ F ν (by simp) (hst.write id _ (.var cells') b hM hbk h5 (fun k hk => setRow_other w b k _ hk) ⟨b, _, ty, hb, setRow_heap w b cs _ ty _ h2, ?_, ?_, h5⟩)
    (Ext.write id _ _ b hM hbk (fun k hk => setRow_other w b k _ hk) (by simp) rfl rfl rfl) (fun _ _ => rfl)
  · intro u hu
    simp only [List.mem_append] at hu
    rcases hu with (hu | hu) | hu
    · exact h3 u (List.mem_of_mem_take hu)
    · exact hx.2 u hu
    · exact h3 u (List.mem_of_mem_drop hu)
  · rw [← hres]
    simp only [splice]
    rw [hx.1.length]
    exact ((h4.take off).append hx.1).append (h4.drop _)

theorem newBlock {a : Act} {w w1 : World} {F : Fz} {ν : Nu} {M : Mem} (hst : St F ν M w) (hw1 : w1.heap = w.heap) (hos : w1.os = w.os) (htp : w1.tape = w.tape) (hou : w1.output = w.output) (s : Nat) (hM : M s = none)
    (hs : ∀ id e, M id = some e → e.says s = false) (ob : Obj) (hd : Value) (e : Ent) (hb : ∀ b, blk hd = some b → b = w.heap.size) (he : ER F (upN ν s hd) (w1.alloc ob) hd e) (pv : PV) (v : Value) (hv : VR F (upN ν s hd) v pv)
    {K : Act → World → Prop} {dst : Option Tmp}
    (hK : ∀ v w' F' ν', (∀ p, some pv = some p → VR F' ν' v p) → St F' ν' (updM M [(s, some e)]) w' → Ext F ν M w F' ν' (updM M [(s, some e)]) w' → (∀ id, id ∉ [s] → ν' id = ν id) → K (a.put dst v) w') : K (a.put dst v) (w1.alloc ob) :=
  hK v _ F (upN ν s hd) (fun p hp => by cases hp; exact hv) (hst.alloc ob hw1 s hd e hM hs hb he) (Ext.alloc ob hw1 hos htp hou s hd e hb) (fun id hid => upN_other ν hd (by simpa using hid))

theorem alloc_none {F : Fz} {ν : Nu} {M : Mem} {w : World} (hst : St F ν M w) : ∀ o, F w.heap.size o = none := fun o => hst.none_of_size (Nat.le_refl _) o

/-- A new variable with given cells. -/
theorem ER.newVar {F : Fz} {ν : Nu} {M : Mem} {w : World} (hst : St F ν M w) (s : Nat) {vs : List Value} {ps : List PV} {ty : TypeId} (h1 : ∀ u ∈ vs, u.oneCell' = true) (h : VRs F (upN ν s (.pointer (some ⟨w.heap.size, 0, none⟩))) vs ps) :
    ER F (upN ν s (.pointer (some ⟨w.heap.size, 0, none⟩))) (w.alloc (.cells vs.toArray ty)) (.pointer (some ⟨w.heap.size, 0, none⟩)) (.var ps) :=
  ⟨w.heap.size, vs.toArray, ty, rfl, heap_alloc_new w _, by simpa using h1, by simpa using h, alloc_none hst⟩

theorem OpT.alloc {t : TypeId} {i : TypeInfo} {z : Value} {zs : List Value} {s : Nat} (ho : o.op = .alloc t) (hi : P.info? t = some i) (hz : i.zero = some z) (hzs : z.cells = zs.toArray) (h1 : zs.all (·.oneCell') = true) :
    OpT P o [] [] (some (.ptr s 0)) [(s, some (.var (zs.map fun v => .c (.raw v))))] [s] := by
  intro a w F ν M hst _ _ hn hs K Q hK
  have hrun : (execOp a.eval o).run P w = .ok (.value (.pointer (some ⟨w.heap.size, 0, none⟩))) (w.alloc (.cells zs.toArray t)) := by
    simp [execOp, ho, Instr.alloc, zeroValue, typeInfo, hi, hz, newVar, newRow, hzs]
  unfold Oper.wp
  rw [hrun]
  simp only [Oper.upon]
  have h1' : ∀ u ∈ zs, u.oneCell' = true := by simpa using h1
  refine newBlock hst rfl rfl rfl rfl s (hn s (by simp)) (fun id e h => hs id e h s (by simp)) _ (.pointer (some ⟨w.heap.size, 0, none⟩)) _ (fun b hb => by simp [blk] at hb; exact hb.symm) (ER.newVar hst s h1' ?_) _ _ ?_ hK
  · refine VRs.of_get (by simp) fun k x v hx hv => ?_
    simp only [List.getElem?_map, hv, Option.map_some, Option.some.injEq] at hx
    subst hx
    exact VR.of_raw (h1' v (List.mem_of_getElem? hv))
  · simp only [VR]; exact ⟨w.heap.size, by simp, rfl⟩

theorem VRs.fresh {F : Fz} {ν : Nu} {vs : List Value} {ps : List PV} {s : Nat} {hd : Value} (h : VRs F ν vs ps) (hs : PV.saysL s ps = false) : VRs F (upN ν s hd) vs ps :=
  h.mono (new := [s]) F.le_refl (fun i => by
    by_cases hi : i = s
    · exact .inr (by simp [hi])
    · exact .inl (upN_other ν hd hi).symm) (fun x hx => by simp at hx; subst hx; exact hs)

theorem OpT.box {t : TypeId} {x : Operand} {p : PV} {ps : List PV} {s : Nat} (ho : o.op = .box t x) (hf : p.flat = true) (hps : p.cells = ps) (hs' : PV.saysL s ps = false) :
    OpT P o [(x, p)] [] (some (.ptr s 0)) [(s, some (.var ps))] [s] := by
  intro a w F ν M hst hi _ hn hs K Q hK
  have hx := (hi (x, p) (by simp)).cells hf
  have hrun : (execOp a.eval o).run P w = .ok (.value (.pointer (some ⟨w.heap.size, 0, none⟩))) (w.alloc (.cells (a.eval x).cells.toList.toArray t)) := by
    simp [execOp, ho, Instr.box, newVar, newRow]
  unfold Oper.wp
  rw [hrun]
  simp only [Oper.upon]
  subst hps
  refine newBlock hst rfl rfl rfl rfl s (hn s (by simp)) (fun id e h => hs id e h s (by simp)) _ (.pointer (some ⟨w.heap.size, 0, none⟩)) _ (fun b hb => by simp [blk] at hb; exact hb.symm) (ER.newVar hst s hx.2 (hx.1.fresh hs')) _ _ ?_ hK
  simp only [VR]; exact ⟨w.heap.size, by simp, rfl⟩

/-- An operator on two plain values. -/
theorem OpT.bin {op : BinOp} {t u : TypeId} {x y : Operand} {v1 v2 r : Value} (ho : o.op = .binOp op t x y u) (h : ∀ w, (do eqGuard op t x y v1 v2; binOp op t v1 v2 : Sem Value).run P w = .ok r w) (hr : r.oneCell' = true) :
    OpT P o [(x, .c (.raw v1)), (y, .c (.raw v2))] [] (some (.c (.raw r))) [] [] :=
  OpT.pure fun a w F ν M _ hi _ => by
    have h1 := VR.raw (hi (x, .c (.raw v1)) (by simp))
    have h2 := VR.raw (hi (y, .c (.raw v2)) (by simp))
    refine ⟨r, ?_, VR.of_raw hr⟩
    have := h w
    simp only [execOp, ho, h1, h2]
    rw [Sem.run_bind, this]
    rfl

theorem guard_int (op : BinOp) (t : TypeId) (x y : Operand) (k k' : IntKind) (a b : Int) (w : World) : (eqGuard op t x y (.int k a) (.int k' b)).run P w = .ok () w := by
  cases op <;> rfl
theorem guard_string (op : BinOp) (t : TypeId) (x y : Operand) (a b : ByteArray) (w : World) : (eqGuard op t x y (.string a) (.string b)).run P w = .ok () w := by
  cases op <;> rfl
theorem guard_bool (op : BinOp) (t : TypeId) (x y : Operand) (a b : Bool) (w : World) : (eqGuard op t x y (.bool a) (.bool b)).run P w = .ok () w := by
  cases op <;> rfl

theorem bin_eql {t : TypeId} {x y : Operand} (k : IntKind) (a b : Int) (w : World) : (do eqGuard .eql t x y (.int k a) (.int k b); binOp .eql t (.int k a) (.int k b) : Sem Value).run P w = .ok (.bool (decide (a = b))) w := by
  rw [Sem.run_bind, guard_int]; simp [binOp, Op.intCmp]; rfl
theorem bin_neq {t : TypeId} {x y : Operand} (k : IntKind) (a b : Int) (w : World) : (do eqGuard .neq t x y (.int k a) (.int k b); binOp .neq t (.int k a) (.int k b) : Sem Value).run P w = .ok (.bool (!decide (a = b))) w := by
  rw [Sem.run_bind, guard_int]; simp [binOp, Op.intCmp]; rfl
theorem bin_lss {t : TypeId} {x y : Operand} (k : IntKind) (a b : Int) (w : World) : (do eqGuard .lss t x y (.int k a) (.int k b); binOp .lss t (.int k a) (.int k b) : Sem Value).run P w = .ok (.bool (decide (a < b))) w := by
  rw [Sem.run_bind, guard_int]; simp [binOp, Op.intCmp]
theorem bin_leq {t : TypeId} {x y : Operand} (k : IntKind) (a b : Int) (w : World) : (do eqGuard .leq t x y (.int k a) (.int k b); binOp .leq t (.int k a) (.int k b) : Sem Value).run P w = .ok (.bool (decide (a ≤ b))) w := by
  rw [Sem.run_bind, guard_int]; simp [binOp, Op.intCmp]
theorem bin_gtr {t : TypeId} {x y : Operand} (k : IntKind) (a b : Int) (w : World) : (do eqGuard .gtr t x y (.int k a) (.int k b); binOp .gtr t (.int k a) (.int k b) : Sem Value).run P w = .ok (.bool (decide (b < a))) w := by
  rw [Sem.run_bind, guard_int]; simp [binOp, Op.intCmp]
theorem bin_geq {t : TypeId} {x y : Operand} (k : IntKind) (a b : Int) (w : World) : (do eqGuard .geq t x y (.int k a) (.int k b); binOp .geq t (.int k a) (.int k b) : Sem Value).run P w = .ok (.bool (decide (b ≤ a))) w := by
  rw [Sem.run_bind, guard_int]; simp [binOp, Op.intCmp]
theorem bin_add {t : TypeId} {x y : Operand} (k : IntKind) (a b : Int) (w : World) : (do eqGuard .add t x y (.int k a) (.int k b); binOp .add t (.int k a) (.int k b) : Sem Value).run P w = .ok (.int k (k.wrap (a + b))) w := by
  rw [Sem.run_bind, guard_int]; simp [binOp, Op.intArith]
theorem bin_sub {t : TypeId} {x y : Operand} (k : IntKind) (a b : Int) (w : World) : (do eqGuard .sub t x y (.int k a) (.int k b); binOp .sub t (.int k a) (.int k b) : Sem Value).run P w = .ok (.int k (k.wrap (a - b))) w := by
  rw [Sem.run_bind, guard_int]; simp [binOp, Op.intArith]
theorem bin_mul {t : TypeId} {x y : Operand} (k : IntKind) (a b : Int) (w : World) : (do eqGuard .mul t x y (.int k a) (.int k b); binOp .mul t (.int k a) (.int k b) : Sem Value).run P w = .ok (.int k (k.wrap (a * b))) w := by
  rw [Sem.run_bind, guard_int]; simp [binOp, Op.intArith]
theorem bin_rem {t : TypeId} {x y : Operand} (k : IntKind) (a b : Int) (hb : b ≠ 0) (w : World) : (do eqGuard .rem t x y (.int k a) (.int k b); binOp .rem t (.int k a) (.int k b) : Sem Value).run P w = .ok (.int k (a.tmod b)) w := by
  rw [Sem.run_bind, guard_int]; simp [binOp, Op.intDiv, hb]
theorem bin_quo {t : TypeId} {x y : Operand} (k : IntKind) (a b : Int) (hb : b ≠ 0) (w : World) : (do eqGuard .quo t x y (.int k a) (.int k b); binOp .quo t (.int k a) (.int k b) : Sem Value).run P w = .ok (.int k (k.wrap (a.tdiv b))) w := by
  rw [Sem.run_bind, guard_int]; simp [binOp, Op.intDiv, hb]

def mkS (l : List UInt8) : ByteArray := ⟨l.toArray⟩
theorem mkS_toList_loop (l : List UInt8) : ∀ (n i : Nat) (acc : List UInt8), l.length - i = n → ByteArray.toList.loop (mkS l) i acc = acc.reverse ++ l.drop i := by
  intro n
  induction n with
  | zero =>
    intro i acc h
    unfold ByteArray.toList.loop
    have hs : ¬ i < (mkS l).size := by simp [mkS, ByteArray.size]; omega
    rw [if_neg hs, List.drop_eq_nil_of_le (by omega), List.append_nil]
  | succ n ih =>
    intro i acc h
    unfold ByteArray.toList.loop
    have hs : i < (mkS l).size := by simp [mkS, ByteArray.size]; omega
    rw [if_pos hs, ih (i + 1) _ (by omega)]
    have hi : i < l.length := by omega
    rw [List.drop_eq_getElem_cons hi]
    simp [mkS, ByteArray.get!, hi]
theorem mkS_toList (l : List UInt8) : (mkS l).toList = l := by
  unfold ByteArray.toList
  rw [mkS_toList_loop l (l.length) 0 [] (by simp)]
  simp

theorem beq_dec (a b : List UInt8) : (a == b) = decide (a = b) := by
  rw [Bool.eq_iff_iff]; simp
theorem bin_seql {t : TypeId} {x y : Operand} (a b : List UInt8) (w : World) : (do eqGuard .eql t x y (.string (mkS a)) (.string (mkS b)); binOp .eql t (.string (mkS a)) (.string (mkS b)) : Sem Value).run P w = .ok (.bool (decide (a = b))) w := by
  rw [Sem.run_bind, guard_string]; simp [binOp, Op.stringOp, mkS_toList]; rw [beq_dec]
theorem bin_sneq {t : TypeId} {x y : Operand} (a b : List UInt8) (w : World) : (do eqGuard .neq t x y (.string (mkS a)) (.string (mkS b)); binOp .neq t (.string (mkS a)) (.string (mkS b)) : Sem Value).run P w = .ok (.bool (!decide (a = b))) w := by
  rw [Sem.run_bind, guard_string]; simp [binOp, Op.stringOp, mkS_toList]; rw [beq_dec]
theorem bin_slss {t : TypeId} {x y : Operand} (a b : List UInt8) (w : World) : (do eqGuard .lss t x y (.string (mkS a)) (.string (mkS b)); binOp .lss t (.string (mkS a)) (.string (mkS b)) : Sem Value).run P w = .ok (.bool (Op.bytesLess a b)) w := by
  rw [Sem.run_bind, guard_string]; simp [binOp, Op.stringOp, mkS_toList]
theorem bin_sgeq {t : TypeId} {x y : Operand} (a b : List UInt8) (w : World) : (do eqGuard .geq t x y (.string (mkS a)) (.string (mkS b)); binOp .geq t (.string (mkS a)) (.string (mkS b)) : Sem Value).run P w = .ok (.bool (!Op.bytesLess a b)) w := by
  rw [Sem.run_bind, guard_string]; simp [binOp, Op.stringOp, mkS_toList]
theorem bin_sleq {t : TypeId} {x y : Operand} (a b : List UInt8) (w : World) : (do eqGuard .leq t x y (.string (mkS a)) (.string (mkS b)); binOp .leq t (.string (mkS a)) (.string (mkS b)) : Sem Value).run P w = .ok (.bool (Op.bytesLess a b || decide (a = b))) w := by
  rw [Sem.run_bind, guard_string]; simp [binOp, Op.stringOp, mkS_toList]; rw [beq_dec]
theorem bin_sgtr {t : TypeId} {x y : Operand} (a b : List UInt8) (w : World) : (do eqGuard .gtr t x y (.string (mkS a)) (.string (mkS b)); binOp .gtr t (.string (mkS a)) (.string (mkS b)) : Sem Value).run P w = .ok (.bool (!(Op.bytesLess a b || decide (a = b)))) w := by
  rw [Sem.run_bind, guard_string]; simp [binOp, Op.stringOp, mkS_toList]; rw [beq_dec]
theorem bin_sadd {t : TypeId} {x y : Operand} (a b : List UInt8) (h : a.length + b.length ≤ 9223372036854775807) (w : World) : (do eqGuard .add t x y (.string (mkS a)) (.string (mkS b)); binOp .add t (.string (mkS a)) (.string (mkS b)) : Sem Value).run P w = .ok (.string (mkS (a ++ b))) w := by
  have e : (mkS a ++ mkS b) = mkS (a ++ b) := by
    apply ByteArray.ext
    simp [mkS, ByteArray.data_append]
  have h' : ¬ ((((mkS a).size + (mkS b).size : Nat) : Int) > IntKind.i64.max) := by
    have : IntKind.i64.max = 9223372036854775807 := rfl
    simp only [mkS, ByteArray.size, List.size_toArray, this]; omega
  rw [Sem.run_bind, guard_string]
  simp only [Result.andThen_ok, binOp, Op.stringOp]
  rw [if_neg h', e]; rfl
theorem run_equal_bool {t : TypeId} (ht : P.underlying t = some .bool) (a b : Bool) (w : World) : (Op.equal t (.bool a) (.bool b)).run P w = .ok (a == b) w := by
  show (Op.equalIn (9999 + 1) t (.bool a) (.bool b)).run P w = _
  unfold Op.equalIn
  rw [Sem.run_bind, run_underlying ht]
  rfl
theorem bin_beql {t : TypeId} {x y : Operand} (ht : P.underlying t = some .bool) (a b : Bool) (w : World) : (do eqGuard .eql t x y (.bool a) (.bool b); binOp .eql t (.bool a) (.bool b) : Sem Value).run P w = .ok (.bool (a == b)) w := by
  rw [Sem.run_bind, guard_bool]
  simp only [Result.andThen_ok, binOp]
  rw [Sem.run_bind, run_equal_bool ht]
  rfl
theorem bin_bneq {t : TypeId} {x y : Operand} (ht : P.underlying t = some .bool) (a b : Bool) (w : World) : (do eqGuard .neq t x y (.bool a) (.bool b); binOp .neq t (.bool a) (.bool b) : Sem Value).run P w = .ok (.bool (!(a == b))) w := by
  rw [Sem.run_bind, guard_bool]
  simp only [Result.andThen_ok, binOp]
  rw [Sem.run_bind, run_equal_bool ht]
  rfl

theorem OpT.un {op : UnOp} {t : TypeId} {x : Operand} {v r : Value} (ho : o.op = .unOp op t x) (h : ∀ w, (Op.unary op v).run P w = .ok r w) (hr : r.oneCell' = true) :
    OpT P o [(x, .c (.raw v))] [] (some (.c (.raw r))) [] [] :=
  OpT.pure fun a w F ν M _ hi _ => by
    have h1 := VR.raw (hi (x, .c (.raw v)) (by simp))
    exact ⟨r, by simp [execOp, ho, h1, h], VR.of_raw hr⟩
theorem un_not (b : Bool) (w : World) : (Op.unary .not (.bool b)).run P w = .ok (.bool (!b)) w := rfl
theorem un_neg (k : IntKind) (n : Int) (w : World) : (Op.unary .neg (.int k n)).run P w = .ok (.int k (k.wrap (0 - n))) w := rfl

theorem OpT.conv {s t : TypeId} {x : Operand} {v r : Value} (ho : o.op = .convert s t x) (h : ∀ w, (convert s t v).run P w = .ok r w) (hr : r.oneCell' = true) :
    OpT P o [(x, .c (.raw v))] [] (some (.c (.raw r))) [] [] :=
  OpT.pure fun a w F ν M _ hi _ => by
    have h1 := VR.raw (hi (x, .c (.raw v)) (by simp))
    exact ⟨r, by simp [execOp, ho, h1, h], VR.of_raw hr⟩
theorem conv_int {s t : TypeId} {k : IntKind} (j : IntKind) (n : Int) {d : TypeDesc} (hs : P.underlying s = some d) (ht : P.underlying t = some (.int k)) (w : World) : (convert s t (.int j n)).run P w = .ok (.int k (k.wrap n)) w := by
  simp [convert, run_underlying hs, run_underlying ht, Conv.intToInt]

theorem OpT.extract {x : Operand} {k : Nat} {xs : List PV} {p : PV} (ho : o.op = .extract x k) (hp : xs[k]? = some p) : OpT P o [(x, .tup xs)] [] (some p) [] [] :=
  OpT.pure fun a w F ν M _ hi _ => by
    have h := hi (x, .tup xs) (by simp)
    simp only [VR] at h
    obtain ⟨vs, hv, hr⟩ := h
    obtain ⟨v, h1, h2⟩ := hr.get hp
    exact ⟨v, by simp [execOp, ho, hv, Instr.extract, h1], h2⟩

theorem OpT.lenF {t ty : TypeId} {x : Operand} {xs : List (List FV)} {e : TypeId} (ho : o.op = .call { callee := .builtin .len, args := #[x], argTypes := #[t] }) (ht : P.underlying t = some (.slice e)) (_ : o.type = ty) :
    OpT P o [(x, .c (.sl xs))] [] (some (.c (.raw (.int .i64 xs.length)))) [] [] :=
  OpT.pure fun a w F ν M _ hi _ => by
    have h := hi (x, .c (.sl xs)) (by simp)
    simp only [VR, FR] at h
    obtain ⟨ad, c, hv, _⟩ := h
    exact ⟨.int .i64 xs.length, by simp [execOp, ho, resolve, invoke, builtin, hv, Builtin.len_, run_underlying ht, goInt], VR.of_raw rfl⟩
theorem OpT.lenN {t : TypeId} {x : Operand} {e : TypeId} (ho : o.op = .call { callee := .builtin .len, args := #[x], argTypes := #[t] }) (ht : P.underlying t = some (.slice e)) :
    OpT P o [(x, .c (.raw (.slice none 0 0)))] [] (some (.c (.raw (.int .i64 0)))) [] [] :=
  OpT.pure fun a w F ν M _ hi _ => by
    have hv := VR.raw (hi (x, .c (.raw (.slice none 0 0))) (by simp))
    exact ⟨.int .i64 0, by simp [execOp, ho, resolve, invoke, builtin, hv, Builtin.len_, run_underlying ht, goInt], VR.of_raw rfl⟩
theorem OpT.lenO {t : TypeId} {x : Operand} {e e' : TypeId} {id sz : Nat} {xs : List (List FV)} (ho : o.op = .call { callee := .builtin .len, args := #[x], argTypes := #[t] }) (ht : P.underlying t = some (.slice e)) :
    OpT P o [(x, .osl id)] [(id, .arr wr e' sz xs)] (some (.c (.raw (.int .i64 xs.length)))) [] [] :=
  OpT.pure fun a w F ν M hst hi hm => by
    have h := hi (x, .osl id) (by simp)
    simp only [VR] at h
    obtain ⟨hz, us, ho1, hr, _⟩ := hst.ents id _ (hm (id, .arr wr e' sz xs) (by simp))
    refine ⟨.int .i64 xs.length, ?_, VR.of_raw rfl⟩
    rcases ho1.2 with ⟨h2, h3⟩ | ⟨g, cap, cur, h2, _⟩
    · rw [h2] at h; simp [execOp, ho, resolve, invoke, builtin, h.1, Builtin.len_, run_underlying ht, goInt, h3]
    · rw [h2] at h; simp [execOp, ho, resolve, invoke, builtin, h.1, Builtin.len_, run_underlying ht, goInt]
theorem OpT.lenS {t : TypeId} {x : Operand} {l : List UInt8} (ho : o.op = .call { callee := .builtin .len, args := #[x], argTypes := #[t] }) (ht : P.underlying t = some .string) :
    OpT P o [(x, .c (.raw (.string (mkS l))))] [] (some (.c (.raw (.int .i64 l.length)))) [] [] :=
  OpT.pure fun a w F ν M _ hi _ => by
    have hv := VR.raw (hi (x, .c (.raw (.string (mkS l)))) (by simp))
    have hz : (mkS l).size = l.length := by simp [mkS, ByteArray.size]
    exact ⟨.int .i64 l.length, by simp [execOp, ho, resolve, invoke, builtin, hv, Builtin.len_, run_underlying ht, goInt, hz], VR.of_raw rfl⟩
theorem OpT.indexS {t : TypeId} {x ix : Operand} {l : List UInt8} {k : IntKind} {n : Int} {b : UInt8} (ho : o.op = .index t x ix) (ht : P.underlying t = some .string) (h0 : 0 ≤ n) (hb : l[n.toNat]? = some b) :
    OpT P o [(x, .c (.raw (.string (mkS l)))), (ix, .c (.raw (.int k n)))] [] (some (.c (.raw (.int .u8 b.toNat)))) [] [] :=
  OpT.pure fun a w F ν M _ hi _ => by
    have hv := VR.raw (hi (x, .c (.raw (.string (mkS l)))) (by simp))
    have h2 := VR.raw (hi (ix, .c (.raw (.int k n))) (by simp))
    have hb' : (mkS l)[n.toNat]? = some b := by
      have hlt : n.toNat < l.length := by
        rcases Nat.lt_or_ge n.toNat l.length with h | h
        · exact h
        · simp [List.getElem?_eq_none h] at hb
      have hs : n.toNat < (mkS l).size := by simpa [mkS, ByteArray.size] using hlt
      rw [getElem?_pos (mkS l) n.toNat hs]
      rw [List.getElem?_eq_getElem hlt] at hb
      simp at hb
      rw [← hb]; rfl
    exact ⟨.int .u8 b.toNat, by simp [execOp, ho, hv, h2, Instr.index, asIntOf, run_underlying ht, h0, hb'], VR.of_raw rfl⟩
end
end Go.Ab
