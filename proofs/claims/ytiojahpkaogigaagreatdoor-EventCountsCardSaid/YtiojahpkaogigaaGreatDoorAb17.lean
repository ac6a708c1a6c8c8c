/- Maps of the call's own, with plain keys and values. Conditions: none. -/
import Derived.Test.YtiojahpkaogigaaGreatDoorAb16
import Derived.MapKept
import Derived.Lib.Bytealg
import Derived.Laws.Externs
namespace Go.Ab

def mfind {κ β : Type} [DecidableEq κ] (a : κ) : List (κ × β) → Nat → Option (Nat × β)
  | [], _ => none
  | x :: l, i => if a = x.1 then some (i, x.2) else mfind a l (i + 1)
def mget {κ β : Type} [DecidableEq κ] (a : κ) (l : List (κ × β)) : Option β := (mfind a l 0).map (·.2)
def mput {κ β : Type} [DecidableEq κ] (a : κ) (b : β) (l : List (κ × β)) : List (κ × β) :=
  match mfind a l 0 with
  | some (i, _) => l.set i (a, b)
  | none => l ++ [(a, b)]
def mrow {κ β : Type} (ek : κ → Value) (ev : β → Value) (l : List (κ × β)) : List (Value × Value) := l.map fun x => (ek x.1, ev x.2)

theorem mfind_some {κ β : Type} [DecidableEq κ] {a : κ} : ∀ {l : List (κ × β)} {k i : Nat} {b : β}, mfind a l k = some (i, b) → k ≤ i ∧ l[i - k]? = some (a, b)
  | [], k, i, b, h => by simp [mfind] at h
  | x :: l, k, i, b, h => by
    simp only [mfind] at h
    split at h
    · rename_i e
      cases h
      exact ⟨Nat.le_refl _, by simp [e]⟩
    · have ih := mfind_some h
      refine ⟨by omega, ?_⟩
      rw [show i - k = (i - (k + 1)) + 1 by omega]
      simpa using ih.2

theorem mkS_beq (l : List UInt8) : (mkS l == mkS l) = true := by rw [beq_toListBytes]; simp
/-- A key's type. -/
structure KT (P : Program) (kt : TypeId) {κ : Type} [DecidableEq κ] (ek : κ → Value) : Prop where
  check : ∀ em a w, (Instr.checkKey em 10000 kt (ek a)).run P w = .ok () w
  find : ∀ {β : Type} (ev : β → Value) (a : κ) (ms : List MapEntry) (l : List (κ × β)) w, ms.map (fun m => (m.key, m.val)) = mrow ek ev l → (Instr.findKey kt (ek a) ms).run P w = .ok ((mfind a l 0).map fun x => (x.1, ev x.2)) w
  stays : ∀ a w, (Instr.keyThatStays (ek a) (ek a)).run P w = .ok (ek a) w

section
variable {P : Program}
theorem findNow_int (k : IntKind) (k' : IntKind) {β : Type} (ev : β → Value) (a : Int) : ∀ (ms : List MapEntry) (l : List (Int × β)) (i : Nat), ms.map (fun m => (m.key, m.val)) = mrow (fun x => .int k x) ev l →
    Instr.findNow (.int k') (.int k a) ms i = some ((mfind a l i).map fun x => (x.1, ev x.2))
  | [], [], i, _ => rfl
  | [], _ :: _, i, h => by simp [mrow] at h
  | _ :: _, [], i, h => by simp [mrow] at h
  | m :: ms, x :: l, i, h => by
    simp only [mrow, List.map_cons, List.cons.injEq, Prod.mk.injEq] at h
    obtain ⟨⟨h1, h2⟩, h3⟩ := h
    have ih := findNow_int k k' ev a ms l (i + 1) h3
    simp only [Instr.findNow, h1, h2, Instr.sameNow, if_true, mfind]
    by_cases e : a = x.1
    · simp [e]
    · have : (a == x.1) = false := by simpa using e
      simp only [this, if_neg e]; exact ih
theorem KT.int {kt : TypeId} {k k' : IntKind} (h : P.underlying kt = some (.int k')) : KT P kt (fun x : Int => .int k x) where
  check := fun em a w => by
    show (Instr.checkKey em (9999 + 1) kt (.int k a)).run P w = _
    have key : ∀ d, (Instr.checkKey em (d + 1) kt (.int k a)).run P w = .ok () w := fun d => by simp [Instr.checkKey, run_underlying h]
    exact key 9999
  find := fun ev a ms l w hl => by
    have := findNow_int k k' ev a ms l 0 hl
    simp [Instr.findKey, run_underlying h, this]
  stays := fun a w => by simp [Instr.keyThatStays, Instr.sameBits]

theorem findAsking_struct {kt : TypeId} {κ : Type} [DecidableEq κ] {ek : κ → Value} (heq : ∀ x y w, (Op.equal kt (ek x) (ek y)).run P w = .ok (decide (x = y)) w) {β : Type} (ev : β → Value) (a : κ) (w : World) : ∀ (ms : List MapEntry) (l : List (κ × β)) (i : Nat), ms.map (fun m => (m.key, m.val)) = mrow ek ev l →
    (Instr.findAsking kt (ek a) ms i).run P w = .ok ((mfind a l i).map fun x => (x.1, ev x.2)) w
  | [], [], i, _ => by simp [Instr.findAsking, mfind]
  | [], _ :: _, i, h => by simp [mrow] at h
  | _ :: _, [], i, h => by simp [mrow] at h
  | m :: ms, x :: l, i, h => by
    simp only [mrow, List.map_cons, List.cons.injEq, Prod.mk.injEq] at h
    obtain ⟨⟨h1, h2⟩, h3⟩ := h
    have ih := findAsking_struct heq ev a w ms l (i + 1) h3
    simp only [Instr.findAsking, Sem.run_bind, h1, heq, Result.andThen_ok, mfind]
    by_cases e : a = x.1
    · simp [e, h2]
    · simp only [if_neg e, decide_eq_true_eq]; exact ih
theorem KT.struct {kt : TypeId} {fs : Array Field} {κ : Type} [DecidableEq κ] {ek : κ → Value} (h : P.underlying kt = some (.struct fs)) (heq : ∀ x y w, (Op.equal kt (ek x) (ek y)).run P w = .ok (decide (x = y)) w)
    (hc : ∀ em a w, (Instr.checkKey em 10000 kt (ek a)).run P w = .ok () w) (hs : ∀ a, Instr.sameBits 10000 (ek a) (ek a) = true) : KT P kt ek where
  check := hc
  find := fun ev a ms l w hl => by
    have h2 := findAsking_struct heq ev a w ms l 0 hl
    simp only [Instr.findKey, Sem.run_bind, run_underlying h, Result.andThen_ok]
    cases ms with
    | nil =>
      cases l with
      | nil => simp [Instr.findNow, mfind]
      | cons x l => simp [mrow] at hl
    | cons m ms => simp only [Instr.findNow, Instr.sameNow]; exact h2
  stays := fun a w => by simp [Instr.keyThatStays, hs]
end

def PV.raw? : PV → Option Value
  | .c (.raw v) => some v
  | _ => none
/-- A plain value, whole. -/
def PV.val : PV → Option Value
  | .c (.raw v) => some v
  | .agg ps => (ps.mapM PV.raw?).map fun vs => .agg vs.toArray
  | _ => none
theorem VR.raw? {F : Fz} {ν : Nu} {v u : Value} {p : PV} (h : VR F ν v p) (hp : p.raw? = some u) : v = u := by
  unfold PV.raw? at hp
  split at hp
  · cases hp; exact VR.raw h
  · cases hp
theorem VRs.val {F : Fz} {ν : Nu} : ∀ {ps : List PV} {us vs : List Value}, VRs F ν us ps → ps.mapM PV.raw? = some vs → us = vs
  | [], us, vs, h, h1 => by simp only [VRs] at h; simp at h1; rw [h, h1]
  | q :: ps, us, vs, h, h1 => by
    simp only [VRs] at h
    obtain ⟨v, r, rfl, h3, h4⟩ := h
    rw [List.mapM_cons] at h1
    simp only [bind, Option.bind_eq_some_iff, pure, Option.some.injEq] at h1
    obtain ⟨w, h5, ws, h6, rfl⟩ := h1
    rw [VRs.val h4 h6, VR.raw? h3 h5]
theorem VR.val {F : Fz} {ν : Nu} {v u : Value} {p : PV} (h : VR F ν v p) (hp : p.val = some u) : v = u := by
  unfold PV.val at hp
  split at hp
  · cases hp; exact VR.raw h
  · simp only [Option.map_eq_some_iff] at hp
    obtain ⟨vs, h1, rfl⟩ := hp
    simp only [VR] at h
    obtain ⟨us, rfl, h2⟩ := h
    rw [VRs.val h2 h1]
  · cases hp

def setB (w : World) (r : Nat) (o : Obj) : World := { w with heap := w.heap.setIfInBounds r o }
theorem map_free {F : Fz} {ν : Nu} {M : Mem} {w : World} (h : St F ν M w) {r : Nat} {ms : Array MapEntry} {ck : Nat} (hr : w.heap[r]? = some (.map ms ck)) (o : Nat) : F r o = none := by
  cases hf : F r o with
  | none => rfl
  | some v => have := h.fz r o v hf; simp [World.cell?, hr] at this

section
variable {P : Program} {o : Oper}
theorem OpT.makeMap {t : TypeId} {s : Nat} (ho : o.op = .makeMap t none) : OpT P o [] [] (some (.map s)) [(s, some (.mp []))] [s] := by
  intro a w F ν M hst _ _ hn hs K Q hK
  have hrun : (execOp a.eval o).run P w = .ok (.value (.map (some w.heap.size))) (w.alloc (.map #[] 0)) := by
    simp only [execOp, ho, Sem.run_bind]
    have : (Instr.makeMap t none).run P w = .ok (.map (some w.heap.size)) (w.alloc (.map #[] 0)) := rfl
    simp [this]
  unfold Oper.wp
  rw [hrun]
  simp only [Oper.upon]
  exact newBlock hst rfl rfl rfl rfl s (hn s (by simp)) (fun id e h => hs id e h s (by simp)) _ (.map (some w.heap.size)) (.mp []) (fun b hb => by simp [blk] at hb; exact hb.symm) ⟨w.heap.size, #[], 0, rfl, heap_alloc_new w _, rfl⟩ (.map s) _ (by simp only [VR, upN_same, true_and]; rfl) hK

theorem OpT.lookup {t kt et : TypeId} {x k : Operand} {id : Nat} {κ β : Type} [DecidableEq κ] {ek : κ → Value} {ev : β → Value} {l : List (κ × β)} {pk : PV} {a0 : κ} {b0 : β} (ho : o.op = .lookup t x k false) (ht : P.underlying t = some (.map kt et)) (hk : KT P kt ek) (hz : ∀ w, (zeroValue et).run P w = .ok (ev b0) w)
    (hp : pk.val = some (ek a0)) (h1 : (ev ((mget a0 l).getD b0)).oneCell' = true) : OpT P o [(x, .map id), (k, pk)] [(id, .mp (mrow ek ev l))] (some (.c (.raw (ev ((mget a0 l).getD b0))))) [] [] :=
  OpT.pure fun a w F ν M hst hi hm => by
    have hx := hi (x, .map id) (by simp)
    have hkv := (hi (k, pk) (by simp)).val hp
    simp only [VR] at hx
    obtain ⟨r, ms, ck, e1, e2, e3⟩ := hst.ents id _ (hm (id, .mp (mrow ek ev l)) (by simp))
    refine ⟨_, ?_, VR.of_raw h1⟩
    have hf := hk.find ev a0 ms.toList l w e3
    simp only [execOp, ho, hx.1, e1, hkv, Sem.run_bind]
    have : (Instr.lookup t (.map (some r)) (ek a0) false).run P w = .ok (ev ((mget a0 l).getD b0)) w := by
      simp only [Instr.lookup, Sem.run_bind, run_underlying ht, Result.andThen_ok, MapKept.run_getObj_map e2, hk.check, hf, Sem.run_pure]
      cases hq : mfind a0 l 0 with
      | none => simp [mget, hq, hz]
      | some y => simp [mget, hq]
    simp [this]

theorem OpT.mapUpdate {t kt et : TypeId} {x k v : Operand} {id : Nat} {κ β : Type} [DecidableEq κ] {ek : κ → Value} {ev : β → Value} {l : List (κ × β)} {pk pv : PV} {a0 : κ} {b0 : β} (ho : o.op = .mapUpdate t x k v) (ht : P.underlying t = some (.map kt et)) (hk : KT P kt ek)
    (hp : pk.val = some (ek a0)) (hv : pv.val = some (ev b0)) : OpT P o [(x, .map id), (k, pk), (v, pv)] [(id, .mp (mrow ek ev l))] none [(id, some (.mp (mrow ek ev (mput a0 b0 l))))] [] := by
  intro a w F ν M hst hi hm _ _ K Q hK
  have hx := hi (x, .map id) (by simp)
  have hkv := (hi (k, pk) (by simp)).val hp
  have hvv := (hi (v, pv) (by simp)).val hv
  simp only [VR] at hx
  have hM := hm (id, .mp (mrow ek ev l)) (by simp)
  obtain ⟨r, ms, ck, e1, e2, e3⟩ := hst.ents id _ hM
  have hf := hk.find ev a0 ms.toList l w e3
  have hbk : blk (ν id) = some r := by rw [e1]; rfl
  have hlt : r < w.heap.size := by
    rcases Nat.lt_or_ge r w.heap.size with h | h
    · exact h
    · rw [Array.getElem?_eq_none h] at e2; cases e2
  have fin : ∀ ms' ck', ms'.toList.map (fun m => (m.key, m.val)) = mrow ek ev (mput a0 b0 l) → (Instr.mapUpdate t (.map (some r)) (ek a0) (ev b0)).run P w = .ok () (setB w r (.map ms' ck')) → o.wp P a w K Q := by
    intro ms' ck' hms hrun
    have hrun' : (execOp a.eval o).run P w = .ok .skip (setB w r (.map ms' ck')) := by
      simp only [execOp, ho, hx.1, e1, hkv, hvv, Sem.run_bind, hrun, Result.andThen_ok, Sem.run_pure]
    unfold Oper.wp
    rw [hrun']
    simp only [Oper.upon]
    have hother : ∀ k, k ≠ r → (setB w r (.map ms' ck')).heap[k]? = w.heap[k]? := fun k hk => by simp [setB, Array.getElem?_setIfInBounds_ne (Ne.symm hk)]
    have hself : (setB w r (.map ms' ck')).heap[r]? = some (.map ms' ck') := by simp [setB, hlt]
    exact hK undef _ F ν (by simp) (hst.write id _ (.mp (mrow ek ev (mput a0 b0 l))) r hM hbk (map_free hst e2) hother ⟨r, ms', ck', e1, hself, hms⟩)
      (Ext.write id _ _ r hM hbk hother (by simp [setB]) rfl rfl rfl) (fun _ _ => rfl)
  cases hq : mfind a0 l 0 with
  | none =>
    refine fin (ms.push { key := ek a0, val := ev b0, born := ck }) (ck + 1) ?_ ?_
    · simp only [mput, hq, Array.toList_push, List.map_append, List.map_cons, List.map_nil, e3, mrow]
    · rw [hq] at hf
      simp [Instr.mapUpdate, run_underlying ht, MapKept.run_getObj_map e2, hk.check, hf, MapKept.run_setObj_map _ e2, Result.andThen, setB]
  | some y =>
    obtain ⟨i, b1⟩ := y
    have hi' := (mfind_some hq).2
    simp only [Nat.sub_zero] at hi'
    have h3 : (ms.toList.map fun m => (m.key, m.val))[i]? = some (ek a0, ev b1) := by rw [e3]; simp [mrow, hi']
    simp only [List.getElem?_map, Option.map_eq_some_iff, Prod.mk.injEq] at h3
    obtain ⟨m0, g1, g2, g3⟩ := h3
    refine fin (ms.modify i fun e => { e with key := ek a0, val := ev b0 }) ck ?_ ?_
    · simp only [mput, hq]
      rw [Array.toList_modify]
      refine List.ext_getElem? fun q => ?_
      have e4 := congrArg (fun z => z[q]?) e3
      simp only [List.getElem?_map, mrow] at e4 ⊢
      rw [List.getElem?_modify, List.getElem?_set]
      by_cases hqi : i = q
      · subst hqi
        have hil : i < l.length := lt_of_idx hi'
        simp [g1, hil]
      · simp only [hqi, if_false]
        rw [← e4]
        cases ms.toList[q]? <;> simp
    · rw [hq] at hf
      have g1' : ms[i]? = some m0 := by simpa using g1
      simp [Instr.mapUpdate, run_underlying ht, MapKept.run_getObj_map e2, hk.check, hf, g1', g2, hk.stays, MapKept.run_setObj_map _ e2, Result.andThen, setB]
end

section
variable {P : Program} {o : Oper}
def cmpS (a b : List UInt8) : Int := Lib.compareBytes a b
theorem OpT.cmpstr {x y g : Operand} {f : FuncId} {fn : Func} {ts : Array TypeId} {a b : List UInt8} (ho : o.op = .call { callee := .value g, args := #[x, y], argTypes := ts }) (hf : P.funcs[f]? = some fn) (hname : (fn.name == "runtime.NumGoroutine") = false) (hb : fn.body.isNone = true)
    (hn : Extern.findNext fn = none) (he : Extern.find fn = some Extern.BytealgCompare.compare) : OpT P o [(g, .func f []), (x, .c (.raw (.string (mkS a)))), (y, .c (.raw (.string (mkS b))))] [] (some (.c (.raw (.int .i64 (cmpS a b))))) [] [] :=
  OpT.pure fun ac w F ν M hst hi hm => by
    have h0 := hi (g, .func f []) (by simp)
    have h1 := VR.raw (hi (x, .c (.raw (.string (mkS a)))) (by simp))
    have h2 := VR.raw (hi (y, .c (.raw (.string (mkS b)))) (by simp))
    simp only [VR, VRs] at h0
    obtain ⟨vs, e0, rfl⟩ := h0
    refine ⟨_, ?_, VR.of_raw rfl⟩
    have hr := run_callFunc_extern hf hname hb hn he #[.string (mkS a), .string (mkS b)] w
    rw [Lib.run_compareString] at hr
    simp only [Result.andThen] at hr
    simp only [execOp, ho, resolve, Deferred.ofValue, e0, Sem.run_bind, Sem.run_pure, Result.andThen_ok, invoke, List.map_toArray, List.map_cons, List.map_nil, h1, h2]
    simpa [mkS, cmpS] using hr
end

section
variable {C : Cx} {ops : Array Oper} {l : List Oper} {r : Regs} {m : MemL} {Q : Post}
/-- A variable's cells told otherwise. -/
theorem AOps.retell {id : Nat} {ps qs : List PV} (hid : look m id = some (.var ps)) (hl : LeL ps qs) (h : AOps C ops l r ((id, some (.var qs)) :: m) Q) : AOps C ops l r m Q :=
  AOps.sub ⟨fun t p hp => ⟨p, hp, Le.same⟩, fun i d hd => by
    simp only [look, updM] at hd hid ⊢
    split at hd
    · rename_i hi; subst hi; cases hd; exact ⟨_, hid, LeE.var hl⟩
    · exact ⟨d, hd, LeE.same⟩⟩ h
end

section
variable {C : Cx} {ops : Array Oper} {o : Oper} {r : Regs} {m : MemL}
namespace L
theorem cmpstr {x y g : Operand} {f : FuncId} {fn : Func} {ts : Array TypeId} (a b : List UInt8) (hf : C.P.funcs[f]? = some fn) (hname : (fn.name == "runtime.NumGoroutine") = false) (hb : fn.body.isNone = true) (hn : Extern.findNext fn = none) (he : Extern.find fn = some Extern.BytealgCompare.compare) (ho : o.op = .call { callee := .value g, args := #[x, y], argTypes := ts } := by rfl)
    (hg : OpIs C r g (.func f []) := by exact ⟨_, by kernel_rfl, Le.same⟩) (hx : OpIs C r x (.c (.raw (.string (mkS a)))) := by exact ⟨_, by kernel_rfl, Le.same⟩) (hy : OpIs C r y (.c (.raw (.string (mkS b)))) := by exact ⟨_, by kernel_rfl, Le.same⟩) (hw : wants ops r o true := by exact rfl) (hd : dstOK C o.dst = true := by kernel_rfl) :
    SO C ops o r m [(g, .func f []), (x, .c (.raw (.string (mkS a)))), (y, .c (.raw (.string (mkS b))))] [] (some (.c (.raw (.int .i64 (cmpS a b))))) [] [] := ⟨(OpT.cmpstr ho hf hname hb hn he).g, hw, ⟨hg, hx, hy, trivial⟩, trivial, rfl, hd⟩
theorem makeMap {t : TypeId} (s : Nat) (ho : o.op = .makeMap t none := by rfl) (hf : fresh C.M m r [s] = true := by kernel_rfl) (hw : wants ops r o true := by exact rfl) (hd : dstOK C o.dst = true := by kernel_rfl) :
    SO C ops o r m [] [] (some (.map s)) [(s, some (.mp []))] [s] := ⟨(OpT.makeMap ho).g, hw, trivial, trivial, hf, hd⟩
theorem lookup {t kt et : TypeId} {x k : Operand} {κ β : Type} [DecidableEq κ] (id : Nat) (ek : κ → Value) (ev : β → Value) (l : List (κ × β)) (pk : PV) (a0 : κ) (b0 : β) (ht : C.P.underlying t = some (.map kt et)) (hk : KT C.P kt ek) (hz : ∀ w, (zeroValue et).run C.P w = .ok (ev b0) w) (h1 : ∀ b, (ev b).oneCell' = true) (ho : o.op = .lookup t x k false := by rfl)
    (hx : OpIs C r x (.map id) := by exact ⟨_, by kernel_rfl, Le.same⟩) (hkx : OpIs C r k pk := by exact ⟨_, by kernel_rfl, Le.same⟩) (hp : pk.val = some (ek a0) := by kernel_rfl) (hm : look m id = some (.mp (mrow ek ev l)) := by kernel_rfl) (hw : wants ops r o true := by exact rfl) (hd : dstOK C o.dst = true := by kernel_rfl) :
    SO C ops o r m [(x, .map id), (k, pk)] [(id, .mp (mrow ek ev l))] (some (.c (.raw (ev ((mget a0 l).getD b0))))) [] [] := ⟨(OpT.lookup ho ht hk hz hp (h1 _)).g, hw, ⟨hx, hkx, trivial⟩, ⟨hm, trivial⟩, rfl, hd⟩
theorem mapUpdate {t kt et : TypeId} {x k v : Operand} {κ β : Type} [DecidableEq κ] (id : Nat) (ek : κ → Value) (ev : β → Value) (l : List (κ × β)) (pk pv : PV) (a0 : κ) (b0 : β) (ht : C.P.underlying t = some (.map kt et)) (hk : KT C.P kt ek) (ho : o.op = .mapUpdate t x k v := by rfl)
    (hx : OpIs C r x (.map id) := by exact ⟨_, by kernel_rfl, Le.same⟩) (hkx : OpIs C r k pk := by exact ⟨_, by kernel_rfl, Le.same⟩) (hvx : OpIs C r v pv := by exact ⟨_, by kernel_rfl, Le.same⟩) (hp : pk.val = some (ek a0) := by kernel_rfl) (hv : pv.val = some (ev b0) := by kernel_rfl) (hm : look m id = some (.mp (mrow ek ev l)) := by kernel_rfl) (hw : wants ops r o true := by exact rfl) (hd : dstOK C o.dst = true := by kernel_rfl) :
    SO C ops o r m [(x, .map id), (k, pk), (v, pv)] [(id, .mp (mrow ek ev l))] none [(id, some (.mp (mrow ek ev (mput a0 b0 l))))] [] := ⟨(OpT.mapUpdate ho ht hk hp hv).g, hw, ⟨hx, hkx, hvx, trivial⟩, ⟨hm, trivial⟩, rfl, hd⟩
end L
end
end Go.Ab
