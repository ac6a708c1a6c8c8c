/- Rows of the call's own, begun between operations; structs that are compared; small words. Conditions: none. -/
import Derived.Test.YtiojahpkaogigaaGreatDoorAb12
import Derived.Laws.StructEq
namespace Go.Ab
variable {wr wr2 : Bool}

section
variable {C : Cx} {ops : Array Oper} {l : List Oper} {r : Regs} {m : MemL} {Q : Post}
/-- A nil slice in a register begins a row of the call's own. -/
theorem AOps.ownR {t s : Nat} {e : TypeId} {sz : Nat} (ht : lookR r t = some (.c (.raw (.slice none 0 0)))) (hz : 0 < sz) (hf : fresh C.M m r [s] = true) (h : AOps C ops l ((t, some (.osl s)) :: r) ((s, some (.arr wr e sz [])) :: m) Q) : AOps C ops l r m Q := by
  intro a w F ν hi
  have hi' := hi.own (wr := wr) s e sz hz hf
  refine h a w F _ ⟨hi'.st, fun k p hp => ?_, hi'.size, hi'.defers, hi'.ext, hi'.same, hi'.gok⟩
  simp only [lookR] at hp
  split at hp
  · rename_i hk
    subst hk
    cases hp
    simp only [VR, upN_same]
    have := VR.raw (hi.regs k _ ht)
    rw [this]; exact ⟨rfl, rfl⟩
  · exact hi'.regs k p hp
theorem AOps.ownC {id k s : Nat} {e : TypeId} {sz : Nat} {cells : List PV} (hid : look m id = some (.var cells)) (hk : cells[k]? = some (.c (.raw (.slice none 0 0)))) (hne : id ≠ s) (hz : 0 < sz) (hf : fresh C.M m r [s] = true)
    (h : AOps C ops l r ((id, some (.var (cells.set k (.osl s)))) :: (s, some (.arr wr e sz [])) :: m) Q) : AOps C ops l r m Q := by
  intro a w F ν hi
  have hi' := hi.own (wr := wr) s e sz hz hf
  have hid' : look ((s, some (.arr wr e sz [])) :: m) id = some (.var cells) := by simp only [look, updM]; rw [if_neg hne]; exact hid
  refine h a w F _ ⟨⟨hi'.st.fz, fun i d hd => ?_, fun i j d d' b hi1 hj1 => ?_⟩, hi'.regs, hi'.size, hi'.defers, ⟨hi'.ext.os, hi'.ext.tape, hi'.ext.output, hi'.ext.size, hi'.ext.mono, hi'.ext.keep, fun i d b hd => ?_⟩, hi'.same, hi'.gok⟩
  · simp only [look, updM] at hd
    split at hd
    · rename_i hii
      subst hii
      cases hd
      obtain ⟨b, cs, ty, h1, h2, h3, h4, h5⟩ := hi'.st.ents i _ hid'
      refine ⟨b, cs, ty, h1, h2, h3, VRs.of_get (by simpa using h4.length) fun j x v hx hv => ?_, h5⟩
      have hjl : j < cells.length := by
        rcases Nat.lt_or_ge j cells.length with h' | h'
        · exact h'
        · rw [List.getElem?_eq_none (by rw [List.length_set]; exact h')] at hx; cases hx
      obtain ⟨u, hu, hr⟩ := h4.get (k := j) (x := cells[j]) (by simp [hjl])
      rw [hu] at hv; cases hv
      by_cases hjk : k = j
      · subst hjk
        rw [List.getElem?_set_self hjl] at hx
        cases hx
        rw [List.getElem?_eq_getElem hjl] at hk
        simp only [Option.some.injEq] at hk
        rw [hk] at hr
        have := VR.raw hr
        subst this
        simp only [VR, upN_same, true_and]; rfl
      · rw [List.getElem?_set_ne hjk, List.getElem?_eq_getElem hjl] at hx
        simp only [Option.some.injEq] at hx
        rw [← hx]; exact hr
    · exact hi'.st.ents i d hd
  · have get : ∀ i d, look ((id, some (.var (cells.set k (.osl s)))) :: (s, some (.arr wr e sz [])) :: m) i = some d → ∃ x, look ((s, some (.arr wr e sz [])) :: m) i = some x := by
      intro i d hd
      by_cases hii : i = id
      · exact ⟨_, by rw [hii]; exact hid'⟩
      · simp only [look, updM, hii, if_false] at hd ⊢; exact ⟨d, hd⟩
    obtain ⟨x, hx⟩ := get i d hi1
    obtain ⟨y, hy⟩ := get j d' hj1
    exact hi'.st.dist i j x y b hx hy
  · have : ∃ x, look ((s, some (.arr wr e sz [])) :: m) i = some x := by
      by_cases hii : i = id
      · exact ⟨_, by rw [hii]; exact hid'⟩
      · simp only [look, updM, hii, if_false] at hd ⊢; exact ⟨d, hd⟩
    obtain ⟨x, hx⟩ := this
    exact hi'.ext.blocks i x b hx
end

section
variable {P : Program}
theorem bin_rem' {t : TypeId} {x y : Operand} (k : IntKind) (a b : Int) {c : Int} (hb : b ≠ 0) (he : c = a.tmod b) (w : World) : (do eqGuard .rem t x y (.int k a) (.int k b); binOp .rem t (.int k a) (.int k b) : Sem Value).run P w = .ok (.int k c) w := by subst he; exact bin_rem k a b hb w
theorem bin_quo' {t : TypeId} {x y : Operand} (k : IntKind) (a b : Int) {c : Int} (hb : b ≠ 0) (he : c = k.wrap (a.tdiv b)) (w : World) : (do eqGuard .quo t x y (.int k a) (.int k b); binOp .quo t (.int k a) (.int k b) : Sem Value).run P w = .ok (.int k c) w := by subst he; exact bin_quo k a b hb w
theorem bin_sadd' {t : TypeId} {x y : Operand} (a b : List UInt8) {c : List UInt8} (h : a.length + b.length ≤ 9223372036854775807) (he : c = a ++ b) (w : World) : (do eqGuard .add t x y (.string (mkS a)) (.string (mkS b)); binOp .add t (.string (mkS a)) (.string (mkS b)) : Sem Value).run P w = .ok (.string (mkS c)) w := by subst he; exact bin_sadd a b h w

theorem VRs.raw_inv {F : Fz} {ν : Nu} : ∀ {us vs : List Value}, VRs F ν vs (us.map fun v => .c (.raw v)) → vs = us
  | [], vs, h => by simpa only [List.map, VRs] using h
  | u :: us, vs, h => by
    simp only [List.map, VRs] at h
    obtain ⟨v, r, h1, h2, h3⟩ := h
    rw [h1, VR.raw h2, VRs.raw_inv h3]
theorem OpT.binA {o : Oper} {op : BinOp} {t u : TypeId} {x y : Operand} {us vs : List Value} {r : Value} (ho : o.op = .binOp op t x y u) (h : ∀ w, (do eqGuard op t x y (.agg us.toArray) (.agg vs.toArray); binOp op t (.agg us.toArray) (.agg vs.toArray) : Sem Value).run P w = .ok r w) (hr : r.oneCell' = true) :
    OpT P o [(x, .agg (us.map fun v => .c (.raw v))), (y, .agg (vs.map fun v => .c (.raw v)))] [] (some (.c (.raw r))) [] [] :=
  OpT.pure fun a w F ν M _ hi _ => by
    have h1 := hi (x, .agg (us.map fun v => .c (.raw v))) (by simp)
    have h2 := hi (y, .agg (vs.map fun v => .c (.raw v))) (by simp)
    simp only [VR] at h1 h2
    obtain ⟨xs, h1, e1⟩ := h1
    obtain ⟨ys, h2, e2⟩ := h2
    have e1 := VRs.raw_inv e1
    have e2 := VRs.raw_inv e2
    subst e1; subst e2
    refine ⟨r, ?_, VR.of_raw hr⟩
    have := h w
    simp only [execOp, ho, h1, h2]
    rw [Sem.run_bind, this]
    rfl
theorem guard_agg (op : BinOp) (t : TypeId) (x y : Operand) (a b : Array Value) (hg : P.eqGuardType P.depth t = false) (w : World) : (eqGuard op t x y (.agg a) (.agg b)).run P w = .ok () w := by
  unfold eqGuard
  cases op <;> simp [run_program, hg]
theorem binA_eql {t : TypeId} {x y : Operand} {us vs : List Value} {b : Bool} (hg : P.eqGuardType P.depth t = false) (h : ∀ w, (Op.equal t (.agg us.toArray) (.agg vs.toArray)).run P w = .ok b w) (w : World) :
    (do eqGuard .eql t x y (.agg us.toArray) (.agg vs.toArray); binOp .eql t (.agg us.toArray) (.agg vs.toArray) : Sem Value).run P w = .ok (.bool b) w := by
  rw [Sem.run_bind, guard_agg _ _ _ _ _ _ hg]; simp [binOp, h]
theorem binA_neq {t : TypeId} {x y : Operand} {us vs : List Value} {b : Bool} (hg : P.eqGuardType P.depth t = false) (h : ∀ w, (Op.equal t (.agg us.toArray) (.agg vs.toArray)).run P w = .ok b w) (w : World) :
    (do eqGuard .neq t x y (.agg us.toArray) (.agg vs.toArray); binOp .neq t (.agg us.toArray) (.agg vs.toArray) : Sem Value).run P w = .ok (.bool (!b)) w := by
  rw [Sem.run_bind, guard_agg _ _ _ _ _ _ hg]; simp [binOp, h]

theorem eqf_nil {d : Nat} {xs ys : Array Value} {w : World} : (Op.eqFields d xs ys []).run P w = .ok true w := by simp [Op.eqFields]
theorem eqf_cons {d : Nat} {xs ys : Array Value} {f : Field} {fs : List Field} {a b : Value} {r s : Bool} {w : World} (hn : (f.name == "_") = false) (ha : (part f.type xs f.offset).run P w = .ok a w) (hb : (part f.type ys f.offset).run P w = .ok b w) (he : (Op.equalIn d f.type a b).run P w = .ok r w)
    (hr : (Op.eqFields d xs ys fs).run P w = .ok s w) : (Op.eqFields d xs ys (f :: fs)).run P w = .ok (r && s) w := by
  have hn' : f.name ≠ "_" := by simpa using hn
  rw [Op.eqFields]
  simp only [if_pos hn', Sem.run_bind, ha, hb, he, Result.andThen_ok]
  cases r
  · simp
  · simpa using hr
theorem eqA_of {t : TypeId} {fs : List Field} {us vs : List Value} {r : Bool} (hu : P.underlying t = some (.struct fs.toArray)) (hp : P.stoodInHeld t = false) {w : World} (h : (Op.eqFields 9999 us.toArray vs.toArray fs).run P w = .ok r w) : (Op.equal t (.agg us.toArray) (.agg vs.toArray)).run P w = .ok r w := by
  have hf : P.fieldsOf t = fs.toArray := by simp [Program.fieldsOf, hu]
  show (Op.equalIn (9999 + 1) t _ _).run P w = _
  rw [run_equalIn_struct (P := P) w 9999 t _ _ (by rw [hf]; exact hu) hp, hf]
  exact h
theorem eq_int {t : TypeId} (k k' : IntKind) (a b : Int) (h : P.underlying t = some (.int k')) (w : World) : (Op.equalIn 9999 t (.int k a) (.int k b)).run P w = .ok (decide (a = b)) w := by
  have := run_equalIn_int (P := P) w 9998 t k k' a b h
  rw [this]; rfl
theorem eq_bool {t : TypeId} (a b : Bool) (h : P.underlying t = some .bool) (w : World) : (Op.equalIn 9999 t (.bool a) (.bool b)).run P w = .ok (decide (a = b)) w := by
  have := run_equalIn_bool' (P := P) w 9998 t a b h
  rw [this]; rfl
theorem eq_str {t : TypeId} (a b : List UInt8) (h : P.underlying t = some .string) (w : World) : (Op.equalIn 9999 t (.string (mkS a)) (.string (mkS b))).run P w = .ok (decide (a = b)) w := by
  have := run_equalIn_string (P := P) w 9998 t (mkS a) (mkS b) h
  rw [this, mkS_toList, mkS_toList, beq_dec]
end

theorem Le.int_nat {k : IntKind} {a : Int} (h : 0 ≤ a) : Le (.c (.raw (.int k a))) (.c (.raw (.int k (a.toNat : Int)))) := by
  rw [Int.toNat_of_nonneg h]; exact Le.same

section
variable {C : Cx} {ops : Array Oper} {o : Oper} {r : Regs} {m : MemL}
namespace L
theorem binA {op : BinOp} {t u : TypeId} {x y : Operand} {res : Value} (us vs : List Value) (h : ∀ w, (do eqGuard op t x y (.agg us.toArray) (.agg vs.toArray); binOp op t (.agg us.toArray) (.agg vs.toArray) : Sem Value).run C.P w = .ok res w) (ho : o.op = .binOp op t x y u := by rfl)
    (hx : OpIs C r x (.agg (us.map fun v => .c (.raw v))) := by exact ⟨_, by kernel_rfl, Le.same⟩) (hy : OpIs C r y (.agg (vs.map fun v => .c (.raw v))) := by exact ⟨_, by kernel_rfl, Le.same⟩) (hr : res.oneCell' = true := by kernel_rfl)
    (hw : wants ops r o true := by exact rfl) (hd : dstOK C o.dst = true := by kernel_rfl) : SO C ops o r m [(x, .agg (us.map fun v => .c (.raw v))), (y, .agg (vs.map fun v => .c (.raw v)))] [] (some (.c (.raw res))) [] [] := ⟨(OpT.binA ho h hr).g, hw, ⟨hx, hy, trivial⟩, trivial, rfl, hd⟩
end L
end
end Go.Ab
