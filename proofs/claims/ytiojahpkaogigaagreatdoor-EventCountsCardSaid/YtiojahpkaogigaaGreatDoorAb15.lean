/- A field of a value; a nil slice asked for. Conditions: none. -/
import Derived.Test.YtiojahpkaogigaaGreatDoorAb14
namespace Go.Ab

theorem lt_arr {n : Int} {a b : Nat} (h0 : 0 ≤ n) (h : n.toNat < a) (hab : a = b) : n < b := by omega

section
variable {P : Program} {o : Oper}
structure FG (P : Program) (t f off ft : Nat) : Prop where
  field : ∃ fs fd, P.underlying t = some (.struct fs) ∧ fs[f]? = some fd ∧ fd.offset = off ∧ fd.type = ft
theorem FG.mk' {t f off ft : Nat} {fs : Array Field} {fd : Field} (h1 : P.underlying t = some (.struct fs)) (h2 : fs[f]? = some fd) (h3 : fd.offset = off) (h4 : fd.type = ft) : FG P t f off ft := ⟨⟨fs, fd, h1, h2, h3, h4⟩⟩

theorem OpT.field1 {t ft : TypeId} {x : Operand} {f off : Nat} {ps : List PV} {p : PV} (ho : o.op = .field t x f) (hf : FG P t f off ft) (ht : TI P ft false 1) (hp : ps[off]? = some p) : OpT P o [(x, .agg ps)] [] (some p) [] [] :=
  OpT.pure fun a w F ν M hst hi hm => by
    have h1 := hi (x, .agg ps) (by simp)
    simp only [VR] at h1
    obtain ⟨vs, e1, e2⟩ := h1
    obtain ⟨v, hv, hr⟩ := e2.get hp
    obtain ⟨fs, fd, g1, g2, rfl, rfl⟩ := hf.field
    refine ⟨v, ?_, hr⟩
    simp only [execOp, ho, e1]
    simp [Instr.field, run_underlying g1, g2, asAgg, part, ht.isAgg, hv]
theorem OpT.fieldG {t ft : TypeId} {x : Operand} {f off n : Nat} {ps qs : List PV} (ho : o.op = .field t x f) (hf : FG P t f off ft) (ht : TI P ft true n) (hp : (ps.drop off).take n = qs) (hl : off + n ≤ ps.length) : OpT P o [(x, .agg ps)] [] (some (.agg qs)) [] [] :=
  OpT.pure fun a w F ν M hst hi hm => by
    have h1 := hi (x, .agg ps) (by simp)
    simp only [VR] at h1
    obtain ⟨vs, e1, e2⟩ := h1
    obtain ⟨fs, fd, g1, g2, rfl, rfl⟩ := hf.field
    refine ⟨.agg ((vs.drop fd.offset).take n).toArray, ?_, ?_⟩
    · obtain ⟨i, hi1, hi2⟩ : ∃ i, P.info? fd.type = some i ∧ i.size = n := by
        have := ht.size
        cases hq : P.info? fd.type with
        | none => simp [hq] at this
        | some i => simp [hq] at this; exact ⟨i, rfl, this⟩
      simp only [execOp, ho, e1]
      simp [Instr.field, run_underlying g1, g2, asAgg, part, ht.isAgg, sizeOf, typeInfo, hi1, hi2]
    · simp only [VR]
      exact ⟨_, rfl, by rw [← hp]; exact (e2.drop _).take _⟩
end

section
variable {P : Program}
theorem eqNilT {t e : TypeId} (d : Nat) (ht : P.underlying t = some (.slice e)) (w : World) : (Op.equalIn (d + 1) t (.slice none 0 0) (.slice none 0 0)).run P w = .ok true w := by simp [Op.equalIn, run_underlying ht]
theorem eqNilF {t e : TypeId} (d : Nat) (a : Addr) (n c : Nat) (ht : P.underlying t = some (.slice e)) (w : World) : (Op.equalIn (d + 1) t (.slice (some a) n c) (.slice none 0 0)).run P w = .ok false w := by simp [Op.equalIn, run_underlying ht]
theorem bin_nilT {t e : TypeId} {x y : Operand} (ht : P.underlying t = some (.slice e)) (w : World) : (do eqGuard .eql t x y (.slice none 0 0) (.slice none 0 0); binOp .eql t (.slice none 0 0) (.slice none 0 0) : Sem Value).run P w = .ok (.bool true) w := by
  have hg : (eqGuard .eql t x y (.slice none 0 0) (.slice none 0 0)).run P w = .ok () w := rfl
  have he : (Op.equal t (.slice none 0 0) (.slice none 0 0)).run P w = .ok true w := eqNilT 9999 ht w
  rw [Sem.run_bind, hg]; simp [binOp, he]
theorem bin_nilF {t e : TypeId} {x y : Operand} (a : Addr) (n c : Nat) (ht : P.underlying t = some (.slice e)) (w : World) : (do eqGuard .eql t x y (.slice (some a) n c) (.slice none 0 0); binOp .eql t (.slice (some a) n c) (.slice none 0 0) : Sem Value).run P w = .ok (.bool false) w := by
  have hg : (eqGuard .eql t x y (.slice (some a) n c) (.slice none 0 0)).run P w = .ok () w := rfl
  have he : (Op.equal t (.slice (some a) n c) (.slice none 0 0)).run P w = .ok false w := eqNilF 9999 a n c ht w
  rw [Sem.run_bind, hg]; simp [binOp, he]
end

section
variable {C : Cx} {ops : Array Oper} {l : List Oper} {o : Oper} {r : Regs} {m : MemL} {Q : Post}
/-- A frozen slice in a register: nil, or not. -/
theorem AOps.nilSplit {t : Nat} {xs : List (List FV)} (ht : lookR r t = some (.c (.sl xs))) (h1 : xs = [] → AOps C ops l ((t, some (.c (.raw (.slice none 0 0)))) :: r) m Q) (h2 : ∀ a n c, AOps C ops l ((t, some (.c (.raw (.slice (some a) n c)))) :: r) m Q) : AOps C ops l r m Q := by
  intro a w F ν hi
  have h0 := hi.regs t _ ht
  simp only [VR, FR] at h0
  obtain ⟨ad, c, e1, e2, e3, e4, e5⟩ := h0
  have key : ∀ u : Value, a.tmps.getD t undef = u → u.oneCell' = true → Inv C ((t, some (.c (.raw u))) :: r) m a w F ν := fun u hu h1' =>
    ⟨hi.st, fun k p hp => by
      simp only [lookR] at hp
      split at hp
      · rename_i hk; subst hk; cases hp; rw [hu]; exact VR.of_raw h1'
      · exact hi.regs k p hp, hi.size, hi.defers, hi.ext, hi.same, hi.gok⟩
  cases ad with
  | none =>
    have hc := e4 rfl
    have hx : xs = [] := by
      rcases e5 with h | ⟨b, o, sz, h, _⟩
      · exact h
      · cases h
    subst hx; subst hc
    exact h1 rfl a w F ν (key _ e1 rfl)
  | some ad => exact h2 ad _ _ a w F ν (key _ e1 rfl)

/-- Behind a piece of code, what is told is told otherwise. -/
def Post.sh (C : Cx) (Q : Post) : Post
  | .normal, r, m => AOps C #[] [] r m Q
  | e, r, m => Q e r m
theorem ACode.shift {c : Code} (h : ACode C c r m (Post.sh C Q)) : ACode C c r m Q := by
  intro a w F ν hi
  refine Code.wp_mono (fun e a' w' hq => ?_) (h a w F ν hi)
  obtain ⟨r', m', F', ν', hq, hi'⟩ := hq
  cases e <;> first
    | exact hq a' w' F' ν' hi'
    | exact ⟨r', m', F', ν', hq, hi'⟩
theorem Post.shift_n (h : AOps C #[] [] r m Q) : Post.sh C Q .normal r m := h
theorem Post.shift_e {id : Nat} (h : Q (.exit id) r m) : Post.sh C Q (.exit id) r m := h
theorem Post.shift_r (h : Q .ret r m) : Post.sh C Q .ret r m := h

namespace L
theorem field1 {t ft : TypeId} {x : Operand} {f off : Nat} (ps : List PV) (p : PV) (hf : FG C.P t f off ft) (ht : TI C.P ft false 1) (ho : o.op = .field t x f := by rfl) (hx : OpIs C r x (.agg ps) := by exact ⟨_, by kernel_rfl, Le.same⟩) (hp : ps[off]? = some p := by kernel_rfl)
    (hw : wants ops r o true := by exact rfl) (hd : dstOK C o.dst = true := by kernel_rfl) : SO C ops o r m [(x, .agg ps)] [] (some p) [] [] := ⟨(OpT.field1 ho hf ht hp).g, hw, ⟨hx, trivial⟩, trivial, rfl, hd⟩
theorem fieldG {t ft : TypeId} {x : Operand} {f off n : Nat} (ps qs : List PV) (hf : FG C.P t f off ft) (ht : TI C.P ft true n) (ho : o.op = .field t x f := by rfl) (hx : OpIs C r x (.agg ps) := by exact ⟨_, by kernel_rfl, Le.same⟩) (hp : (ps.drop off).take n = qs := by kernel_rfl) (hl : Nat.ble (off + n) ps.length = true := by kernel_rfl)
    (hw : wants ops r o true := by exact rfl) (hd : dstOK C o.dst = true := by kernel_rfl) : SO C ops o r m [(x, .agg ps)] [] (some (.agg qs)) [] [] := ⟨(OpT.fieldG ho hf ht hp (Nat.le_of_ble_eq_true hl)).g, hw, ⟨hx, trivial⟩, trivial, rfl, hd⟩
end L
end
end Go.Ab
