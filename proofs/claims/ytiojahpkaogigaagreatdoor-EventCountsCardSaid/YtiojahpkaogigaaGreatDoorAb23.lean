/- Runs of operations along a script. Conditions: none. -/
import Derived.Test.YtiojahpkaogigaaGreatDoorAb22
namespace Go.Ab

section
variable {P : Program} {Γ : Gl}

structure Acc (P : Program) (Γ : Gl) where
  r : Regs
  m : MemL
  s : Nat
  its : List (It P Γ)
  q : Eqs

/-- What a boolean is: the script says it. -/
def dec1 (p : PV) : List (It P Γ) → Option (Bool × List (It P Γ) × Eqs)
  | .T :: l => some (true, l, [(.p p, .p (.c (.raw (.bool true))))])
  | .N :: l => some (false, l, [(.p p, .p (.c (.raw (.bool false))))])
  | .k (b := b) (v := v) _ :: l => some (v, l, [(.p p, .p (.c (.raw (.bool b))))])
  | .kk n (b := b) (v := v) h :: l => some (v, (match n with | 0 => l | n + 1 => .kk n h :: l), [(.p p, .p (.c (.raw (.bool b))))])
  | _ => none
theorem dec1_ok {p : PV} {l l' : List (It P Γ)} {v : Bool} {q : Eqs} (h : dec1 p l = some (v, l', q)) (hq : EqOK q) : p = .c (.raw (.bool v)) := by
  unfold dec1 at h
  split at h
  · cases h
    have := hq (.p p, .p (.c (.raw (.bool true)))) (by simp)
    injection this
  · cases h
    have := hq (.p p, .p (.c (.raw (.bool false)))) (by simp)
    injection this
  · rename_i b v' hb l
    cases h
    have := hq (.p p, .p (.c (.raw (.bool b)))) (by simp)
    injection this with this
    rw [this, hb]
  · rename_i n b v' hb l
    cases h
    have := hq (.p p, .p (.c (.raw (.bool b)))) (by simp)
    injection this with this
    rw [this, hb]
  · cases h

def wantsI (ops : List Oper) (r : Regs) (o : Oper) (its : List (It P Γ)) : Option (Bool × List (It P Γ) × Eqs) :=
  match o.guard with
  | none => some (true, its, [])
  | some (j, want) => match (ops[j]?).bind (·.dst) with
    | some d => match lookR r d with
      | some (.tup []) => some (false, its, [])
      | some (.c x) => match dec1 (.c x) its with
        | some (v, its', q) => some (v == want, its', q)
        | none => none
      | _ => none
    | none => none
theorem wantsI_ok {ops : List Oper} {r : Regs} {o : Oper} {its its' : List (It P Γ)} {b : Bool} {q : Eqs} (h : wantsI ops r o its = some (b, its', q)) (hq : EqOK q) : wants ops.toArray r o b := by
  unfold wantsI at h
  unfold wants
  split at h
  · rename_i hg; simp only [hg]; cases h; rfl
  · rename_i j want hg
    simp only [hg]
    split at h
    · rename_i d hd
      split at h
      · rename_i hr; cases h; exact ⟨d, _, by simpa using hd, hr, rfl⟩
      · rename_i x hr
        split at h
        · rename_i v its2 q2 h2
          cases h
          have := dec1_ok h2 hq
          exact ⟨d, _, by simpa using hd, hr, by rw [this]; rfl⟩
        · cases h
      · cases h
    · cases h

/-- An operation that is carried out. -/
def execI (T : Tb) (o : Oper) (r : Regs) (m : MemL) (s : Nat) (its : List (It P Γ)) : Option (Eff × List (It P Γ) × Eqs) :=
  match o.op with
  | .pick c x y => match opP Γ r c with
    | some p => match dec1 p its with
      | some (v, its', q) => match opP Γ r (bif v then x else y) with
        | some z => some (⟨[(c, .c (.raw (.bool v))), (bif v then x else y, z)], [], some z, [], []⟩, its', q)
        | none => none
      | none => none
    | none => none
  | _ => match effS T Γ o r m s with
    | some e => some (e, its, [])
    | none => match its with
      | it :: l => match effI T Γ it o r m s with
        | some (e, q) => some (e, l, q)
        | none => none
      | [] => none
theorem execI_ok {T : Tb} (hT : TbOK P T) {o : Oper} {r : Regs} {m : MemL} {s : Nat} {its its' : List (It P Γ)} {e : Eff} {q : Eqs} (h : execI T o r m s its = some (e, its', q)) (hq : EqOK q) :
    OpTG P Γ o e.ins e.mem e.pv e.upd e.new ∧ InsOK Γ r e.ins ∧ MemOK m e.mem := by
  unfold execI at h
  split at h
  · rename_i c x y ho
    split at h
    · rename_i p hp
      split at h
      · rename_i v its2 q2 hd
        split at h
        · rename_i z hz
          cases h
          have := dec1_ok hd hq
          subst this
          have hb : (bif v then x else y) = if v = true then x else y := by cases v <;> rfl
          rw [hb] at hz ⊢
          exact ⟨(OpT.pick (b := v) ho).g, ⟨⟨_, hp, Le.same⟩, ⟨_, hz, Le.same⟩, trivial⟩, trivial⟩
        · cases h
      · cases h
    · cases h
  · split at h
    · rename_i e' he; cases h; exact effS_ok hT he
    · split at h
      · rename_i it l
        split at h
        · rename_i e' q' he; cases h; exact effI_ok hT he hq
        · cases h
      · cases h

def nextS (s : Nat) : List Nat → Nat
  | [n] => bif Nat.beq n s then (bif Nat.blt s 100 then 100 else s + 1) else s
  | _ => s

def stepO (T : Tb) (N : Nat) (CM : MemL) (ops : List Oper) (o : Oper) (a : Acc P Γ) : Option (Info × Acc P Γ) :=
  match wantsI ops a.r o a.its with
  | some (true, its, q0) => match execI T o a.r a.m a.s its with
    | some (e, its', q) => bif fresh CM a.m a.r e.new && dstB N o.dst then some (⟨insT e.ins ++ guardT ops.toArray o, e.mem.map (·.1), o.dst, e.pv, e.upd, e.new⟩, ⟨setR a.r o.dst e.pv, e.upd ++ a.m, nextS a.s e.new, its', q ++ (q0 ++ a.q)⟩) else none
    | none => none
  | some (false, its, q0) => bif dstB N o.dst then some (⟨guardT ops.toArray o, [], o.dst, some (.tup []), [], []⟩, ⟨setR a.r o.dst (some (.tup [])), a.m, a.s, its, q0 ++ a.q⟩) else none
  | none => none

variable {C : Cx} {T : Tb} {Q : Post}
theorem stepO_ok (hT : TbOK C.P T) {ops l : List Oper} {o : Oper} {a b : Acc C.P C.Γ} {i : Info} (h : stepO T C.n C.M ops o a = some (i, b)) (hq : EqOK b.q) :
    EqOK a.q ∧ (AOps C ops.toArray l b.r b.m Q → AOps C ops.toArray (o :: l) a.r a.m Q) ∧ ∀ {is : List Info} {r' : Regs} {m' : MemL}, Run C ops.toArray l b.r b.m is r' m' → Run C ops.toArray (o :: l) a.r a.m (i :: is) r' m' := by
  unfold stepO at h
  split at h
  · rename_i its q0 hw
    split at h
    · rename_i e its' q he
      obtain ⟨hc, h⟩ := bif_some h
      cases h
      simp only [Bool.and_eq_true] at hc
      have hq1 := hq.app
      have hq2 := hq1.2.app
      obtain ⟨h1, h2, h3⟩ := execI_ok hT he hq1.1
      exact ⟨hq2.2, fun k => AOps.step h1 (wantsI_ok hw hq2.1) h2 h3 hc.1 (dstB_ok hc.2) k, fun k => Run.run h1 (wantsI_ok hw hq2.1) h2 h3 hc.1 (dstB_ok hc.2) k⟩
    · cases h
  · rename_i its q0 hw
    obtain ⟨hc, h⟩ := bif_some h
    cases h
    have hq1 := hq.app
    exact ⟨hq1.2, fun k => AOps.skip (wantsI_ok hw hq1.1) (dstB_ok hc) k, fun k => Run.skip (wantsI_ok hw hq1.1) (dstB_ok hc) k⟩
  · cases h

def keepRs (r : Regs) : List Nat → Regs
  | [] => []
  | t :: l => (t, lookR r t) :: keepRs r l
def keepMs (m : MemL) : List Nat → MemL
  | [] => []
  | t :: l => match look m t with
    | some e => (t, some e) :: keepMs m l
    | none => keepMs m l
theorem keepRs_get {r : Regs} : ∀ {l : List Nat} {t : Nat} {p : PV}, lookR (keepRs r l) t = some p → lookR r t = some p
  | [], _, _, h => by simp [keepRs, lookR] at h
  | k :: l, t, p, h => by
    simp only [keepRs, lookR] at h
    split at h
    · rename_i e; subst e; exact h
    · exact keepRs_get h
theorem keepMs_get {m : MemL} : ∀ {l : List Nat} {t : Nat} {p : Ent}, look (keepMs m l) t = some p → look m t = some p
  | [], _, _, h => by simp [keepMs, look, updM] at h
  | k :: l, t, p, h => by
    simp only [keepMs] at h
    cases hm : look m k with
    | none => rw [hm] at h; exact keepMs_get h
    | some e =>
      rw [hm] at h
      simp only [look, updM] at h
      split at h
      · rename_i e'; subst e'; cases h; exact hm
      · exact keepMs_get h
/-- A state told otherwise. -/
def fix1 (CM : MemL) (pos : Nat) (it : It P Γ) (r : Regs) (m : MemL) (s : Nat) : Option (Regs × MemL × Nat) :=
  match it with
  | .frz k id => match look m id with
    | some (.arr _ _ _ xs) => bif Nat.beq k pos then some (fzR id (.sl xs) r, (id, none) :: fzM id (.sl xs) m, s) else none
    | _ => none
  | .ren at_ n k => bif Nat.beq at_ pos && freshM n CM && fresh CM m r [k] && nokey k m then some (rnR n k r, rnM n k m, nextS s [k]) else none
  | .ownR at_ w t i e sz => match lookR r t with
    | some p => bif Nat.beq at_ pos && isNil p && Nat.blt 0 sz && fresh CM m r [i] then some ((t, some (.osl i)) :: r, (i, some (.arr w e sz [])) :: m, s) else none
    | none => none
  | .ownC at_ w id k i e sz => match look m id with
    | some (.var cells) => match cells[k]? with
      | some p => bif Nat.beq at_ pos && isNil p && Nat.blt 0 sz && !(Nat.beq id i) && fresh CM m r [i] then some (r, (id, some (.var (cells.set k (.osl i)))) :: (i, some (.arr w e sz [])) :: m, s) else none
      | none => none
    | _ => none
  | .rd k id => match look m id with
    | some (.arr true e sz xs) => bif Nat.beq k pos then some (r, (id, some (.arr false e sz xs)) :: m, s) else none
    | _ => none
  | .tell k id => match look m id with
    | some (.var ps) => bif Nat.beq k pos then some (r, (id, some (.var (PV.nwL ps))) :: m, s) else none
    | _ => none
  | .kp k ts ids => bif Nat.beq k pos then some (keepRs r ts, keepMs m ids, s) else none
  | _ => none
theorem fix1_ok {it : It C.P C.Γ} {r r' : Regs} {m m' : MemL} {s s' : Nat} {pos : Nat} (h : fix1 C.M pos it r m s = some (r', m', s')) :
    (∀ {ops : Array Oper} {l : List Oper}, AOps C ops l r' m' Q → AOps C ops l r m Q) ∧ ∀ {c : Code}, ACode C c r' m' Q → ACode C c r m Q := by
  unfold fix1 at h
  split at h
  · split at h
    · rename_i hl; obtain ⟨hc, h⟩ := bif_some h; cases h; exact ⟨fun k => AOps.freeze hl k, fun k => ACode.freeze hl k⟩
    · cases h
  · obtain ⟨hc, h⟩ := bif_some h
    cases h
    simp only [Bool.and_eq_true] at hc
    exact ⟨fun k => AOps.rename _ _ hc.1.1.2 hc.1.2 hc.2 k, fun k => ACode.rename _ _ hc.1.1.2 hc.1.2 hc.2 k⟩
  · split at h
    · rename_i hl
      obtain ⟨hc, h⟩ := bif_some h
      cases h
      simp only [Bool.and_eq_true] at hc
      have h1 := isNil_eq hc.1.1.2
      subst h1
      have h2 := Nat.le_of_ble_eq_true hc.1.2
      exact ⟨fun k => AOps.ownR hl h2 hc.2 k, fun k => ACode.ownR hl h2 hc.2 k⟩
    · cases h
  · split at h
    · rename_i hl
      split at h
      · rename_i hk
        obtain ⟨hc, h⟩ := bif_some h
        cases h
        simp only [Bool.and_eq_true, Bool.not_eq_true'] at hc
        have h1 := isNil_eq hc.1.1.1.2
        subst h1
        have h2 := Nat.le_of_ble_eq_true hc.1.1.2
        have h3 := Nat.ne_of_beq_eq_false hc.1.2
        exact ⟨fun k => AOps.ownC hl hk h3 h2 hc.2 k, fun k => ACode.ownC hl hk h3 h2 hc.2 k⟩
      · cases h
    · cases h
  · split at h
    · rename_i hl; obtain ⟨hc, h⟩ := bif_some h; cases h; exact ⟨fun k => AOps.read hl k, fun k => ACode.read hl k⟩
    · cases h
  · split at h
    · rename_i ps hl
      obtain ⟨hc, h⟩ := bif_some h
      cases h
      have hs : Sub r r m ((_, some (.var (PV.nwL ps))) :: m) := ⟨fun t p hp => ⟨p, hp, Le.same⟩, fun i d hd => by
        simp only [look, updM] at hd hl ⊢
        split at hd
        · rename_i hi; subst hi; cases hd; exact ⟨_, hl, LeE.var (PV.nwL_le ps)⟩
        · exact ⟨d, hd, LeE.same⟩⟩
      exact ⟨fun k => AOps.sub hs k, fun k => ACode.sub hs k⟩
    · cases h
  · rename_i k ts ids
    obtain ⟨hc, h⟩ := bif_some h
    cases h
    have hs : Sub r (keepRs r ts) m (keepMs m ids) := ⟨fun t p hp => ⟨p, keepRs_get hp, Le.same⟩, fun i d hd => ⟨d, keepMs_get hd, LeE.same⟩⟩
    exact ⟨fun k => AOps.sub hs k, fun k => ACode.sub hs k⟩
  · cases h
def fixA (CM : MemL) (pos : Nat) : List (It P Γ) → Regs → MemL → Nat → Eqs → Acc P Γ
  | [], r, m, s, q => ⟨r, m, s, [], q⟩
  | it :: l, r, m, s, q => match fix1 CM pos it r m s with
    | some (r', m', s') => fixA CM pos l r' m' s' q
    | none => ⟨r, m, s, it :: l, q⟩
theorem fixA_ok : ∀ {its : List (It C.P C.Γ)} {r : Regs} {m : MemL} {s : Nat} {q : Eqs} {pos : Nat}, (fixA C.M pos its r m s q).q = q ∧
    (∀ {ops : Array Oper} {l : List Oper}, AOps C ops l (fixA C.M pos its r m s q).r (fixA C.M pos its r m s q).m Q → AOps C ops l r m Q) ∧ ∀ {c : Code}, ACode C c (fixA C.M pos its r m s q).r (fixA C.M pos its r m s q).m Q → ACode C c r m Q
  | [], _, _, _, _, _ => ⟨rfl, fun h => h, fun h => h⟩
  | it :: l, r, m, s, q, pos => by
    simp only [fixA]
    cases h : fix1 C.M pos it r m s with
    | none => exact ⟨rfl, fun h => h, fun h => h⟩
    | some x =>
      obtain ⟨r', m', s'⟩ := x
      have h1 := fix1_ok (Q := Q) h
      have ih := fixA_ok (its := l) (r := r') (m := m') (s := s') (q := q) (pos := pos)
      exact ⟨ih.1, fun k => h1.1 (ih.2.1 k), fun k => h1.2 (ih.2.2 k)⟩

/-- Operations in a row: what is left to do, and the state. -/
def runL (T : Tb) (N : Nat) (CM : MemL) (ops : List Oper) (k : Nat) : List Oper → Acc P Γ → Acc P Γ × List Oper
  | [], a => (fixA CM k a.its a.r a.m a.s a.q, [])
  | o :: l, a => match stepO T N CM ops o (fixA CM k a.its a.r a.m a.s a.q) with
    | some (_, b) => runL T N CM ops (k + 1) l b
    | none => (fixA CM k a.its a.r a.m a.s a.q, o :: l)
theorem runL_ok (hT : TbOK C.P T) {ops : List Oper} : ∀ {l : List Oper} {k : Nat} {a : Acc C.P C.Γ}, EqOK (runL T C.n C.M ops k l a).1.q →
    EqOK a.q ∧ (AOps C ops.toArray (runL T C.n C.M ops k l a).2 (runL T C.n C.M ops k l a).1.r (runL T C.n C.M ops k l a).1.m Q → AOps C ops.toArray l a.r a.m Q)
  | [], n, a, h => by
    have hf := fixA_ok (C := C) (Q := Q) (its := a.its) (r := a.r) (m := a.m) (s := a.s) (q := a.q) (pos := n)
    simp only [runL] at h ⊢
    rw [hf.1] at h
    exact ⟨h, fun k => hf.2.1 k⟩
  | o :: l, n, a, h => by
    have hf := fixA_ok (C := C) (Q := Q) (its := a.its) (r := a.r) (m := a.m) (s := a.s) (q := a.q) (pos := n)
    simp only [runL] at h ⊢
    cases hs : stepO T C.n C.M ops o (fixA C.M n a.its a.r a.m a.s a.q) with
    | some x =>
      obtain ⟨i, b⟩ := x
      rw [hs] at h
      simp only at h ⊢
      have ih := runL_ok hT h
      have hs' := stepO_ok (Q := Q) (l := l) hT hs ih.1
      rw [hf.1] at hs'
      exact ⟨hs'.1, fun k => hf.2.1 (hs'.2.1 (ih.2 k))⟩
    | none =>
      rw [hs] at h
      simp only at h ⊢
      rw [hf.1] at h
      exact ⟨h, fun k => hf.2.1 k⟩

/-- All the operations of a region that draws. -/
def runD (T : Tb) (N : Nat) (CM : MemL) (ops : List Oper) : List Oper → Acc P Γ → Option (List Info × Acc P Γ)
  | [], a => some ([], a)
  | o :: l, a => match stepO T N CM ops o a with
    | some (i, b) => match runD T N CM ops l b with
      | some (is, e) => some (i :: is, e)
      | none => none
    | none => none
theorem runD_ok (hT : TbOK C.P T) {ops : List Oper} : ∀ {l : List Oper} {a e : Acc C.P C.Γ} {is : List Info}, runD T C.n C.M ops l a = some (is, e) → EqOK e.q → EqOK a.q ∧ Run C ops.toArray l a.r a.m is e.r e.m
  | [], a, e, is, h, hq => by simp only [runD, Option.some.injEq, Prod.mk.injEq] at h; obtain ⟨rfl, rfl⟩ := h; exact ⟨hq, Run.nil⟩
  | o :: l, a, e, is, h, hq => by
    simp only [runD] at h
    split at h
    · rename_i i b hs
      split at h
      · rename_i is' e' hr
        cases h
        have ih := runD_ok hT hr hq
        have hs' := stepO_ok (Q := fun _ _ _ => True) (l := l) hT hs ih.1
        exact ⟨hs'.1, hs'.2.2 ih.2⟩
      · cases h
    · cases h

/-- What must have been done before each operation. -/
def memN (x : Nat) : List Nat → Bool
  | [] => false
  | y :: l => bif Nat.beq x y then true else memN x l
def addN : List Nat → List Nat → List Nat
  | [], l => l
  | x :: k, l => bif memN x l then addN k l else addN k (x :: l)
def mkT : List Oper → List (List Nat) → List (List Nat)
  | [], t => t
  | o :: l, t => mkT l (t ++ [o.after.toList.foldr (fun e acc => bif Region.binds .any e then addN (e.on :: t.getD e.on []) acc else acc) []])
def okDraw (CM : MemL) (m : MemL) (r : Regs) (ops : List Oper) (is : List Info) : Bool :=
  okT ops (mkT ops []) && okOn ops && okPairs is (mkT ops []) && okNew CM m r is
end
end Go.Ab
