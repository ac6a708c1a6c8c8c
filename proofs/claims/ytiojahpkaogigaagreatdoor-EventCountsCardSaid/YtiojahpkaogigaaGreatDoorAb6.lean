/- Operations in a row, code, calls: told by abstract states. Conditions: none. -/
import Derived.Test.YtiojahpkaogigaaGreatDoorAb5
namespace Go.Ab
variable {wr wr2 : Bool}

abbrev Regs := List (Nat × Option PV)
abbrev MemL := List (Nat × Option Ent)
abbrev Gl := Nat → Option (List FV)

def look (m : MemL) : Mem := updM (fun _ => none) m
def lookR : Regs → Nat → Option PV
  | [], _ => none
  | (t, p) :: r, k => if k = t then p else lookR r k

theorem updM_append (M : Mem) (u v : MemL) : updM M (u ++ v) = updM (updM M v) u := by
  induction u with
  | nil => rfl
  | cons x u ih => obtain ⟨i, e⟩ := x; funext id; simp only [List.cons_append, updM, ih]
theorem look_append (u v : MemL) : look (u ++ v) = updM (look v) u := updM_append _ u v

def constP : Value → Option PV
  | .agg cs => if cs.toList.all (·.oneCell') then some (.agg (cs.toList.map fun v => .c (.raw v))) else none
  | .tuple _ => none
  | v => some (.c (.raw v))

def opP (Γ : Gl) (r : Regs) : Operand → Option PV
  | .tmp t => lookR r t
  | .const v => constP v
  | .global g => (Γ g).map .fptr
  | .func f => some (.func f [])

/-- What the frozen variables of the program hold. -/
def GOK (Γ : Gl) (F : Fz) : Prop := ∀ g cells, Γ g = some cells → FRcells F g 0 cells

theorem GOK.mono {Γ : Gl} {F G : Fz} (h : GOK Γ F) (hF : F.le G) : GOK Γ G := fun g cells hg => (h g cells hg).mono hF

/-- Within a call: the program, the state in which it began, how many registers it has. -/
structure Cx where
  P : Program
  Γ : Gl
  n : Nat
  w : World
  F : Fz
  ν : Nu
  M : MemL

structure Inv (C : Cx) (r : Regs) (m : MemL) (a : Act) (w : World) (F : Fz) (ν : Nu) : Prop where
  st : St F ν (look m) w
  regs : ∀ t p, lookR r t = some p → VR F ν (a.tmps.getD t undef) p
  size : a.tmps.size = C.n
  defers : a.defers = []
  ext : Ext C.F C.ν (look C.M) C.w F ν (look m) w
  same : ∀ id, look C.M id ≠ none → ν id = C.ν id
  gok : GOK C.Γ F

theorem VR.const {F : Fz} {ν : Nu} {v : Value} {p : PV} (h : constP v = some p) : VR F ν v p := by
  cases v <;> simp only [constP] at h <;> first
    | (cases h; exact VR.of_raw rfl)
    | (cases h; done)
    | skip
  rename_i cs
  split at h
  · cases h
    rename_i hall
    simp only [VR]
    exact ⟨cs.toList, by simp, VRs.raws (fun u hu => List.all_eq_true.1 hall u hu)⟩
  · cases h

theorem Inv.op {C : Cx} {r : Regs} {m : MemL} {a : Act} {w : World} {F : Fz} {ν : Nu} (h : Inv C r m a w F ν) {x : Operand} {p : PV} (hx : opP C.Γ r x = some p) : VR F ν (a.eval x) p := by
  cases x with
  | tmp t => exact h.regs t p hx
  | const v => exact VR.const hx
  | global g =>
    simp only [opP, Option.map_eq_some_iff] at hx
    obtain ⟨cells, hg, rfl⟩ := hx
    simp only [VR, Act.eval]
    exact ⟨g, 0, rfl, h.gok g cells hg⟩
  | func f =>
    simp only [opP, Option.some.injEq] at hx; subst hx
    simp only [VR, VRs, Act.eval]
    exact ⟨[], rfl, rfl⟩

/-- One abstract value tells less than another. -/
def Le (q p : PV) : Prop := ∀ F ν v, VR F ν v q → VR F ν v p
theorem Le.same {p : PV} : Le p p := fun _ _ _ h => h

def InsOK (Γ : Gl) (r : Regs) : List (Operand × PV) → Prop
  | [] => True
  | (x, p) :: l => (∃ q, opP Γ r x = some q ∧ Le q p) ∧ InsOK Γ r l

theorem InsOK.get {Γ : Gl} {r : Regs} : ∀ {l : List (Operand × PV)}, InsOK Γ r l → ∀ x ∈ l, ∃ q, opP Γ r x.1 = some q ∧ Le q x.2
  | [], _, x, hx => by simp at hx
  | (y, p) :: l, h, x, hx => by
    rcases List.mem_cons.1 hx with rfl | hx
    · exact h.1
    · exact InsOK.get h.2 x hx

def MemOK (m : MemL) : List (Nat × Ent) → Prop
  | [] => True
  | (i, e) :: l => look m i = some e ∧ MemOK m l

theorem MemOK.get {m : MemL} : ∀ {l : List (Nat × Ent)}, MemOK m l → ∀ x ∈ l, look m x.1 = some x.2
  | [], _, x, hx => by simp at hx
  | (y, p) :: l, h, x, hx => by
    rcases List.mem_cons.1 hx with rfl | hx
    · exact h.1
    · exact MemOK.get h.2 x hx

def freshR (s : Nat) : Regs → Bool
  | [] => true
  | (_, some p) :: r => !p.says s && freshR s r
  | (_, none) :: r => freshR s r
def freshM (s : Nat) : MemL → Bool
  | [] => true
  | (i, some e) :: r => !(i == s) && !e.says s && freshM s r
  | (_, none) :: r => freshM s r
/-- New numbers of blocks: nothing speaks of them yet. -/
def fresh (C M : MemL) (r : Regs) : List Nat → Bool
  | [] => true
  | s :: l => freshM s C && freshM s M && freshR s r && fresh C M r l

theorem freshR.get {s : Nat} : ∀ {r : Regs}, freshR s r = true → ∀ t p, lookR r t = some p → p.says s = false
  | [], _, t, p, h => by simp [lookR] at h
  | (k, some q) :: r, hf, t, p, h => by
    simp only [freshR, Bool.and_eq_true, Bool.not_eq_true'] at hf
    simp only [lookR] at h
    split at h
    · cases h; exact hf.1
    · exact freshR.get hf.2 t p h
  | (k, none) :: r, hf, t, p, h => by
    simp only [freshR] at hf
    simp only [lookR] at h
    split at h
    · cases h
    · exact freshR.get hf t p h
theorem freshM.get {s : Nat} : ∀ {m : MemL}, freshM s m = true → look m s = none ∧ ∀ i e, look m i = some e → e.says s = false
  | [], _ => ⟨rfl, by simp [look, updM]⟩
  | (k, some q) :: m, hf => by
    simp only [freshM, Bool.and_eq_true, Bool.not_eq_true', beq_eq_false_iff_ne] at hf
    have ih := freshM.get hf.2
    refine ⟨?_, fun i e h => ?_⟩
    · simp only [look, updM] at ih ⊢; rw [if_neg (fun h => hf.1.1 h.symm)]; exact ih.1
    · simp only [look, updM] at h
      split at h
      · cases h; exact hf.1.2
      · exact ih.2 i e h
  | (k, none) :: m, hf => by
    simp only [freshM] at hf
    have ih := freshM.get hf
    refine ⟨?_, fun i e h => ?_⟩
    · simp only [look, updM] at ih ⊢; split
      · rfl
      · exact ih.1
    · simp only [look, updM] at h
      split at h
      · cases h
      · exact ih.2 i e h

theorem fresh_get {C m : MemL} {r : Regs} : ∀ {l : List Nat}, fresh C m r l = true → ∀ s ∈ l, look C s = none ∧ look m s = none ∧ (∀ i e, look m i = some e → e.says s = false) ∧ ∀ t p, lookR r t = some p → p.says s = false
  | [], _, s, hs => by simp at hs
  | x :: l, h, s, hs => by
    simp only [fresh, Bool.and_eq_true] at h
    rcases List.mem_cons.1 hs with rfl | hs
    · exact ⟨(freshM.get h.1.1.1).1, (freshM.get h.1.1.2).1, (freshM.get h.1.1.2).2, freshR.get h.1.2⟩
    · exact fresh_get h.2 s hs

def setR (r : Regs) : Option Tmp → Option PV → Regs
  | some d, p => (d, p) :: r
  | none, _ => r

abbrev Post := Exit → Regs → MemL → Prop
def Post.lift (C : Cx) (Q : Post) (e : Exit) (a : Act) (w : World) : Prop := ∃ r m F ν, Q e r m ∧ Inv C r m a w F ν

def AOps (C : Cx) (ops : Array Oper) (l : List Oper) (r : Regs) (m : MemL) (Q : Post) : Prop :=
  ∀ a w F ν, Inv C r m a w F ν → wpList C.P ops (Q.lift C) l a w
def ACode (C : Cx) (c : Code) (r : Regs) (m : MemL) (Q : Post) : Prop :=
  ∀ a w F ν, Inv C r m a w F ν → c.wp C.P (Q.lift C) a w

/-- An operation that may look at the program's frozen variables, too. -/
def OpTG (P : Program) (Γ : Gl) (o : Oper) (ins : List (Operand × PV)) (mem : List (Nat × Ent)) (pv : Option PV) (upd : List (Nat × Option Ent)) (new : List Nat) : Prop :=
  ∀ (a : Act) (w : World) (F : Fz) (ν : Nu) (M : Mem), GOK Γ F → St F ν M w → (∀ x ∈ ins, VR F ν (a.eval x.1) x.2) → (∀ x ∈ mem, M x.1 = some x.2) → (∀ s ∈ new, M s = none) →
    (∀ id e, M id = some e → ∀ s ∈ new, e.says s = false) →
    ∀ (K : Act → World → Prop) (Q : Exit → Act → World → Prop),
      (∀ v w' F' ν', (∀ p, pv = some p → VR F' ν' v p) → St F' ν' (updM M upd) w' → Ext F ν M w F' ν' (updM M upd) w' → (∀ id, id ∉ new → ν' id = ν id) → K (a.put o.dst v) w') → o.wp P a w K Q
theorem OpT.g {P : Program} {Γ : Gl} {o : Oper} {ins : List (Operand × PV)} {mem : List (Nat × Ent)} {pv : Option PV} {upd : List (Nat × Option Ent)} {new : List Nat} (h : OpT P o ins mem pv upd new) : OpTG P Γ o ins mem pv upd new :=
  fun a w F ν M _ => h a w F ν M

def dstOK (C : Cx) : Option Tmp → Bool
  | some d => d < C.n
  | none => true

theorem getD_put {a : Act} {d : Option Tmp} {v : Value} {t : Nat} (hd : ∀ k, d = some k → k < a.tmps.size) : (a.put d v).tmps.getD t undef = if d = some t then v else a.tmps.getD t undef := by
  cases d with
  | none => simp [Act.put]
  | some k =>
    have hk := hd k rfl
    by_cases h : k = t
    · subst h; simp [Act.put, hk]
    · simp [Act.put, h, Array.getElem?_setIfInBounds_ne h]

/-- The state behind an operation. -/
theorem Inv.step {C : Cx} {r : Regs} {m : MemL} {a : Act} {w : World} {F : Fz} {ν : Nu} (h : Inv C r m a w F ν) {d : Option Tmp} {pv : Option PV} {upd : MemL} {new : List Nat} (hf : fresh C.M m r new = true) (hd : dstOK C d = true)
    {v : Value} {w' : World} {F' : Fz} {ν' : Nu} (hv : ∀ p, pv = some p → VR F' ν' v p) (hst : St F' ν' (updM (look m) upd) w') (hext : Ext F ν (look m) w F' ν' (updM (look m) upd) w') (hν : ∀ id, id ∉ new → ν' id = ν id) :
    Inv C (setR r d pv) (upd ++ m) (a.put d v) w' F' ν' := by
  have hd' : ∀ k, d = some k → k < a.tmps.size := by
    intro k hk; subst hk; simp only [dstOK, decide_eq_true_eq] at hd; rw [h.size]; exact hd
  refine ⟨by rw [look_append]; exact hst, fun t p ht => ?_, ?_, ?_, by rw [look_append]; exact h.ext.trans hext, fun id hid => ?_, h.gok.mono hext.mono⟩
  · have old : lookR r t = some p → VR F' ν' (a.tmps.getD t undef) p := fun hr =>
      (h.regs t p hr).mono (new := new) hext.mono (fun s => by
        by_cases hs : s ∈ new
        · exact .inr hs
        · exact .inl (hν s hs).symm) (fun s hs => (fresh_get hf s hs).2.2.2 t p hr)
    rw [getD_put hd']
    cases d with
    | none => simpa using old ht
    | some k =>
      simp only [setR, lookR] at ht
      by_cases hk : t = k
      · subst hk; simp only [if_true] at ht ⊢; exact hv p ht
      · rw [if_neg hk] at ht
        rw [if_neg (by simpa using fun h => hk h.symm)]
        exact old ht
  · cases d <;> simp [Act.put, h.size]
  · cases d <;> simp [Act.put, h.defers]
  · rw [hν id fun hm => hid (fresh_get hf id hm).1]; exact h.same id hid

section
variable {C : Cx} {ops : Array Oper} {l : List Oper} {o : Oper} {r : Regs} {m : MemL} {Q : Post}

theorem AOps.nil (h : Q .normal r m) : AOps C ops [] r m Q := fun _ _ F ν hi => wpList_nil ⟨r, m, F, ν, h, hi⟩

/-- What a guard has said. -/
def guardB (want b : Bool) : PV → Prop
  | .c (.raw (.bool g)) => b = (g == want)
  | .tup [] => b = false
  | _ => False
/-- Is an operation wanted: it has no guard, or its guard has said what is asked. -/
def wants (ops : Array Oper) (r : Regs) (o : Oper) (b : Bool) : Prop :=
  match o.guard with
  | none => b = true
  | some (j, want) => ∃ d p, (ops[j]?).bind (·.dst) = some d ∧ lookR r d = some p ∧ guardB want b p

theorem VR.undef {F : Fz} {ν : Nu} : VR F ν undef (.tup []) := by
  simp only [VR]; exact ⟨[], rfl, by simp only [VRs]⟩
theorem wants.wanted {a : Act} {w : World} {F : Fz} {ν : Nu} (h : Inv C r m a w F ν) {b : Bool} (hw : wants ops r o b) : Region.wanted o (yielded ops a.tmps) = b := by
  unfold wants at hw
  unfold Region.wanted
  cases hg : o.guard with
  | none => simp only [hg] at hw; simp [hw]
  | some x =>
    obtain ⟨j, want⟩ := x
    simp only [hg] at hw
    obtain ⟨d, p, h1, h2, hb⟩ := hw
    have h3 := h.regs d _ h2
    unfold guardB at hb
    split at hb
    · rename_i g
      subst hb
      have h3 := VR.bool h3
      have h4 : a.tmps[d]? = some (.bool g) := by
        rw [Array.getD_eq_getD_getElem?] at h3
        cases ht : a.tmps[d]? with
        | none => simp [ht, undef] at h3
        | some v => simpa [ht] using h3
      simp only [yielded, h1, Option.bind_some, h4]
      rw [Bool.eq_iff_iff]; simp
    · subst hb
      simp only [VR] at h3
      obtain ⟨vs, h3, h4⟩ := h3
      have h5 : vs = [] := by simpa only [VRs] using h4
      subst h5
      rw [Array.getD_eq_getD_getElem?] at h3
      simp only [yielded, h1, Option.bind_some]
      cases ht : a.tmps[d]? with
      | none => simp
      | some v => rw [ht] at h3; simp only [Option.getD_some] at h3; subst h3; simp
    · exact hb.elim

theorem AOps.step {ins : List (Operand × PV)} {mem : List (Nat × Ent)} {pv : Option PV} {upd : MemL} {new : List Nat} (hT : OpTG C.P C.Γ o ins mem pv upd new) (hw : wants ops r o true) (hin : InsOK C.Γ r ins) (hm : MemOK m mem)
    (hf : fresh C.M m r new = true) (hd : dstOK C o.dst = true) (h : AOps C ops l (setR r o.dst pv) (upd ++ m) Q) : AOps C ops (o :: l) r m Q := by
  intro a w F ν hi
  refine wpList_step fun K hK => ?_
  rw [if_pos (hw.wanted hi)]
  exact hT a w F ν (look m) hi.gok hi.st (fun x hx => by obtain ⟨q, hq, hl⟩ := hin.get x hx; exact hl _ _ _ (hi.op hq)) (hm.get) (fun s hs => (fresh_get hf s hs).2.1) (fun id e he s hs => (fresh_get hf s hs).2.2.1 id e he) K _
    fun v w' F' ν' h1 h2 h3 h4 => hK _ _ (h _ _ F' ν' (hi.step hf hd h1 h2 h3 h4))

theorem AOps.skip (hw : wants ops r o false) (hd : dstOK C o.dst = true) (h : AOps C ops l (setR r o.dst (some (.tup []))) m Q) : AOps C ops (o :: l) r m Q := by
  intro a w F ν hi
  refine wpList_step fun K hK => ?_
  rw [if_neg (by rw [hw.wanted hi]; simp)]
  exact hK _ _ (h _ _ F ν (hi.step (new := []) (pv := some (.tup [])) (upd := []) rfl hd (by rintro _ ⟨⟩; exact VR.undef) (by simpa [updM] using hi.st) (by simpa [updM] using Ext.refl _ _ _ _) (fun _ _ => rfl)))

def LeE (d e : Ent) : Prop := ∀ F ν w h, ER F ν w h d → ER F ν w h e
theorem LeE.same {e : Ent} : LeE e e := fun _ _ _ _ h => h
/-- A state that tells less: what is kept of the registers and of the blocks. -/
structure Sub (r r' : Regs) (m m' : MemL) : Prop where
  regs : ∀ t p, lookR r' t = some p → ∃ q, lookR r t = some q ∧ Le q p
  mem : ∀ i e, look m' i = some e → ∃ d, look m i = some d ∧ LeE d e

theorem St.lessE {F : Fz} {ν : Nu} {M N : Mem} {w : World} (h : St F ν N w) (hm : ∀ i e, M i = some e → ∃ d, N i = some d ∧ LeE d e) : St F ν M w :=
  ⟨h.fz, fun id e he => by obtain ⟨d, hd, hl⟩ := hm id e he; exact hl _ _ _ _ (h.ents id d hd), fun i j d e b hi hj => by
    obtain ⟨d', hd, _⟩ := hm i d hi; obtain ⟨e', he, _⟩ := hm j e hj; exact h.dist i j d' e' b hd he⟩
theorem Ext.lessE {F F' : Fz} {ν ν' : Nu} {M M' N' : Mem} {w w' : World} (h : Ext F ν M w F' ν' N' w') (hm : ∀ i e, M' i = some e → ∃ d, N' i = some d ∧ LeE d e) : Ext F ν M w F' ν' M' w' :=
  ⟨h.os, h.tape, h.output, h.size, h.mono, h.keep, fun id e b he => by obtain ⟨d, hd, _⟩ := hm id e he; exact h.blocks id d b hd⟩

theorem Inv.sub {r' : Regs} {m' : MemL} {a : Act} {w : World} {F : Fz} {ν : Nu} (h : Inv C r m a w F ν) (hs : Sub r r' m m') : Inv C r' m' a w F ν :=
  ⟨h.st.lessE hs.mem, fun t p ht => by obtain ⟨q, hq, hl⟩ := hs.regs t p ht; exact hl _ _ _ (h.regs t q hq), h.size, h.defers, h.ext.lessE hs.mem, h.same, h.gok⟩

theorem AOps.sub {r' : Regs} {m' : MemL} (hs : Sub r r' m m') (h : AOps C ops l r' m' Q) : AOps C ops l r m Q := fun a w F ν hi => h a w F ν (hi.sub hs)
theorem ACode.sub {c : Code} {r' : Regs} {m' : MemL} (hs : Sub r r' m m') (h : ACode C c r' m' Q) : ACode C c r m Q := fun a w F ν hi => h a w F ν (hi.sub hs)

/-- What is kept, looked up one by one. -/
def keepR (r : Regs) : Regs → Prop
  | [] => True
  | (t, p) :: l => (match p with | some p => ∃ q, lookR r t = some q ∧ Le q p | none => True) ∧ keepR r l
def keepM (m : MemL) : MemL → Prop
  | [] => True
  | (i, e) :: l => (match e with | some e => ∃ d, look m i = some d ∧ LeE d e | none => True) ∧ keepM m l
theorem keepR.get : ∀ {r' : Regs}, keepR r r' → ∀ t p, lookR r' t = some p → ∃ q, lookR r t = some q ∧ Le q p
  | [], _, t, p, h => by simp [lookR] at h
  | (k, p') :: r', hk, t, p, h => by
    simp only [lookR] at h
    split at h
    · rename_i e; subst e; subst h; exact hk.1
    · exact keepR.get hk.2 t p h
theorem keepM.get : ∀ {m' : MemL}, keepM m m' → ∀ i e, look m' i = some e → ∃ d, look m i = some d ∧ LeE d e
  | [], _, i, e, h => by simp [look, updM] at h
  | (k, e') :: m', hk, i, e, h => by
    simp only [look, updM] at h
    split at h
    · rename_i ee; subst ee; subst h; exact hk.1
    · exact keepM.get hk.2 i e h
theorem Sub.of {r' : Regs} {m' : MemL} (h1 : keepR r r') (h2 : keepM m m') : Sub r r' m m' := ⟨h1.get, h2.get⟩

theorem ACode.region {id : Nat} {l : List Oper} (h : AOps C l.toArray l r m Q) : ACode C (.region id l.toArray false) r m Q :=
  fun a w F ν hi => wp_region_lit (h a w F ν hi)
theorem ACode.skip (h : Q .normal r m) : ACode C .skip r m Q := fun _ _ F ν hi => wp_skip ⟨r, m, F, ν, h, hi⟩
theorem ACode.exit {id : Nat} (h : Q (.exit id) r m) : ACode C (.exit id) r m Q := fun _ _ F ν hi => wp_exit ⟨r, m, F, ν, h, hi⟩
theorem ACode.ret (h : Q .ret r m) : ACode C .ret r m Q := fun _ _ F ν hi => wp_ret ⟨r, m, F, ν, h, hi⟩

def Post.seq (C : Cx) (y : Code) (Q : Post) : Post
  | .normal, r, m => ACode C y r m Q
  | e, r, m => Q e r m
theorem ACode.seq {x y : Code} (h : ACode C x r m (Post.seq C y Q)) : ACode C (.seq x y) r m Q := by
  intro a w F ν hi
  refine wp_seq (Code.wp_mono (fun e a' w' hq => ?_) (h a w F ν hi))
  obtain ⟨r', m', F', ν', hq, hi'⟩ := hq
  cases e <;> first
    | exact hq a' w' F' ν' hi'
    | exact ⟨r', m', F', ν', hq, hi'⟩

theorem ACode.cond {c : Operand} {x y : Code} {b : Bool} (hc : opP C.Γ r c = some (.c (.raw (.bool b)))) (h1 : b = true → ACode C x r m Q) (h2 : b = false → ACode C y r m Q) : ACode C (.cond c x y) r m Q :=
  fun a w F ν hi => wp_cond_split (VR.bool (hi.op hc)) (fun hb => h1 hb a w F ν hi) (fun hb => h2 hb a w F ν hi)

def Post.block (id : Nat) (Q : Post) : Post
  | .exit id', r, m => if id' = id then Q .normal r m else Q (.exit id') r m
  | e, r, m => Q e r m
theorem ACode.block {id : Nat} {c : Code} (h : ACode C c r m (Post.block id Q)) : ACode C (.block id c) r m Q := by
  intro a w F ν hi
  refine wp_block (Code.wp_mono (fun e a' w' hq => ?_) (h a w F ν hi))
  obtain ⟨r', m', F', ν', hq, hi'⟩ := hq
  cases e <;> first
    | exact ⟨r', m', F', ν', hq, hi'⟩
    | skip
  rename_i id'
  simp only [Post.block] at hq
  simp only [Exit.inBlock]
  split <;> rename_i he
  · rw [if_pos he] at hq; exact ⟨r', m', F', ν', hq, hi'⟩
  · rw [if_neg he] at hq; exact ⟨r', m', F', ν', hq, hi'⟩

theorem ACode.mono {c : Code} {Q' : Post} (h : ACode C c r m Q) (hq : ∀ e r m, Q e r m → Q' e r m) : ACode C c r m Q' :=
  fun a w F ν hi => Code.wp_mono (fun _ _ _ ⟨r', m', F', ν', q, i⟩ => ⟨r', m', F', ν', hq _ _ _ q, i⟩) (h a w F ν hi)

/-- A loop: states told by an index, a measure that each round lowers. -/
theorem wp_loop_ix {P : Program} {c : Code} {Q : Exit → Act → World → Prop} {ι : Type} (I : ι → Act → World → Prop) (μ : ι → Nat)
    (round : ∀ i a w, I i a w → c.wp P (Exit.then (fun a' w' => ∃ j, I j a' w' ∧ μ j < μ i) Q) a w) (i : ι) (a : Act) (w : World) (h₀ : I i a w) : (Code.loop c).wp P Q a w := by
  intro b k cs
  have key : ∀ n i a w, μ i = n → I i a w → ∃ e a' w', Q e a' w' ∧ Arrives P (lone (b.at a (.code c :: .inLoop c :: k)) cs w) b k cs e a' w' := by
    intro n
    induction n using Nat.strongRecOn with
    | _ n ih =>
      intro i a w hn hI
      obtain ⟨e, a₁, w₁, hq, harr⟩ := round i a w hI b (.inLoop c :: k) cs
      cases e with
      | normal =>
        obtain ⟨j, hI₁, hlt⟩ := hq
        obtain ⟨e₂, a₂, w₂, hq₂, harr₂⟩ := ih (μ j) (hn ▸ hlt) j a₁ w₁ rfl hI₁
        exact ⟨e₂, a₂, w₂, hq₂, .of_steps (Steps.trans harr (.one step_inLoop)) harr₂⟩
      | exit id => exact ⟨_, a₁, w₁, hq, .pass (x := .inLoop c) rfl (fun _ _ => .inl (by simp)) harr⟩
      | goto l => exact ⟨_, a₁, w₁, hq, .pass (x := .inLoop c) rfl (fun _ _ => .inl (by simp)) harr⟩
      | ret => exact ⟨_, a₁, w₁, hq, .pass (x := .inLoop c) rfl (fun _ _ => .inl (by simp)) harr⟩
      | panic ch => exact ⟨_, a₁, w₁, hq, .pass (x := .inLoop c) rfl (fun _ _ => .inl (by simp)) harr⟩
      | outgrown => exact ⟨_, a₁, w₁, hq, .pass (x := .inLoop c) rfl (fun _ _ => .inl (by simp)) harr⟩
  obtain ⟨e, a', w', hq, harr⟩ := key _ i a w rfl h₀
  exact ⟨e, a', w', hq, .of_steps (.one step_loop) harr⟩

def Post.loop {ι : Type} (G : ι → Prop) (I : ι → Regs × MemL) (μ : ι → Nat) (i : ι) (Q : Post) : Post
  | .normal, r, m => ∃ j, G j ∧ μ j < μ i ∧ Sub r (I j).1 m (I j).2
  | e, r, m => Q e r m

theorem ACode.loop {c : Code} {ι : Type} (G : ι → Prop) (I : ι → Regs × MemL) (μ : ι → Nat) (round : ∀ i, G i → ACode C c (I i).1 (I i).2 (Post.loop G I μ i Q)) (i : ι) (hG : G i) (hs : Sub r (I i).1 m (I i).2) : ACode C (.loop c) r m Q := by
  intro a w F ν hi
  refine wp_loop_ix (fun i a w => G i ∧ ∃ F ν, Inv C (I i).1 (I i).2 a w F ν) μ (fun i a w hI => ?_) i a w ⟨hG, F, ν, hi.sub hs⟩
  obtain ⟨hG, F, ν, hi⟩ := hI
  refine Code.wp_mono (fun e a' w' hq => ?_) (round i hG a w F ν hi)
  obtain ⟨r', m', F', ν', hq, hi'⟩ := hq
  cases e <;> first
    | exact ⟨r', m', F', ν', hq, hi'⟩
    | skip
  obtain ⟨j, hGj, hlt, hsub⟩ := hq
  exact ⟨j, ⟨hGj, F', ν', hi'.sub hsub⟩, hlt⟩
end

/-- A call, told by abstract states: from its arguments and the blocks that are handed to it to its result and what becomes of them. -/
def ACalls (P : Program) (Γ : Gl) (f : FuncId) (args : List PV) (m : MemL) (pv : PV) (m' : MemL) (new : List Nat) : Prop :=
  ∀ (w : World) (F : Fz) (ν : Nu) (vs : List Value), St F ν (look m) w → VRs F ν vs args → GOK Γ F →
    Calls P f vs.toArray w fun e w' => ∃ v F' ν', e = .returned v ∧ VR F' ν' v pv ∧ St F' ν' (look m') w' ∧ Ext F ν (look m) w F' ν' (look m') w' ∧ ∀ id, id ∉ new → ν' id = ν id

abbrev Tys := TypeId → Bool × Nat
def resP (ty : Tys) (m : MemL) (r : Regs) : ResultVar → Option PV
  | .tmp t => lookR r t
  | .cell t y => match lookR r t with
    | some (.ptr id 0) => match look m id with
      | some (.var ps) => if (ty y).1 then (if ps.length = (ty y).2 then some (.agg ps) else none) else (match ps with | [p] => some p | _ => none)
      | _ => none
    | _ => none

mutual
def PV.inn (l : List Nat) : PV → Bool
  | .c _ => true
  | .agg xs => PV.innL l xs
  | .tup xs => PV.innL l xs
  | .ptr id _ => l.contains id
  | .fptr _ => true
  | .osl id => l.contains id
  | .aptr id _ _ _ => l.contains id
  | .map id => l.contains id
  | .func _ cap => PV.innL l cap
def PV.innL (l : List Nat) : List PV → Bool
  | [] => true
  | x :: xs => x.inn l && PV.innL l xs
end
def Ent.inn (l : List Nat) : Ent → Bool
  | .var cells => PV.innL l cells
  | _ => true

mutual
theorem VR.inn {F : Fz} {ν μ : Nu} {l : List Nat} (h : ∀ i ∈ l, μ i = ν i) {v : Value} : ∀ {p : PV}, p.inn l = true → VR F ν v p → VR F μ v p
  | .c x, _, hr => by simpa only [VR] using hr
  | .agg xs, hi, hr => by
    simp only [VR] at hr ⊢
    obtain ⟨vs, h1, h2⟩ := hr
    exact ⟨vs, h1, VRs.inn h (by simpa only [PV.inn] using hi) h2⟩
  | .tup xs, hi, hr => by
    simp only [VR] at hr ⊢
    obtain ⟨vs, h1, h2⟩ := hr
    exact ⟨vs, h1, VRs.inn h (by simpa only [PV.inn] using hi) h2⟩
  | .ptr id off, hi, hr => by
    simp only [VR] at hr ⊢; rw [h id (by simpa [PV.inn] using hi)]; exact hr
  | .fptr cells, _, hr => by simpa only [VR] using hr
  | .osl id, hi, hr => by
    simp only [VR] at hr ⊢; rw [h id (by simpa [PV.inn] using hi)]; exact hr
  | .aptr id sz i off, hi, hr => by
    simp only [VR] at hr ⊢; rw [h id (by simpa [PV.inn] using hi)]; exact hr
  | .map id, hi, hr => by
    simp only [VR] at hr ⊢; rw [h id (by simpa [PV.inn] using hi)]; exact hr
  | .func f cap, hi, hr => by
    simp only [VR] at hr ⊢
    obtain ⟨vs, h1, h2⟩ := hr
    exact ⟨vs, h1, VRs.inn h (by simpa only [PV.inn] using hi) h2⟩
theorem VRs.inn {F : Fz} {ν μ : Nu} {l : List Nat} (h : ∀ i ∈ l, μ i = ν i) {vs : List Value} : ∀ {ps : List PV}, PV.innL l ps = true → VRs F ν vs ps → VRs F μ vs ps
  | [], _, hr => by simpa only [VRs] using hr
  | x :: xs, hi, hr => by
    simp only [PV.innL, Bool.and_eq_true] at hi
    simp only [VRs] at hr ⊢
    obtain ⟨v, r, h1, h2, h3⟩ := hr
    exact ⟨v, r, h1, VR.inn h hi.1 h2, VRs.inn h hi.2 h3⟩
end
theorem ER.inn {F : Fz} {ν μ : Nu} {w : World} {h : Value} {e : Ent} {l : List Nat} (hl : ∀ i ∈ l, μ i = ν i) (he : e.inn l = true) (hr : ER F ν w h e) : ER F μ w h e := by
  cases e with
  | var cells =>
    obtain ⟨b, cs, ty, rfl, h1, h2, h3, h4⟩ := hr
    exact ⟨b, cs, ty, rfl, h1, h2, h3.inn hl he, h4⟩
  | arr wr e sz xs => exact hr
  | mp es => exact hr

/-- The numbers of the blocks that a memory tells of. -/
def liveL : MemL → List Nat
  | [] => []
  | (i, some _) :: m => i :: liveL m
  | (_, none) :: m => liveL m
theorem liveL.mem : ∀ {m : MemL} {i : Nat} {e : Ent}, look m i = some e → i ∈ liveL m
  | [], i, e, h => by simp [look, updM] at h
  | (k, some x) :: m, i, e, h => by
    simp only [look, updM] at h
    split at h
    · rename_i hk; subst hk; simp [liveL]
    · simp only [liveL, List.mem_cons]; exact .inr (liveL.mem h)
  | (k, none) :: m, i, e, h => by
    simp only [look, updM] at h
    split at h
    · cases h
    · simp only [liveL]; exact liveL.mem h
def allM (q : Ent → Bool) : MemL → Bool
  | [] => true
  | (_, some e) :: m => q e && allM q m
  | (_, none) :: m => allM q m
theorem allM.get {q : Ent → Bool} : ∀ {m : MemL}, allM q m = true → ∀ {i : Nat} {e : Ent}, look m i = some e → q e = true
  | [], _, i, e, h => by simp [look, updM] at h
  | (k, some x) :: m, ha, i, e, h => by
    simp only [allM, Bool.and_eq_true] at ha
    simp only [look, updM] at h
    split at h
    · cases h; exact ha.1
    · exact allM.get ha.2 h
  | (k, none) :: m, ha, i, e, h => by
    simp only [allM] at ha
    simp only [look, updM] at h
    split at h
    · cases h
    · exact allM.get ha h

def oneP : List PV → PV
  | [p] => p
  | ps => .tup ps
/-- How a body ends. -/
def Post.body (ty : Tys) (fn : Func) (m0 : MemL) (pv : PV) (m' : MemL) (new : List Nat) : Post
  | e, r, m => (e = .ret ∨ e = .normal) ∧ (∃ ps, fn.results.toList.mapM (resP ty m r) = some ps ∧ oneP ps = pv) ∧ keepM m m' ∧ pv.inn (liveL m') = true ∧ allM (fun e => e.inn (liveL m')) m' = true ∧ ∀ i ∈ liveL m', i ∈ new ∨ look m0 i ≠ none
end Go.Ab
