/- Code run along a script: the machine. Conditions: none. -/
import Derived.Test.YtiojahpkaogigaaGreatDoorAb23
namespace Go.Ab

inductive Fr where
  | seq (y : Code) (p : List Nat)
  | block (id : Nat)
inductive Cur where
  | code (c : Code) (p : List Nat)
  | ops (a l : List Oper)
  | done (e : Exit)
def Post.fr (C : Cx) : List Fr → Post → Post
  | [], Q => Q
  | .seq y _ :: fs, Q => Post.seq C y (Post.fr C fs Q)
  | .block id :: fs, Q => Post.block id (Post.fr C fs Q)
theorem Post.fr_ret {C : Cx} {Q : Post} {r : Regs} {m : MemL} (h : Q .ret r m) : ∀ {fs : List Fr}, Post.fr C fs Q .ret r m
  | [] => h
  | .seq _ _ :: _ => Post.seq_r (Post.fr_ret h)
  | .block _ :: _ => Post.block_r (Post.fr_ret h)

structure Cf (P : Program) (Γ : Gl) where
  cur : Cur
  fs : List Fr
  a : Acc P Γ
def Cf.ld {P : Program} {Γ : Gl} (d : Cf P Γ) (s : Nat) (its : List (It P Γ)) : Cf P Γ := ⟨d.cur, d.fs, ⟨d.a.r, d.a.m, s, its, []⟩⟩

def ACur (C : Cx) (Q : Post) (c : Cur) (fs : List Fr) (r : Regs) (m : MemL) : Prop := match c with
  | .code k _ => ACode C k r m (Post.fr C fs Q)
  | .ops a l => AOps C a.toArray l r m (Post.fr C fs Q)
  | .done e => Post.fr C fs Q e r m
def AConf (C : Cx) (Q : Post) (d : Cf C.P C.Γ) : Prop := ACur C Q d.cur d.fs d.a.r d.a.m

/-- A place's number. -/
def hp : List Nat → Nat
  | [] => 1000
  | d :: p => (hp p * 7 + d) % 9973 + 1000

section
variable {P : Program} {Γ : Gl}
def stepC (T : Tb) (N : Nat) (CM : MemL) (k : Code) (p : List Nat) (fs : List Fr) (a : Acc P Γ) : Cf P Γ × Bool :=
  match k with
  | .seq x y => (⟨.code x (0 :: p), .seq y (1 :: p) :: fs, a⟩, true)
  | .block id x => match x with
    | .loop _ => (⟨.code k p, fs, a⟩, false)
    | x => (⟨.code x (3 :: p), .block id :: fs, a⟩, true)
  | .region _ ops d => match d with
    | true => match runD T N CM ops.toList ops.toList a with
      | some (is, e) => bif okDraw CM a.m a.r ops.toList is then (⟨.ops ops.toList [], fs, e⟩, true) else (⟨.code k p, fs, a⟩, false)
      | none => (⟨.code k p, fs, a⟩, false)
    | false => (⟨.ops ops.toList ops.toList, fs, a⟩, true)
  | .skip => (⟨.done .normal, fs, a⟩, true)
  | .exit id => (⟨.done (.exit id), fs, a⟩, true)
  | .ret => (⟨.done .ret, fs, a⟩, true)
  | .cond x t e => match opP Γ a.r x with
    | some z => match dec1 z a.its with
      | some (true, its, q) => (⟨.code t (4 :: p), fs, ⟨a.r, a.m, a.s, its, q ++ a.q⟩⟩, true)
      | some (false, its, q) => (⟨.code e (5 :: p), fs, ⟨a.r, a.m, a.s, its, q ++ a.q⟩⟩, true)
      | none => (⟨.code k p, fs, a⟩, false)
    | none => (⟨.code k p, fs, a⟩, false)
  | _ => (⟨.code k p, fs, a⟩, false)
def stepD (e : Exit) (fs : List Fr) (a : Acc P Γ) : Cf P Γ × Bool :=
  match e with
  | .normal => match fs with
    | .seq y p :: fs => (⟨.code y p, fs, a⟩, true)
    | .block _ :: fs => (⟨.done .normal, fs, a⟩, true)
    | [] => (⟨.done e, fs, a⟩, false)
  | .exit i => match fs with
    | .seq _ _ :: fs => (⟨.done (.exit i), fs, a⟩, true)
    | .block j :: fs => bif Nat.beq i j then (⟨.done .normal, fs, a⟩, true) else (⟨.done (.exit i), fs, a⟩, true)
    | [] => (⟨.done e, fs, a⟩, false)
  | .ret => match fs with
    | _ :: fs => (⟨.done .ret, fs, a⟩, true)
    | [] => (⟨.done e, fs, a⟩, false)
  | e => (⟨.done e, fs, a⟩, false)
def step (T : Tb) (N : Nat) (CM : MemL) (stop : Nat) (d : Cf P Γ) : Cf P Γ × Bool :=
  match d.cur with
  | .code k p => bif Nat.beq (hp p) stop then (⟨.code k p, d.fs, fixA CM (hp p) d.a.its d.a.r d.a.m d.a.s d.a.q⟩, false) else stepC T N CM k p d.fs (fixA CM (hp p) d.a.its d.a.r d.a.m d.a.s d.a.q)
  | .ops al l => match runL T N CM al (al.length - l.length) l d.a with
    | (b, []) => (⟨.done .normal, d.fs, b⟩, true)
    | (b, o :: l') => (⟨.ops al (o :: l'), d.fs, b⟩, false)
  | .done e => stepD e d.fs d.a
def iter (T : Tb) (N : Nat) (CM : MemL) (stop : Nat) : Nat → Cf P Γ → Cf P Γ
  | 0, d => d
  | n + 1, d => match step T N CM stop d with
    | (e, true) => iter T N CM stop n e
    | (e, false) => e

variable {C : Cx} {T : Tb} {Q : Post}
theorem stepC_ok (hT : TbOK C.P T) (hmix : C.P.follows .mixedOrders = true) {k : Code} {p : List Nat} {fs : List Fr} {a : Acc C.P C.Γ} (hq : EqOK (stepC T C.n C.M k p fs a).1.a.q) : EqOK a.q ∧ (AConf C Q (stepC T C.n C.M k p fs a).1 → ACode C k a.r a.m (Post.fr C fs Q)) := by
  unfold stepC at hq ⊢
  cases k with
  | seq x y => exact ⟨hq, fun h => ACode.seq h⟩
  | block id x => cases x <;> first | exact ⟨hq, fun h => h⟩ | exact ⟨hq, fun h => ACode.block h⟩
  | region id ops d =>
    cases d with
    | true =>
      simp only at hq ⊢
      cases hr : runD T C.n C.M ops.toList ops.toList a with
      | none => rw [hr] at hq; exact ⟨hq, fun h => h⟩
      | some x =>
        obtain ⟨is, e⟩ := x
        rw [hr] at hq
        simp only at hq ⊢
        cases hd : okDraw C.M a.m a.r ops.toList is with
        | false => rw [hd] at hq; exact ⟨hq, fun h => h⟩
        | true =>
          rw [hd] at hq
          simp only [cond_true] at hq ⊢
          obtain ⟨h1, h2⟩ := runD_ok hT hr hq
          refine ⟨h1, fun h => ?_⟩
          simp only [okDraw, Bool.and_eq_true] at hd
          exact ACode.draw _ hmix h2 hd.1.1.1 hd.1.1.2 hd.1.2 hd.2 h
    | false => exact ⟨hq, fun h => ACode.region (l := ops.toList) h⟩
  | skip => exact ⟨hq, fun h => ACode.skip h⟩
  | exit id => exact ⟨hq, fun h => ACode.exit h⟩
  | ret => exact ⟨hq, fun h => ACode.ret h⟩
  | cond x t e =>
    simp only at hq ⊢
    cases hx : opP C.Γ a.r x with
    | none => rw [hx] at hq; exact ⟨hq, fun h => h⟩
    | some z =>
      rw [hx] at hq
      simp only at hq ⊢
      cases hd : dec1 z a.its with
      | none => rw [hd] at hq; exact ⟨hq, fun h => h⟩
      | some y =>
        obtain ⟨v, its, q⟩ := y
        rw [hd] at hq
        cases v with
        | true =>
          simp only at hq ⊢
          have h1 := EqOK.app hq
          have h2 := dec1_ok hd h1.1
          subst h2
          exact ⟨h1.2, fun h => ACode.condT hx rfl h⟩
        | false =>
          simp only at hq ⊢
          have h1 := EqOK.app hq
          have h2 := dec1_ok hd h1.1
          subst h2
          exact ⟨h1.2, fun h => ACode.condF hx rfl h⟩
  | _ => exact ⟨hq, fun h => h⟩
theorem stepD_ok {e : Exit} {fs : List Fr} {a : Acc C.P C.Γ} : (stepD e fs a).1.a = a ∧ (AConf C Q (stepD e fs a).1 → Post.fr C fs Q e a.r a.m) := by
  unfold stepD
  cases e with
  | normal =>
    cases fs with
    | nil => exact ⟨rfl, fun h => h⟩
    | cons f fs => cases f <;> first | exact ⟨rfl, fun h => Post.seq_n h⟩ | exact ⟨rfl, fun h => Post.block_n h⟩
  | exit i =>
    cases fs with
    | nil => exact ⟨rfl, fun h => h⟩
    | cons f fs =>
      cases f with
      | seq y p => exact ⟨rfl, fun h => Post.seq_e h⟩
      | block j =>
        simp only
        cases hb : Nat.beq i j with
        | true =>
          have := Nat.eq_of_beq_eq_true hb
          subst this
          exact ⟨rfl, fun h => Post.block_hit h⟩
        | false => exact ⟨rfl, fun h => Post.block_miss (Nat.ne_of_beq_eq_false hb) h⟩
  | ret =>
    cases fs with
    | nil => exact ⟨rfl, fun h => h⟩
    | cons f fs => cases f <;> first | exact ⟨rfl, fun h => Post.seq_r h⟩ | exact ⟨rfl, fun h => Post.block_r h⟩
  | goto _ => exact ⟨rfl, fun h => h⟩
  | panic _ => exact ⟨rfl, fun h => h⟩
  | outgrown => exact ⟨rfl, fun h => h⟩
theorem step_ok (hT : TbOK C.P T) (hmix : C.P.follows .mixedOrders = true) {stop : Nat} {d : Cf C.P C.Γ} (hq : EqOK (step T C.n C.M stop d).1.a.q) : EqOK d.a.q ∧ (AConf C Q (step T C.n C.M stop d).1 → AConf C Q d) := by
  obtain ⟨cur, fs, a⟩ := d
  unfold step at hq ⊢
  cases cur with
  | code k p =>
    have hf := fixA_ok (C := C) (Q := Post.fr C fs Q) (its := a.its) (r := a.r) (m := a.m) (s := a.s) (q := a.q) (pos := hp p)
    simp only at hq ⊢
    cases hb : Nat.beq (hp p) stop with
    | true => rw [hb] at hq; simp only [cond_true] at hq ⊢; rw [hf.1] at hq; exact ⟨hq, fun h => hf.2.2 h⟩
    | false =>
      rw [hb] at hq
      simp only [cond_false] at hq ⊢
      have h1 := stepC_ok (Q := Q) hT hmix hq
      rw [hf.1] at h1
      exact ⟨h1.1, fun h => hf.2.2 (h1.2 h)⟩
  | ops al l =>
    have h1 := runL_ok (C := C) (Q := Post.fr C fs Q) hT (ops := al) (l := l) (k := al.length - l.length) (a := a)
    simp only at hq ⊢
    cases hr : runL T C.n C.M al (al.length - l.length) l a with
    | mk b l' =>
      rw [hr] at hq h1
      cases l' with
      | nil => exact ⟨(h1 hq).1, fun h => (h1 hq).2 (AOps.nil h)⟩
      | cons o l' => exact ⟨(h1 hq).1, fun h => (h1 hq).2 h⟩
  | done e =>
    have h1 := stepD_ok (C := C) (Q := Q) (e := e) (fs := fs) (a := a)
    simp only at hq ⊢
    rw [h1.1] at hq
    exact ⟨hq, h1.2⟩
theorem iter_ok (hT : TbOK C.P T) (hmix : C.P.follows .mixedOrders = true) {stop : Nat} : ∀ {n : Nat} {d : Cf C.P C.Γ}, EqOK (iter T C.n C.M stop n d).a.q → EqOK d.a.q ∧ (AConf C Q (iter T C.n C.M stop n d) → AConf C Q d)
  | 0, d, hq => ⟨hq, fun h => h⟩
  | n + 1, d, hq => by
    have h1 := step_ok (C := C) (Q := Q) hT hmix (stop := stop) (d := d)
    simp only [iter] at hq ⊢
    cases hs : step T C.n C.M stop d with
    | mk e b =>
      rw [hs] at hq h1
      cases b with
      | true =>
        have ih := iter_ok hT hmix hq
        have h2 := h1 ih.1
        exact ⟨h2.1, fun h => h2.2 (ih.2 h)⟩
      | false =>
        have h2 := h1 hq
        exact ⟨h2.1, fun h => h2.2 h⟩

/-- A program with its tables. -/
structure Prg (P : Program) (T : Tb) : Prop where
  t : TbOK P T
  mix : P.follows .mixedOrders = true
def Cf.e1 (d : Cf P Γ) : List Q1 := d.a.q.map (·.1)
def Cf.e2 (d : Cf P Γ) : List Q1 := d.a.q.map (·.2)
theorem AConf.go {P : Program} {T : Tb} (hS : Prg P T) (stop : Nat) (s : Nat) {Γ : Gl} (its : List (It P Γ)) {N : Nat} {w : World} {F : Fz} {ν : Nu} {CM : MemL} {Q : Post} {d : Cf P Γ} (h : AConf ⟨P, Γ, N, w, F, ν, CM⟩ Q (iter T N CM stop 400 (d.ld s its)))
    (hq : (iter T N CM stop 400 (d.ld s its)).e1 = (iter T N CM stop 400 (d.ld s its)).e2 := by kernel_rfl) : AConf ⟨P, Γ, N, w, F, ν, CM⟩ Q d :=
  (iter_ok (C := ⟨P, Γ, N, w, F, ν, CM⟩) hS.t hS.mix (EqOK.of hq)).2 h
end
attribute [irreducible] iter
end Go.Ab
