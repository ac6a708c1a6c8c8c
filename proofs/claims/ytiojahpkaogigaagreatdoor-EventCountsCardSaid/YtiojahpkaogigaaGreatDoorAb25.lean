/- Where two ways meet; loops; the beginning and the end of a body. Conditions: none. -/
import Derived.Test.YtiojahpkaogigaaGreatDoorAb24
namespace Go.Ab

/-- What is left of two ways through an 'out'. -/
def Out.el {R S Z : Type} (o : Out R S) (f : R → Z) (g : S → Z) : Z := match o with
  | .ret r => f r
  | .go s => g s

/-- The code at a place, and what follows it. -/
def nav (B : Code) : List Nat → Code × List Fr
  | [] => (B, [])
  | d :: p => match nav B p with
    | (c, fs) => match d, c with
      | 0, .seq x y => (x, .seq y (1 :: p) :: fs)
      | 1, .seq _ y => (y, fs)
      | 2, .seq x _ => (x, [])
      | 3, .block id x => (x, .block id :: fs)
      | 4, .cond _ x _ => (x, fs)
      | 5, .cond _ _ y => (y, fs)
      | 8, .block _ (.loop x) => (x, [])
      | 9, .block _ (.loop (.seq _ (.seq _ (.seq (.block _ x) _)))) => (x, [])
      | _, c => (c, fs)

section
variable {P : Program} {Γ : Gl}
def Cf.at (B : Code) (p : List Nat) (r : Regs) (m : MemL) : Cf P Γ := ⟨.code (nav B p).1 p, (nav B p).2, ⟨r, m, 0, [], []⟩⟩
def subR (r r' : Regs) : Regs := r'.map fun x => (x.1, match x.2 with
  | some e => (lookR r x.1).map (wkTo e)
  | none => none)
def subM (m m' : MemL) : MemL := m'.map fun x => (x.1, match x.2 with
  | some e => (look m x.1).map (wkE e)
  | none => none)
theorem subR_get {r r' : Regs} (h : subR r r' = r') : ∀ t p, lookR r' t = some p → ∃ q, lookR r t = some q ∧ Le q p := by
  intro t p hp
  have hm := lookR_mem hp
  have h2 : (t, some p) ∈ subR r r' := by rw [h]; exact hm
  simp only [subR, List.mem_map] at h2
  obtain ⟨⟨t', e⟩, h3, h4⟩ := h2
  cases e with
  | none => simp at h4
  | some e =>
    simp only [Prod.mk.injEq] at h4
    obtain ⟨rfl, h4⟩ := h4
    cases hl : lookR r t' with
    | none => rw [hl] at h4; cases h4
    | some q =>
      rw [hl] at h4
      simp only [Option.map_some, Option.some.injEq] at h4
      exact ⟨q, rfl, by have := wkTo_le e q; rwa [h4] at this⟩
theorem subM_get {m m' : MemL} (h : subM m m' = m') : ∀ i e, look m' i = some e → ∃ d, look m i = some d ∧ LeE d e := by
  intro t p hp
  have hm := look_mem hp
  have h2 : (t, some p) ∈ subM m m' := by rw [h]; exact hm
  simp only [subM, List.mem_map] at h2
  obtain ⟨⟨t', e⟩, h3, h4⟩ := h2
  cases e with
  | none => simp at h4
  | some e =>
    simp only [Prod.mk.injEq] at h4
    obtain ⟨rfl, h4⟩ := h4
    cases hl : look m t' with
    | none => rw [hl] at h4; cases h4
    | some q =>
      rw [hl] at h4
      simp only [Option.map_some, Option.some.injEq] at h4
      exact ⟨q, rfl, by have := wkE_le e q; rwa [h4] at this⟩
theorem Sub.w {r r' : Regs} {m m' : MemL} (h : (subR r r', subM m m') = (r', m')) : Sub r r' m m' := by
  injection h with h1 h2
  exact ⟨subR_get h1, subM_get h2⟩

variable {C : Cx} {T : Tb} {Q : Post}
def isSeq : Code → Bool
  | .seq _ _ => true
  | _ => false
theorem nav_seq {B : Code} {p : List Nat} (h : isSeq (nav B p).1 = true) : ∃ x y, (nav B p).1 = .seq x y ∧ nav B (2 :: p) = (x, []) ∧ nav B (1 :: p) = (y, (nav B p).2) := by
  cases hn : nav B p with
  | mk c fs =>
    rw [hn] at h
    cases c <;> simp [isSeq] at h
    exact ⟨_, _, rfl, by simp only [nav, hn], by simp only [nav, hn]⟩

theorem AConf.join {ι : Type} {d : Cf C.P C.Γ} (B : Code) (p : List Nat) (G : ι → Prop) (I : ι → Regs × MemL)
    (hx : AConf C (Post.join G I (Post.fr C (nav B p).2 Q)) (Cf.at B (2 :: p) d.a.r d.a.m)) (hy : ∀ i, G i → AConf C Q (Cf.at B (1 :: p) (I i).1 (I i).2))
    (hd : (d.cur, d.fs, isSeq (nav B p).1) = (.code (nav B p).1 p, (nav B p).2, true) := by kernel_rfl) : AConf C Q d := by
  injection hd with h1 h2
  injection h2 with h2 h3
  obtain ⟨x, y, e1, e2, e3⟩ := nav_seq h3
  unfold AConf
  rw [h1, h2]
  simp only [ACur, AConf, Cf.at, e1, e2, e3, Post.fr] at hx hy ⊢
  exact ACode.seqJ G I hx hy
theorem AConf.joinN {ι : Type} {G : ι → Prop} {I : ι → Regs × MemL} {d : Cf C.P C.Γ} {i : ι} (hG : G i) (hd : (d.cur, d.fs, subR d.a.r (I i).1, subM d.a.m (I i).2) = (.done .normal, [], (I i).1, (I i).2) := by kernel_rfl) : AConf C (Post.join G I Q) d := by
  injection hd with h1 h2
  injection h2 with h2 h3
  unfold AConf
  rw [h1, h2]
  exact (show Post.join G I Q .normal d.a.r d.a.m from Post.join_n i hG (Sub.w h3))
def notN : Cur → Bool
  | .done (.exit _) => true
  | .done .ret => true
  | _ => false
theorem AConf.joinX {ι : Type} {G : ι → Prop} {I : ι → Regs × MemL} {d : Cf C.P C.Γ} {fs : List Fr} (h : AConf C Q ⟨d.cur, fs, d.a⟩) (hd : (notN d.cur, d.fs) = (true, []) := by kernel_rfl) : AConf C (Post.join G I (Post.fr C fs Q)) d := by
  injection hd with h1 h2
  unfold AConf at h ⊢
  rw [h2]
  cases hc : d.cur with
  | code _ _ => rw [hc] at h1; cases h1
  | ops _ _ => rw [hc] at h1; cases h1
  | done e =>
    rw [hc] at h1 h
    cases e <;> simp [notN] at h1
    · exact (show Post.join G I (Post.fr C fs Q) _ d.a.r d.a.m from Post.join_e h)
    · exact (show Post.join G I (Post.fr C fs Q) _ d.a.r d.a.m from Post.join_r h)
def isRet : Cur → Bool
  | .done .ret => true
  | _ => false
theorem AConf.ret_of {d : Cf C.P C.Γ} (hd : isRet d.cur = true) (h : Q .ret d.a.r d.a.m) : AConf C Q d := by
  unfold AConf
  cases hc : d.cur with
  | code _ _ => rw [hc] at hd; cases hd
  | ops _ _ => rw [hc] at hd; cases hd
  | done e =>
    rw [hc] at hd
    cases e <;> simp [isRet] at hd
    exact Post.fr_ret h
theorem AConf.of_ret {d : Cf C.P C.Γ} (hd : isRet d.cur = true) {fs : List Fr} (h : AConf C Q ⟨d.cur, fs, d.a⟩) : Post.fr C fs Q .ret d.a.r d.a.m := by
  unfold AConf at h
  cases hc : d.cur with
  | code _ _ => rw [hc] at hd; cases hd
  | ops _ _ => rw [hc] at hd; cases hd
  | done e =>
    rw [hc] at hd h
    cases e <;> simp [isRet] at hd
    exact h
theorem AConf.joinR {ι : Type} {G : ι → Prop} {I : ι → Regs × MemL} {d : Cf C.P C.Γ} {fs : List Fr} (h : AConf C Q ⟨d.cur, fs, d.a⟩) (hd : isRet d.cur = true := by kernel_rfl) : AConf C (Post.join G I (Post.fr C fs Q)) d :=
  AConf.ret_of hd (Post.join_r (AConf.of_ret hd h))
theorem AConf.rngR {R S : Type} {b0 b1 ti i : Nat} {I : S → Regs × MemL} {o : Go.Ab.Step R S} {d : Cf C.P C.Γ} {fs : List Fr} (h : AConf C Q ⟨d.cur, fs, d.a⟩) (hd : isRet d.cur = true := by kernel_rfl) : AConf C (Post.rng b0 b1 ti i I o (Post.fr C fs Q)) d :=
  AConf.ret_of hd (Post.rng_r (AConf.of_ret hd h))
theorem AConf.stpR {R S : Type} {b0 : Nat} {I : S → Regs × MemL} {o : Go.Ab.Step R S} {d : Cf C.P C.Γ} {fs : List Fr} (h : AConf C Q ⟨d.cur, fs, d.a⟩) (hd : isRet d.cur = true := by kernel_rfl) : AConf C (Post.stp b0 I o (Post.fr C fs Q)) d :=
  AConf.ret_of hd (Post.stp_r (AConf.of_ret hd h))

/-- A bound on a row's length, out of a state that tells of the row. -/
def Bnd (C : Cx) (r : Regs) (m : MemL) (n : Nat) : Prop := ∀ {c : Code} {Q : Post}, (n ≤ maxLen → ACode C c r m Q) → ACode C c r m Q
theorem bR {α : Type} {xs : List α} {r : Regs} {m : MemL} (t : Nat) (f : α → List FV) (h : lookR r t = some (.c (.sl (xs.map f))) := by kernel_rfl) : Bnd C r m xs.length := fun k =>
  ACode.bound h fun hl => k (by simpa using hl)
theorem bO {α : Type} {xs : List α} {r : Regs} {m : MemL} (wr : Bool) (e sz : Nat) (id : Nat) (f : α → List FV) (h : look m id = some (.arr wr e sz (xs.map f)) := by kernel_rfl) : Bnd C r m xs.length := fun k =>
  ACode.boundO h fun hl => k (by simpa using hl)

structure RQ where
  b0 : Nat
  b1 : Nat
  tc : Nat
  tn : Nat
  ti : Nat
  tk : Nat
def rngV : Code → Option RQ
  | .block b0 (.loop (.seq (.region _ hs false) (.seq (.cond (.tmp tc) .skip (.exit b0')) (.seq (.block b1 _) (.region _ ts false))))) =>
    match hs.toList, ts.toList with
    | [⟨some tc', .binOp .lss _ (.tmp ti) (.tmp tn) _, _, _, _, none⟩], [⟨some tk, .binOp .add _ (.tmp ti') (.const (.int .i64 k)) _, _, _, _, none⟩, ⟨some ti2, .move (.tmp tk'), _, _, _, none⟩] =>
      bif Nat.beq b0 b0' && Nat.beq tc tc' && Nat.beq ti ti' && Nat.beq ti ti2 && Nat.beq tk tk' && decide (k = 1) then some ⟨b0, b1, tc, tn, ti, tk⟩ else none
    | _, _ => none
  | _ => none
def rngQ (c : Code) : RQ := match rngV c with
  | some q => q
  | none => ⟨0, 0, 0, 0, 0, 0⟩
theorem rngV_ok {c : Code} {q : RQ} (h : rngV c = some q) : ∃ (hid tid : Nat) (ho to1 to2 : Oper) (ty ty' uy uy' : TypeId) (body : Code),
    c = .block q.b0 (.loop (.seq (.region hid [ho].toArray false) (.seq (.cond (.tmp q.tc) .skip (.exit q.b0)) (.seq (.block q.b1 body) (.region tid [to1, to2].toArray false))))) ∧
    (ho.op = .binOp .lss ty (.tmp q.ti) (.tmp q.tn) ty' ∧ ho.dst = some q.tc ∧ ho.guard = none) ∧ (to1.op = .binOp .add uy (.tmp q.ti) (.const (.int .i64 1)) uy' ∧ to1.dst = some q.tk ∧ to1.guard = none) ∧ (to2.op = .move (.tmp q.tk) ∧ to2.dst = some q.ti ∧ to2.guard = none) := by
  unfold rngV at h
  split at h
  · rename_i b0 hid hs tc b0' b1 body tid ts
    split at h
    · rename_i tc' ty ti tn ty' x1 x2 x3 tk uy ti' k uy' x4 x5 x6 ti2 tk' x7 x8 x9 h1 h2
      replace h := bif_some h
      obtain ⟨hb, h⟩ := h
      cases h
      simp only [Bool.and_eq_true, decide_eq_true_eq] at hb
      obtain ⟨⟨⟨⟨⟨b1', b2⟩, b3⟩, b4⟩, b5⟩, b6⟩ := hb
      have b1' := Nat.eq_of_beq_eq_true b1'
      have b2 := Nat.eq_of_beq_eq_true b2
      have b3 := Nat.eq_of_beq_eq_true b3
      have b4 := Nat.eq_of_beq_eq_true b4
      have b5 := Nat.eq_of_beq_eq_true b5
      subst b1'; subst b2; subst b3; subst b4; subst b5; subst b6
      refine ⟨hid, tid, ⟨some tc, .binOp .lss ty (.tmp ti) (.tmp tn) ty', x1, x2, x3, none⟩, ⟨some tk, .binOp .add uy (.tmp ti) (.const (.int .i64 1)) uy', x4, x5, x6, none⟩, ⟨some ti, .move (.tmp tk), x7, x8, x9, none⟩, ty, ty', uy, uy', body, ?_, ⟨rfl, rfl, rfl⟩, ⟨rfl, rfl, rfl⟩, ⟨rfl, rfl, rfl⟩⟩
      have e1 : hs = [_].toArray := Array.ext' (ys := [_].toArray) h1
      have e2 : ts = [_, _].toArray := Array.ext' (ys := [_, _].toArray) h2
      rw [e1, e2]
    · cases h
  · cases h

theorem rng_sh {R S : Type} {b0 b1 ti i : Nat} {I : S → Regs × MemL} {o : Go.Ab.Step R S} : ∀ e r m, Post.rng b0 b1 ti i I o Q e r m → Post.rng b0 b1 ti i I o (Post.sh C Q) e r m := by
  intro e r m h
  cases e with
  | exit e =>
    simp only [Post.rng] at h ⊢
    split
    · rename_i h1; rw [if_pos h1] at h; exact h
    · rename_i h1
      rw [if_neg h1] at h
      split
      · rename_i h2; rw [if_pos h2] at h; exact h
      · rename_i h2; rw [if_neg h2] at h; exact h
  | _ => exact h
theorem stp_sh {R S : Type} {b0 : Nat} {I : S → Regs × MemL} {o : Go.Ab.Step R S} : ∀ e r m, Post.stp b0 I o Q e r m → Post.stp b0 I o (Post.sh C Q) e r m := by
  intro e r m h
  cases e with
  | exit e =>
    simp only [Post.stp] at h ⊢
    split
    · rename_i h1; rw [if_pos h1] at h; exact h
    · rename_i h1; rw [if_neg h1] at h; exact h
  | _ => exact h

theorem nav9 {B : Code} {p : List Nat} {b0 hid tc b1 tid : Nat} {hs ts : Array Oper} {body : Code} (h : (nav B p).1 = .block b0 (.loop (.seq (.region hid hs false) (.seq (.cond (.tmp tc) .skip (.exit b0)) (.seq (.block b1 body) (.region tid ts false)))))) : nav B (9 :: p) = (body, []) := by
  cases hn : nav B p with
  | mk c fs => rw [hn] at h; simp only at h; subst h; simp only [nav, hn]
theorem nav8 {B : Code} {p : List Nat} {b0 : Nat} {c : Code} (h : (nav B p).1 = .block b0 (.loop c)) : nav B (8 :: p) = (c, []) := by
  cases hn : nav B p with
  | mk c' fs => rw [hn] at h; simp only at h; subst h; simp only [nav, hn]

/-- 'for i, x := range xs'. -/
theorem AConf.range {R S α Z : Type} {d : Cf C.P C.Γ} {body : α → Nat → S → Option (Go.Ab.Step R S)} {xs : List α} {s0 : S} {emb : R → Z} {F : S → Option Z} {z : Z} {rr : R} (B : Code) (p : List Nat) (I : S → Regs × MemL)
    (hb : Bnd C d.a.r d.a.m xs.length) (h : ((loopL body xs 0 s0).bind fun out => Out.el out (fun r0 => some (emb r0)) F) = some z) (hz : ∀ r0, z = emb r0 → r0 = rr)
    (hgo : ∀ s, F s = some z → AConf C Q ⟨.ops [] [], (nav B p).2, ⟨(I s).1, (I s).2, 0, [], []⟩⟩)
    (hbody : ∀ i x s o, xs[i]? = some x → body x i s = some o → (∀ r0, o = .ret r0 → r0 = rr) → AConf C (Post.rng (rngQ (nav B p).1).b0 (rngQ (nav B p).1).b1 (rngQ (nav B p).1).ti i I o (Post.fr C (nav B p).2 Q)) (Cf.at B (9 :: p) (((rngQ (nav B p).1).ti, some (.c (.raw (.int .i64 i)))) :: (I s).1) (I s).2))
    (hd : (d.cur, d.fs, (rngV (nav B p).1).isSome) = (.code (nav B p).1 p, (nav B p).2, true) := by kernel_rfl)
    (hsz : ((Nat.blt (rngQ (nav B p).1).tc C.n && Nat.blt (rngQ (nav B p).1).tk C.n && Nat.blt (rngQ (nav B p).1).ti C.n && !(Nat.beq (rngQ (nav B p).1).tc (rngQ (nav B p).1).ti) && !(Nat.beq (rngQ (nav B p).1).b0 (rngQ (nav B p).1).b1) && !(Nat.beq (rngQ (nav B p).1).tn (rngQ (nav B p).1).ti) && !(Nat.beq (rngQ (nav B p).1).tn (rngQ (nav B p).1).tc)) = true) := by kernel_rfl)
    (hfree : ∀ s, (lookR (I s).1 (rngQ (nav B p).1).tc, lookR (I s).1 (rngQ (nav B p).1).tk, lookR (I s).1 (rngQ (nav B p).1).ti, lookR (I s).1 (rngQ (nav B p).1).tn) = (none, none, none, some (.c (.raw (.int .i64 xs.length)))) := by intro _; kernel_rfl)
    (hs : (subR d.a.r (((rngQ (nav B p).1).ti, some (.c (.raw (.int .i64 0)))) :: (I s0).1), subM d.a.m (I s0).2) = (((rngQ (nav B p).1).ti, some (.c (.raw (.int .i64 0)))) :: (I s0).1, (I s0).2) := by kernel_rfl) : AConf C Q d := by
  injection hd with h1 h2
  injection h2 with h2 h3
  obtain ⟨out, hrun, h⟩ := bind_some h
  cases hv : rngV (nav B p).1 with
  | none => rw [hv] at h3; cases h3
  | some q =>
    have hq : rngQ (nav B p).1 = q := by simp only [rngQ, hv]
    rw [hq] at hsz hfree hs
    obtain ⟨hid, tid, ho, to1, to2, ty, ty', uy, uy', BODY, e1, e2, e3, e4⟩ := rngV_ok hv
    have e9 := nav9 e1
    unfold AConf
    rw [h1, h2]
    simp only [ACur]
    refine hb fun hlen => ?_
    rw [e1]
    refine ACode.shift ?_
    refine ACode.range (out := out) I body s0 (fun r0 => r0 = rr) hrun e2 e3 e4 ?_ ?_ hlen ?_ ?_ (Sub.w hs) ?_
    · simp only [Bool.and_eq_true, Bool.not_eq_true'] at hsz ⊢
      obtain ⟨⟨⟨⟨⟨⟨a1, a2⟩, a3⟩, a4⟩, a5⟩, a6⟩, a7⟩ := hsz
      have f1 := Nat.le_of_ble_eq_true a1
      have f2 := Nat.le_of_ble_eq_true a2
      have f3 := Nat.le_of_ble_eq_true a3
      have f4 := Nat.ne_of_beq_eq_false a4
      have f5 := Nat.ne_of_beq_eq_false a5
      have f6 := Nat.ne_of_beq_eq_false a6
      have f7 := Nat.ne_of_beq_eq_false a7
      simp only [decide_eq_true_eq, beq_eq_false_iff_ne]
      exact ⟨⟨⟨⟨⟨⟨f1, f2⟩, f3⟩, f4⟩, f5⟩, f6⟩, f7⟩
    · intro s
      have := hfree s
      injection this with g1 g2
      injection g2 with g2 g3
      injection g3 with g3 g4
      exact ⟨g1, g2, g3, g4⟩
    · rintro r0 rfl
      exact hz r0 (Option.some.inj h).symm
    · rintro s rfl
      exact hgo s h
    · intro i x s o hx hbd hr
      have := hbody i x s o hx hbd hr
      unfold AConf at this
      rw [hq] at this
      simp only [Cf.at, e9, ACur] at this
      exact ACode.mono this rng_sh

/-- Any other loop. -/
def isLoop : Code → Bool
  | .block _ (.loop _) => true
  | _ => false
def blkId : Code → Nat
  | .block b _ => b
  | _ => 0
theorem AConf.rounds {R S Z : Type} {d : Cf C.P C.Γ} {k : Nat} {body : S → Option (Go.Ab.Step R S)} {s0 : S} {emb : R → Z} {F : S → Option Z} {z : Z} {rr : R} (B : Code) (p : List Nat) (I : S → Regs × MemL)
    (h : ((loopN body k s0).bind fun out => Out.el out (fun r0 => some (emb r0)) F) = some z) (hz : ∀ r0, z = emb r0 → r0 = rr)
    (hgo : ∀ s, F s = some z → AConf C Q ⟨.ops [] [], (nav B p).2, ⟨(I s).1, (I s).2, 0, [], []⟩⟩)
    (hbody : ∀ s o, body s = some o → (∀ r0, o = .ret r0 → r0 = rr) → AConf C (Post.stp (blkId (nav B p).1) I o (Post.fr C (nav B p).2 Q)) (Cf.at B (8 :: p) (I s).1 (I s).2))
    (hd : (d.cur, d.fs, isLoop (nav B p).1) = (.code (nav B p).1 p, (nav B p).2, true) := by kernel_rfl)
    (hs : (subR d.a.r (I s0).1, subM d.a.m (I s0).2) = ((I s0).1, (I s0).2) := by kernel_rfl) : AConf C Q d := by
  injection hd with h1 h2
  injection h2 with h2 h3
  obtain ⟨out, hrun, h⟩ := bind_some h
  cases hn : (nav B p).1 <;> rw [hn] at h3 <;> try (cases h3; done)
  rename_i b0 c
  cases c <;> try (cases h3; done)
  rename_i c
  have e8 := nav8 hn
  unfold AConf
  rw [h1, h2, hn]
  simp only [ACur]
  refine ACode.shift ?_
  refine ACode.rounds (out := out) I body s0 (fun r0 => r0 = rr) hrun ?_ ?_ (Sub.w hs) ?_
  · rintro r0 rfl
    exact hz r0 (Option.some.inj h).symm
  · rintro s rfl
    exact hgo s h
  · intro s o hbd hr
    have := hbody s o hbd hr
    unfold AConf at this
    rw [hn] at this
    simp only [Cf.at, e8, ACur, blkId] at this
    exact ACode.mono this stp_sh

def isC (b : Nat) : Cur → Bool
  | .done .normal => true
  | .done (.exit e) => Nat.beq e b
  | _ => false
def isX (b : Nat) : Cur → Bool
  | .done (.exit e) => Nat.beq e b
  | _ => false
theorem isX_eq {b : Nat} {c : Cur} (h : isX b c = true) : c = .done (.exit b) := by
  unfold isX at h
  split at h
  · rw [Nat.eq_of_beq_eq_true h]
  · cases h
theorem isC_eq {b : Nat} {c : Cur} (h : isC b c = true) : c = .done .normal ∨ c = .done (.exit b) := by
  unfold isC at h
  split at h
  · exact .inl rfl
  · rw [Nat.eq_of_beq_eq_true h]; exact .inr rfl
  · cases h
theorem AConf.rngC {R S : Type} {b0 b1 ti i : Nat} {I : S → Regs × MemL} {o : Go.Ab.Step R S} {s : S} {d : Cf C.P C.Γ} (h : some (Go.Ab.Step.cont s) = some o)
    (hd : (isC b1 d.cur, d.fs, subR d.a.r ((ti, some (.c (.raw (.int .i64 i)))) :: (I s).1), subM d.a.m (I s).2) = (true, [], (ti, some (.c (.raw (.int .i64 i)))) :: (I s).1, (I s).2) := by kernel_rfl) : AConf C (Post.rng (R := R) b0 b1 ti i I o Q) d := by
  cases h
  injection hd with h1 h2
  injection h2 with h2 h3
  unfold AConf
  rw [h2]
  rcases isC_eq h1 with h1 | h1 <;> rw [h1]
  · exact (show Post.rng b0 b1 ti i I (.cont s) Q _ d.a.r d.a.m from Post.rng_n (Sub.w h3))
  · exact (show Post.rng b0 b1 ti i I (.cont s) Q _ d.a.r d.a.m from Post.rng_c (Sub.w h3))
theorem AConf.rngB {R S : Type} {b0 b1 ti i : Nat} {I : S → Regs × MemL} {o : Go.Ab.Step R S} {s : S} {d : Cf C.P C.Γ} (h : some (Go.Ab.Step.brk s) = some o)
    (hd : (isX b0 d.cur, Nat.beq b0 b1, d.fs, subR d.a.r (I s).1, subM d.a.m (I s).2) = (true, false, [], (I s).1, (I s).2) := by kernel_rfl) : AConf C (Post.rng (R := R) b0 b1 ti i I o Q) d := by
  cases h
  injection hd with h1 h2
  injection h2 with h2 h3
  injection h3 with h3 h4
  unfold AConf
  rw [h3, isX_eq h1]
  exact (show Post.rng b0 b1 ti i I (.brk s) Q _ d.a.r d.a.m from Post.rng_b (Nat.ne_of_beq_eq_false h2) (Sub.w h4))
theorem AConf.stpC {R S : Type} {b0 : Nat} {I : S → Regs × MemL} {o : Go.Ab.Step R S} {s : S} {d : Cf C.P C.Γ} (h : some (Go.Ab.Step.cont s) = some o)
    (hd : (d.cur, d.fs, subR d.a.r (I s).1, subM d.a.m (I s).2) = (.done .normal, [], (I s).1, (I s).2) := by kernel_rfl) : AConf C (Post.stp (R := R) b0 I o Q) d := by
  cases h
  injection hd with h1 h2
  injection h2 with h2 h3
  unfold AConf
  rw [h1, h2]
  exact (show Post.stp b0 I (.cont s) Q _ d.a.r d.a.m from Post.stp_n (Sub.w h3))
theorem AConf.stpB {R S : Type} {b0 : Nat} {I : S → Regs × MemL} {o : Go.Ab.Step R S} {s : S} {d : Cf C.P C.Γ} (h : some (Go.Ab.Step.brk s) = some o)
    (hd : (isX b0 d.cur, d.fs, subR d.a.r (I s).1, subM d.a.m (I s).2) = (true, [], (I s).1, (I s).2) := by kernel_rfl) : AConf C (Post.stp (R := R) b0 I o Q) d := by
  cases h
  injection hd with h1 h2
  injection h2 with h2 h3
  unfold AConf
  rw [h2, isX_eq h1]
  exact (show Post.stp b0 I (.brk s) Q _ d.a.r d.a.m from Post.stp_b (Sub.w h3))

/-- A frozen slice in a register: nil, or not. -/
def isOps : Cur → Bool
  | .ops _ _ => true
  | _ => false
def Cf.set (d : Cf P Γ) (t : Nat) (p : PV) : Cf P Γ := ⟨d.cur, d.fs, ⟨(t, some p) :: d.a.r, d.a.m, 0, [], []⟩⟩
theorem AConf.nilS {d : Cf C.P C.Γ} {α : Type} (t : Nat) (f : α → List FV) (xs : List α)
    (h1 : xs = [] → AConf C Q (d.set t (.c (.raw (.slice none 0 0))))) (h2 : ∀ a n c, AConf C Q (d.set t (.c (.raw (.slice (some a) n c))))) (hd : (isOps d.cur, lookR d.a.r t) = (true, some (.c (.sl (xs.map f)))) := by kernel_rfl) : AConf C Q d := by
  injection hd with g1 g2
  unfold AConf at h1 h2 ⊢
  cases hc : d.cur with
  | code _ _ => rw [hc] at g1; cases g1
  | done _ => rw [hc] at g1; cases g1
  | ops a l =>
    simp only [Cf.set, hc] at h1 h2
    exact AOps.nilSplit g2 (fun h => h1 (List.map_eq_nil_iff.1 h)) h2
end
end Go.Ab
