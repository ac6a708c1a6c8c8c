/- Loops, joins, and the small words of the printed functions. Conditions: none. -/
import Derived.Test.YtiojahpkaogigaaGreatDoorAb9
import Derived.IntWalk
namespace Go.Ab
variable {wr wr2 : Bool}

theorem bind_some {α β : Type} {o : Option α} {f : α → Option β} {r : β} (h : o.bind f = some r) : ∃ x, o = some x ∧ f x = some r := by
  cases o with
  | none => cases h
  | some x => exact ⟨x, rfl, h⟩
theorem ite_t {α : Type} {b : Bool} {x y z : α} (hb : b = true) (h : (if b = true then x else y) = z) : x = z := by rw [if_pos hb] at h; exact h
theorem ite_f {α : Type} {b : Bool} {x y z : α} (hb : b = false) (h : (if b = true then x else y) = z) : y = z := by rw [hb] at h; exact h

def w64 (n : Int) : Int := IntKind.i64.wrap n
def idx {α : Type} (xs : List α) (i : Int) : Option α := if 0 ≤ i then xs[i.toNat]? else none
theorem idx_some {α : Type} {xs : List α} {i : Int} {x : α} (h : idx xs i = some x) : 0 ≤ i ∧ xs[i.toNat]? = some x := by
  unfold idx at h; split at h
  · exact ⟨‹_›, h⟩
  · cases h
def app {α : Type} (bytes : Nat) (xs ys : List α) : Option (List α) := if (xs.length + ys.length) * bytes ≤ 140737488355328 ∧ xs.length + ys.length ≤ maxLen then some (xs ++ ys) else none
theorem app_some {α : Type} {bytes : Nat} {xs ys zs : List α} (h : app bytes xs ys = some zs) : zs = xs ++ ys ∧ (xs.length + ys.length) * bytes ≤ 140737488355328 ∧ xs.length + ys.length ≤ maxLen := by
  unfold app at h; split at h
  · cases h; exact ⟨rfl, ‹_›⟩
  · cases h
def rem (a b : Int) : Option Int := if b = 0 then none else some (a.tmod b)
theorem rem_some {a b c : Int} (h : rem a b = some c) : b ≠ 0 ∧ c = a.tmod b := by
  unfold rem at h; split at h
  · cases h
  · cases h; exact ⟨‹_›, rfl⟩
def quo (k : IntKind) (a b : Int) : Option Int := if b = 0 then none else some (k.wrap (a.tdiv b))
theorem quo_some {k : IntKind} {a b c : Int} (h : quo k a b = some c) : b ≠ 0 ∧ c = k.wrap (a.tdiv b) := by
  unfold quo at h; split at h
  · cases h
  · cases h; exact ⟨‹_›, rfl⟩
def sadd (a b : List UInt8) : Option (List UInt8) := if a.length + b.length ≤ 9223372036854775807 then some (a ++ b) else none
theorem sadd_some {a b c : List UInt8} (h : sadd a b = some c) : a.length + b.length ≤ 9223372036854775807 ∧ c = a ++ b := by
  unfold sadd at h; split at h
  · cases h; exact ⟨‹_›, rfl⟩
  · cases h
def slc {α : Type} (xs : List α) (l h : Int) : Option (List α) := if 0 ≤ l ∧ l ≤ h ∧ h ≤ xs.length then some ((xs.take h.toNat).drop l.toNat) else none
theorem slc_some {α : Type} {xs zs : List α} {l h : Int} (e : slc xs l h = some zs) : 0 ≤ l ∧ l ≤ h ∧ h ≤ xs.length ∧ zs = (xs.take h.toNat).drop l.toNat := by
  unfold slc at e; split at e
  · rename_i hc; cases e; exact ⟨hc.1, hc.2.1, hc.2.2, rfl⟩
  · cases e

inductive Step (R S : Type) where
  | cont (s : S)
  | brk (s : S)
  | ret (r : R)
inductive Out (R S : Type) where
  | go (s : S)
  | ret (r : R)
def loopL {T R S : Type} (body : T → Nat → S → Option (Step R S)) : List T → Nat → S → Option (Out R S)
  | [], _, s => some (.go s)
  | x :: xs, i, s => match body x i s with
    | none => none
    | some (.cont s') => loopL body xs (i + 1) s'
    | some (.brk s') => some (.go s')
    | some (.ret r) => some (.ret r)
def loopN {R S : Type} (step : S → Option (Step R S)) : Nat → S → Option (Out R S)
  | 0, _ => none
  | k + 1, s => match step s with
    | none => none
    | some (.cont s') => loopN step k s'
    | some (.brk s') => some (.go s')
    | some (.ret r) => some (.ret r)

section
variable {C : Cx} {ops : Array Oper} {l : List Oper} {o : Oper} {r : Regs} {m : MemL} {Q : Post} {c : Code}

theorem Sub.same : Sub r r m m := ⟨fun _ p h => ⟨p, h, Le.same⟩, fun _ e h => ⟨e, h, LeE.same⟩⟩

def Post.join {ι : Type} (G : ι → Prop) (I : ι → Regs × MemL) (Q : Post) : Post
  | .normal, r, m => ∃ i, G i ∧ Sub r (I i).1 m (I i).2
  | e, r, m => Q e r m
theorem ACode.seqJ {ι : Type} {x y : Code} (G : ι → Prop) (I : ι → Regs × MemL) (hx : ACode C x r m (Post.join G I Q)) (hy : ∀ i, G i → ACode C y (I i).1 (I i).2 Q) : ACode C (.seq x y) r m Q := by
  refine ACode.seq (hx.mono fun e r m h => ?_)
  cases e <;> first
    | (obtain ⟨i, hG, hs⟩ := h; exact (hy i hG).sub hs)
    | exact h

theorem ACode.condT {cc : Operand} {x y : Code} {b : Bool} (hc : opP C.Γ r cc = some (.c (.raw (.bool b)))) (hb : b = true) (h : ACode C x r m Q) : ACode C (.cond cc x y) r m Q :=
  ACode.cond hc (fun _ => h) (fun h' => by rw [hb] at h'; cases h')
theorem ACode.condF {cc : Operand} {x y : Code} {b : Bool} (hc : opP C.Γ r cc = some (.c (.raw (.bool b)))) (hb : b = false) (h : ACode C y r m Q) : ACode C (.cond cc x y) r m Q :=
  ACode.cond hc (fun h' => by rw [hb] at h'; cases h') (fun _ => h)

theorem Post.seq_n {y : Code} (h : ACode C y r m Q) : Post.seq C y Q .normal r m := h
theorem Post.seq_e {y : Code} {e : Nat} (h : Q (.exit e) r m) : Post.seq C y Q (.exit e) r m := h
theorem Post.seq_r {y : Code} (h : Q .ret r m) : Post.seq C y Q .ret r m := h
theorem Post.block_n {id : Nat} (h : Q .normal r m) : Post.block id Q .normal r m := h
theorem Post.block_r {id : Nat} (h : Q .ret r m) : Post.block id Q .ret r m := h
theorem Post.block_hit {id : Nat} (h : Q .normal r m) : Post.block id Q (.exit id) r m := by simp only [Post.block, if_true]; exact h
theorem Post.block_miss {id e : Nat} (hne : e ≠ id) (h : Q (.exit e) r m) : Post.block id Q (.exit e) r m := by simp only [Post.block, hne, if_false]; exact h
theorem Post.join_n {ι : Type} {G : ι → Prop} {I : ι → Regs × MemL} (i : ι) (hG : G i) (hs : Sub r (I i).1 m (I i).2) : Post.join G I Q .normal r m := ⟨i, hG, hs⟩
theorem Post.join_e {ι : Type} {G : ι → Prop} {I : ι → Regs × MemL} {e : Nat} (h : Q (.exit e) r m) : Post.join G I Q (.exit e) r m := h
theorem Post.join_r {ι : Type} {G : ι → Prop} {I : ι → Regs × MemL} (h : Q .ret r m) : Post.join G I Q .ret r m := h

/-- How a round ends. -/
def Post.rng {R S : Type} (b0 b1 ti : Nat) (i : Nat) (I : S → Regs × MemL) (o : Step R S) (Q : Post) : Post
  | .normal, r, m => ∃ s, o = .cont s ∧ Sub r ((ti, some (.c (.raw (.int .i64 i)))) :: (I s).1) m (I s).2
  | .exit e, r, m => if e = b1 then ∃ s, o = .cont s ∧ Sub r ((ti, some (.c (.raw (.int .i64 i)))) :: (I s).1) m (I s).2 else if e = b0 then ∃ s, o = .brk s ∧ Sub r (I s).1 m (I s).2 else Q (.exit e) r m
  | e, r, m => Q e r m
theorem Post.rng_n {R S : Type} {b0 b1 ti i : Nat} {I : S → Regs × MemL} {s : S} (hs : Sub r ((ti, some (.c (.raw (.int .i64 i)))) :: (I s).1) m (I s).2) : Post.rng (R := R) b0 b1 ti i I (.cont s) Q .normal r m := ⟨s, rfl, hs⟩
theorem Post.rng_c {R S : Type} {b0 b1 ti i : Nat} {I : S → Regs × MemL} {s : S} (hs : Sub r ((ti, some (.c (.raw (.int .i64 i)))) :: (I s).1) m (I s).2) : Post.rng (R := R) b0 b1 ti i I (.cont s) Q (.exit b1) r m := by
  simp only [Post.rng, if_true]; exact ⟨s, rfl, hs⟩
theorem Post.rng_b {R S : Type} {b0 b1 ti i : Nat} (hne : b0 ≠ b1) {I : S → Regs × MemL} {s : S} (hs : Sub r (I s).1 m (I s).2) : Post.rng (R := R) b0 b1 ti i I (.brk s) Q (.exit b0) r m := by
  simp only [Post.rng, hne, if_false, if_true]; exact ⟨s, rfl, hs⟩
theorem Post.rng_e {R S : Type} {b0 b1 ti i e : Nat} {I : S → Regs × MemL} {o : Step R S} (h0 : e ≠ b0) (h1 : e ≠ b1) (h : Q (.exit e) r m) : Post.rng b0 b1 ti i I o Q (.exit e) r m := by
  simp only [Post.rng, h0, h1, if_false]; exact h
theorem Post.rng_r {R S : Type} {b0 b1 ti i : Nat} {I : S → Regs × MemL} {o : Step R S} (h : Q .ret r m) : Post.rng b0 b1 ti i I o Q .ret r m := h

theorem wrap_succ {i n : Nat} (hi : i < n) (hn : n ≤ maxLen) : IntKind.i64.wrap ((i : Int) + 1) = ((i + 1 : Nat) : Int) := by
  rw [IntWalk.i64_left, IntWalk.wrap64_in]
  · simp
  · simp only [maxLen] at hn; omega

theorem ACode.range {R S T : Type} {b0 b1 hid tid tc tn ti tk : Nat} {BODY : Code} {ho to1 to2 : Oper} {ty ty' uy uy' : TypeId} {xs : List T} {out : Out R S} (I : S → Regs × MemL) (body : T → Nat → S → Option (Step R S)) (s0 : S) (Rt : R → Prop) (hrun : loopL body xs 0 s0 = some out)
    (hho : ho.op = .binOp .lss ty (.tmp ti) (.tmp tn) ty' ∧ ho.dst = some tc ∧ ho.guard = none) (hto1 : to1.op = .binOp .add uy (.tmp ti) (.const (.int .i64 1)) uy' ∧ to1.dst = some tk ∧ to1.guard = none) (hto2 : to2.op = .move (.tmp tk) ∧ to2.dst = some ti ∧ to2.guard = none)
    (hsz : (decide (tc < C.n) && decide (tk < C.n) && decide (ti < C.n) && !(tc == ti) && !(b0 == b1) && !(tn == ti) && !(tn == tc)) = true) (hfree : ∀ s, lookR (I s).1 tc = none ∧ lookR (I s).1 tk = none ∧ lookR (I s).1 ti = none ∧ lookR (I s).1 tn = some (.c (.raw (.int .i64 xs.length))))
    (hlen : xs.length ≤ maxLen) (hrt : ∀ r0, out = .ret r0 → Rt r0) (hdone : ∀ s, out = .go s → Q .normal (I s).1 (I s).2) (hs : Sub r ((ti, some (.c (.raw (.int .i64 0)))) :: (I s0).1) m (I s0).2)
    (hbody : ∀ i x s o, xs[i]? = some x → body x i s = some o → (∀ r0, o = .ret r0 → Rt r0) → ACode C BODY ((ti, some (.c (.raw (.int .i64 i)))) :: (I s).1) (I s).2 (Post.rng b0 b1 ti i I o Q)) :
    ACode C (.block b0 (.loop (.seq (.region hid [ho].toArray false) (.seq (.cond (.tmp tc) .skip (.exit b0)) (.seq (.block b1 BODY) (.region tid [to1, to2].toArray false)))))) r m Q := by
  simp only [Bool.and_eq_true, decide_eq_true_eq, Bool.not_eq_true', beq_eq_false_iff_ne] at hsz
  obtain ⟨⟨⟨⟨⟨⟨h1, h2⟩, h3⟩, h4⟩, h5⟩, h6⟩, h7⟩ := hsz
  have hfin : ∀ {r' : Regs} {m' : MemL} (s : S), out = .go s → Sub r' (I s).1 m' (I s).2 → ∀ {a : Act} {w : World} {F : Fz} {ν : Nu}, Inv C r' m' a w F ν → (Q.lift C) .normal a w :=
    fun s he hs' a w F ν hi => ⟨_, _, F, ν, hdone s he, hi.sub hs'⟩
  -- the end of the whole: told by a state that has been weakened
  let Q' : Post := fun e r m => match e with
    | .normal => ∃ s, out = .go s ∧ Sub r (I s).1 m (I s).2
    | e => Q e r m
  have hQ' : ACode C (.block b0 (.loop (.seq (.region hid [ho].toArray false) (.seq (.cond (.tmp tc) .skip (.exit b0)) (.seq (.block b1 BODY) (.region tid [to1, to2].toArray false)))))) r m Q' → ACode C (.block b0 (.loop (.seq (.region hid [ho].toArray false) (.seq (.cond (.tmp tc) .skip (.exit b0)) (.seq (.block b1 BODY) (.region tid [to1, to2].toArray false)))))) r m Q := by
    intro h a w F ν hi
    refine Code.wp_mono (fun e a' w' hq => ?_) (h a w F ν hi)
    obtain ⟨r', m', F', ν', q, i⟩ := hq
    cases e <;> first
      | exact ⟨r', m', F', ν', q, i⟩
      | (obtain ⟨s, he, hs'⟩ := q; exact hfin s he hs' i)
  refine hQ' (ACode.block (ACode.loop (ι := Nat × S) (fun p => p.1 ≤ xs.length ∧ loopL body (xs.drop p.1) p.1 p.2 = some out) (fun p => ((ti, some (.c (.raw (.int .i64 p.1)))) :: (I p.2).1, (I p.2).2)) (fun p => xs.length - p.1) ?_ (0, s0) ⟨Nat.zero_le _, hrun⟩ hs))
  rintro ⟨i, s⟩ ⟨hil, hl⟩
  simp only at hil hl
  obtain ⟨hf1, hf2, hf4, hf3⟩ := hfree s
  refine ACode.seq (ACode.region (AOps.step (OpT.bin hho.1 (bin_lss .i64 (i : Int) (xs.length : Int)) rfl).g (by rw [wants, hho.2.2]) ⟨⟨_, by simp [opP, lookR], Le.same⟩, ⟨_, by simp [opP, lookR, h6, hf3], Le.same⟩, trivial⟩ trivial rfl (by rw [hho.2.1]; simpa [dstOK] using h1) (AOps.nil ?_)))
  rw [hho.2.1]
  simp only [setR, List.nil_append]
  refine Post.seq_n (ACode.seq (ACode.cond (b := decide ((i : Int) < xs.length)) (by simp [opP, lookR]) (fun hb => ?_) (fun hb => ?_)))
  · simp only [decide_eq_true_eq] at hb
    have hi : i < xs.length := by omega
    have hdrop : xs.drop i = xs[i] :: xs.drop (i + 1) := List.drop_eq_getElem_cons hi
    rw [hdrop] at hl
    simp only [loopL] at hl
    cases hob : body xs[i] i s with
    | none => rw [hob] at hl; cases hl
    | some o =>
      rw [hob] at hl
      have hro : ∀ r0, o = .ret r0 → Rt r0 := by
        rintro r0 rfl
        simp only [Option.some.injEq] at hl
        exact hrt r0 hl.symm
      have hb' := hbody i xs[i] s o (by simp [hi]) hob hro
      have hsub : Sub ((tc, some (.c (.raw (.bool (decide ((i : Int) < xs.length)))))) :: (ti, some (.c (.raw (.int .i64 i)))) :: (I s).1) ((ti, some (.c (.raw (.int .i64 i)))) :: (I s).1) (I s).2 (I s).2 := by
        refine ⟨fun t p hp => ⟨p, ?_, Le.same⟩, fun _ e h => ⟨e, h, LeE.same⟩⟩
        simp only [lookR] at hp ⊢
        by_cases ht : t = tc
        · subst ht; rw [if_neg h4, hf1] at hp; cases hp
        · rw [if_neg ht]; exact hp
      refine ACode.skip (Post.seq_n (ACode.seq (ACode.block ((hb'.sub hsub).mono fun e r' m' hq => ?_))))
      have tail : ∀ s', o = .cont s' → ∀ {r' : Regs} {m' : MemL}, Sub r' ((ti, some (.c (.raw (.int .i64 i)))) :: (I s').1) m' (I s').2 →
          ACode C (.region tid [to1, to2].toArray false) r' m' (Post.loop (fun p : Nat × S => p.1 ≤ xs.length ∧ loopL body (xs.drop p.1) p.1 p.2 = some out) (fun p => ((ti, some (.c (.raw (.int .i64 p.1)))) :: (I p.2).1, (I p.2).2)) (fun p => xs.length - p.1) (i, s) (Post.block b0 Q')) := by
        rintro s' rfl r' m' hs'
        obtain ⟨hg1, hg2, hg4, hg3⟩ := hfree s'
        refine ACode.sub hs' (ACode.region (AOps.step (OpT.bin hto1.1 (bin_add .i64 (i : Int) 1) rfl).g (by rw [wants, hto1.2.2]) ⟨⟨_, by simp [opP, lookR], Le.same⟩, ⟨_, by simp [opP, constP], Le.same⟩, trivial⟩ trivial rfl (by rw [hto1.2.1]; simpa [dstOK] using h2)
          (AOps.step (OpT.move (p := .c (.raw (.int .i64 ((i + 1 : Nat) : Int)))) hto2.1).g (by rw [wants, hto2.2.2]) ⟨⟨.c (.raw (.int .i64 (IntKind.i64.wrap ((i : Int) + 1)))), by rw [hto1.2.1]; simp [opP, lookR, setR], ?_⟩, trivial⟩ trivial rfl (by rw [hto2.2.1]; simpa [dstOK] using h3) (AOps.nil ?_))))
        · rw [wrap_succ hi hlen]; exact Le.same
        · simp only at hl
          refine ⟨(i + 1, s'), ⟨hi, hl⟩, by simp only; omega, ⟨fun t p hp => ⟨p, ?_, Le.same⟩, fun _ e h => ⟨e, by simpa using h, LeE.same⟩⟩⟩
          rw [hto2.2.1, hto1.2.1]
          simp only [setR, lookR] at hp ⊢
          by_cases ht : t = ti
          · rw [if_pos ht] at hp ⊢; exact hp
          · rw [if_neg ht] at hp
            rw [if_neg ht, if_neg, if_neg ht]
            · exact hp
            · rintro rfl; rw [hg2] at hp; cases hp
      cases e with
      | normal =>
        obtain ⟨s', he, hs'⟩ := hq
        exact Post.seq_n (tail s' he hs')
      | exit e =>
        simp only [Post.rng] at hq
        simp only [Post.block]
        split at hq
        · rename_i heq
          obtain ⟨s', he, hs'⟩ := hq
          rw [if_pos heq]
          exact Post.seq_n (tail s' he hs')
        · rename_i hne
          rw [if_neg hne]
          simp only [Post.seq, Post.loop, Post.block]
          split at hq
          · rename_i heq
            obtain ⟨s', rfl, hs'⟩ := hq
            simp only [Option.some.injEq] at hl
            rw [if_pos heq]
            exact ⟨s', hl.symm, hs'⟩
          · rename_i hne0
            rw [if_neg hne0]; exact hq
      | goto g => exact hq
      | ret => exact hq
      | panic ch => exact hq
      | outgrown => exact hq
  · simp only [decide_eq_false_iff_not] at hb
    have hi : i = xs.length := by omega
    subst hi
    rw [List.drop_length] at hl
    simp only [loopL, Option.some.injEq] at hl
    refine ACode.exit ?_
    simp only [Post.seq, Post.loop, Post.block, if_true]
    refine ⟨s, hl.symm, ⟨fun t p hp => ⟨p, ?_, Le.same⟩, fun _ e h => ⟨e, h, LeE.same⟩⟩⟩
    simp only [lookR]
    rw [if_neg, if_neg]
    · exact hp
    · rintro rfl; rw [hf4] at hp; cases hp
    · rintro rfl; rw [hf1] at hp; cases hp

/-- How a round of any other loop ends. -/
def Post.stp {R S : Type} (b0 : Nat) (I : S → Regs × MemL) (o : Step R S) (Q : Post) : Post
  | .normal, r, m => ∃ s, o = .cont s ∧ Sub r (I s).1 m (I s).2
  | .exit e, r, m => if e = b0 then ∃ s, o = .brk s ∧ Sub r (I s).1 m (I s).2 else Q (.exit e) r m
  | e, r, m => Q e r m
theorem Post.stp_n {R S : Type} {b0 : Nat} {I : S → Regs × MemL} {s : S} (hs : Sub r (I s).1 m (I s).2) : Post.stp (R := R) b0 I (.cont s) Q .normal r m := ⟨s, rfl, hs⟩
theorem Post.stp_b {R S : Type} {b0 : Nat} {I : S → Regs × MemL} {s : S} (hs : Sub r (I s).1 m (I s).2) : Post.stp (R := R) b0 I (.brk s) Q (.exit b0) r m := by
  simp only [Post.stp, if_true]; exact ⟨s, rfl, hs⟩
theorem Post.stp_e {R S : Type} {b0 e : Nat} {I : S → Regs × MemL} {o : Step R S} (h0 : e ≠ b0) (h : Q (.exit e) r m) : Post.stp b0 I o Q (.exit e) r m := by
  simp only [Post.stp, h0, if_false]; exact h
theorem Post.stp_r {R S : Type} {b0 : Nat} {I : S → Regs × MemL} {o : Step R S} (h : Q .ret r m) : Post.stp b0 I o Q .ret r m := h

theorem ACode.rounds {R S : Type} {b0 : Nat} {k : Nat} {out : Out R S} (I : S → Regs × MemL) (step : S → Option (Step R S)) (s0 : S) (Rt : R → Prop) (hrun : loopN step k s0 = some out)
    (hrt : ∀ r0, out = .ret r0 → Rt r0) (hdone : ∀ s, out = .go s → Q .normal (I s).1 (I s).2) (hs : Sub r (I s0).1 m (I s0).2)
    (hbody : ∀ s o, step s = some o → (∀ r0, o = .ret r0 → Rt r0) → ACode C c (I s).1 (I s).2 (Post.stp b0 I o Q)) : ACode C (.block b0 (.loop c)) r m Q := by
  let Q' : Post := fun e r m => match e with
    | .normal => ∃ s, out = .go s ∧ Sub r (I s).1 m (I s).2
    | e => Q e r m
  have hQ' : ACode C (.block b0 (.loop c)) r m Q' → ACode C (.block b0 (.loop c)) r m Q := by
    intro h a w F ν hi
    refine Code.wp_mono (fun e a' w' hq => ?_) (h a w F ν hi)
    obtain ⟨r', m', F', ν', q, i⟩ := hq
    cases e <;> first
      | exact ⟨r', m', F', ν', q, i⟩
      | (obtain ⟨s, he, hs'⟩ := q; exact ⟨_, _, F', ν', hdone s he, i.sub hs'⟩)
  refine hQ' (ACode.block (ACode.loop (ι := Nat × S) (fun p => loopN step p.1 p.2 = some out) (fun p => I p.2) (fun p => p.1) ?_ (k, s0) hrun hs))
  rintro ⟨k, s⟩ hl
  simp only at hl
  cases k with
  | zero => simp [loopN] at hl
  | succ k =>
    simp only [loopN] at hl
    cases hob : step s with
    | none => rw [hob] at hl; cases hl
    | some o =>
      rw [hob] at hl
      have hro : ∀ r0, o = .ret r0 → Rt r0 := by
        rintro r0 rfl
        simp only [Option.some.injEq] at hl
        exact hrt r0 hl.symm
      refine (hbody s o hob hro).mono fun e r' m' hq => ?_
      cases e with
      | normal =>
        obtain ⟨s', rfl, hs'⟩ := hq
        exact ⟨(k, s'), hl, Nat.lt_succ_self k, hs'⟩
      | exit e =>
        simp only [Post.stp] at hq
        simp only [Post.loop, Post.block]
        split at hq
        · rename_i heq
          obtain ⟨s', rfl, hs'⟩ := hq
          simp only [Option.some.injEq] at hl
          rw [if_pos heq]
          exact ⟨s', hl.symm, hs'⟩
        · rename_i hne
          rw [if_neg hne]; exact hq
      | goto g => exact hq
      | ret => exact hq
      | panic ch => exact hq
      | outgrown => exact hq

/-- How long a slice is. -/
theorem ACode.bound {t : Nat} {xs : List (List FV)} (ht : lookR r t = some (.c (.sl xs))) (h : xs.length ≤ maxLen → ACode C c r m Q) : ACode C c r m Q := by
  intro a w F ν hi
  refine h ?_ a w F ν hi
  have := hi.regs t _ ht
  simp only [VR, FR] at this
  obtain ⟨_, _, _, h1, h2, _⟩ := this
  exact Nat.le_trans h1 h2
theorem ACode.boundO {id : Nat} {e : TypeId} {sz : Nat} {xs : List (List FV)} (ht : look m id = some (.arr wr e sz xs)) (h : xs.length ≤ maxLen → ACode C c r m Q) : ACode C c r m Q := by
  intro a w F ν hi
  refine h ?_ a w F ν hi
  obtain ⟨hz, us, h1, _⟩ := hi.st.ents id _ ht
  rcases h1.2 with ⟨_, h2⟩ | ⟨g, cap, cur, _, _, _, h2, h3, _⟩
  · rw [h2]; exact Nat.zero_le _
  · exact Nat.le_trans h2 h3

/-- A nil slice in a register begins a row of the call's own. -/
theorem ACode.ownR {t s : Nat} {e : TypeId} {sz : Nat} (ht : lookR r t = some (.c (.raw (.slice none 0 0)))) (hz : 0 < sz) (hf : fresh C.M m r [s] = true) (h : ACode C c ((t, some (.osl s)) :: r) ((s, some (.arr wr e sz [])) :: m) Q) : ACode C c r m Q := by
  intro a w F ν hi
  have hi' := hi.own (wr := wr) s e sz hz hf
  refine h a w F _ ⟨hi'.st, fun k p hp => ?_, hi'.size, hi'.defers, hi'.ext, hi'.same, hi'.gok⟩
  simp only [lookR] at hp
  split at hp
  · rename_i hk
    subst hk
    cases hp
    simp only [VR, upN_same]
    have := VR.raw (hi.regs k _ ht)
    rw [this]; exact ⟨rfl, rfl⟩
  · exact hi'.regs k p hp
theorem ACode.ownC {id k s : Nat} {e : TypeId} {sz : Nat} {cells : List PV} (hid : look m id = some (.var cells)) (hk : cells[k]? = some (.c (.raw (.slice none 0 0)))) (hne : id ≠ s) (hz : 0 < sz) (hf : fresh C.M m r [s] = true)
    (h : ACode C c r ((id, some (.var (cells.set k (.osl s)))) :: (s, some (.arr wr e sz [])) :: m) Q) : ACode C c r m Q := by
  intro a w F ν hi
  have hi' := hi.own (wr := wr) s e sz hz hf
  have hid' : look ((s, some (.arr wr e sz [])) :: m) id = some (.var cells) := by simp only [look, updM]; rw [if_neg hne]; exact hid
  refine h a w F _ ⟨⟨hi'.st.fz, fun i d hd => ?_, fun i j d d' b hi1 hj1 => ?_⟩, hi'.regs, hi'.size, hi'.defers, ⟨hi'.ext.os, hi'.ext.tape, hi'.ext.output, hi'.ext.size, hi'.ext.mono, hi'.ext.keep, fun i d b hd => ?_⟩, hi'.same, hi'.gok⟩
  · simp only [look, updM] at hd
    split at hd
    · rename_i hii
      subst hii
      cases hd
      obtain ⟨b, cs, ty, h1, h2, h3, h4, h5⟩ := hi'.st.ents i _ hid'
      refine ⟨b, cs, ty, h1, h2, h3, VRs.of_get (by simpa using h4.length) fun j x v hx hv => ?_, h5⟩
      have hjl : j < cells.length := by
        rcases Nat.lt_or_ge j cells.length with h' | h'
        · exact h'
        · rw [List.getElem?_eq_none (by rw [List.length_set]; exact h')] at hx; cases hx
      obtain ⟨u, hu, hr⟩ := h4.get (k := j) (x := cells[j]) (by simp [hjl])
      rw [hu] at hv; cases hv
      by_cases hjk : k = j
      · subst hjk
        rw [List.getElem?_set_self hjl] at hx
        cases hx
        rw [List.getElem?_eq_getElem hjl] at hk
        simp only [Option.some.injEq] at hk
        rw [hk] at hr
        have := VR.raw hr
        subst this
        simp only [VR, upN_same, true_and]; rfl
      · rw [List.getElem?_set_ne hjk, List.getElem?_eq_getElem hjl] at hx
        simp only [Option.some.injEq] at hx
        rw [← hx]; exact hr
    · exact hi'.st.ents i d hd
  · have get : ∀ i d, look ((id, some (.var (cells.set k (.osl s)))) :: (s, some (.arr wr e sz [])) :: m) i = some d → ∃ x, look ((s, some (.arr wr e sz [])) :: m) i = some x := by
      intro i d hd
      by_cases hii : i = id
      · exact ⟨_, by rw [hii]; exact hid'⟩
      · simp only [look, updM, hii, if_false] at hd ⊢; exact ⟨d, hd⟩
    obtain ⟨x, hx⟩ := get i d hi1
    obtain ⟨y, hy⟩ := get j d' hj1
    exact hi'.st.dist i j x y b hx hy
  · have : ∃ x, look ((s, some (.arr wr e sz [])) :: m) i = some x := by
      by_cases hii : i = id
      · exact ⟨_, by rw [hii]; exact hid'⟩
      · simp only [look, updM, hii, if_false] at hd ⊢; exact ⟨d, hd⟩
    obtain ⟨x, hx⟩ := this
    exact hi'.ext.blocks i x b hx
end
end Go.Ab
