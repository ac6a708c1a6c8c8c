/- The plain law of EventCounts: the checker of triggers answers. Conditions: none. -/
import Derived.Test.YtiojahpkaogigaaGreatDoorP8
set_option linter.unusedSimpArgs false
set_option linter.unusedVariables false
namespace Go.Proofs.YtiojahpkaogigaaGreatDoor
open Go Go.Ab Go.Pl
variable {k : Nat}

theorem source_ok (hk : 1000 ≤ k) {a : List UInt8} : Ok (Fr11_source k a) Tt := by
  have j0 : ∀ b, Ok (Fr11_source.j0 b) Tt := fun b => Ok.pure trivial
  unfold Fr11_source
  exact Ok.bind (ValidName_ok hk) fun _ _ => Ok.ite (fun _ => j0 _) (fun _ => Ok.ite (fun _ => j0 _) (fun _ => j0 _))
theorem r1_Valid_ok (hk : 1000 ≤ k) {v : GValue} : Ok (Fr1_Valid k v) Tt := by
  have j16 : ∀ b, Ok (Fr1_Valid.j16 b) Tt := fun b => Ok.pure trivial
  have j17 : ∀ b, Ok (Fr1_Valid.j17 b) Tt := fun b => Ok.pure trivial
  have j19 : ∀ b, (b = false → v.Text.length ≤ 64) → Ok (Fr1_Valid.j19 k v b) Tt := by
    intro b hb
    unfold Fr1_Valid.j19
    refine Ok.ite (fun _ => Ok.pure trivial) (fun h => ?_)
    have hl := hb h
    refine loopN_ok (fun s => 0 ≤ s ∧ s ≤ v.Text.length) (fun s => ((v.Text.length : Int) - s).toNat) Tt Tt ⟨by omega, by omega⟩ (by omega) (fun s ⟨h0, h1⟩ => ?_) (fun _ _ => Ok.pure trivial) (fun _ _ => Ok.pure trivial)
    unfold Fr1_Valid.b3
    refine Ok.ite (fun h2 => ?_) (fun _ => Ok.pure trivial)
    simp only [decide_eq_true_eq] at h2
    have j31 : ∀ b, Ok (Fr1_Valid.j31 s b) (SP (fun s' => (0 ≤ s' ∧ s' ≤ v.Text.length) ∧ ((v.Text.length : Int) - s').toNat < ((v.Text.length : Int) - s).toNat) Tt Tt) := by
      intro b
      unfold Fr1_Valid.j31
      refine Ok.ite (fun _ => Ok.pure trivial) (fun _ => Ok.pure ?_)
      rw [w64_in (by omega) (by omega)]
      exact ⟨⟨by omega, by omega⟩, by omega⟩
    refine Ok.bind (pick_ok (Q := Tt) ⟨h0, h2⟩ fun _ _ => trivial) fun _ _ => Ok.ite (fun _ => j31 _) (fun _ => ?_)
    exact Ok.bind (pick_ok (Q := Tt) ⟨h0, h2⟩ fun _ _ => trivial) fun _ _ => j31 _
  unfold Fr1_Valid
  exact Ok.ite (fun _ => Ok.ite (fun _ => j16 _) (fun _ => j16 _)) (fun _ => Ok.ite (fun _ => Ok.pure trivial) (fun _ => Ok.ite (fun _ => Ok.ite (fun _ => j17 _) (fun _ => Ok.ite (fun _ => j17 _) (fun _ => j17 _)))
    (fun _ => Ok.ite (fun _ => Ok.ite (fun _ => j19 _ (fun h => by simp only [decide_eq_false_iff_not] at h; omega)) (fun _ => j19 _ (fun h => by cases h))) (fun _ => Ok.pure trivial))))
theorem plain_ok {e : GExpr} : Ok (Fr11_plain k e) Tt := by
  have j0 : ∀ b, Ok (Fr11_plain.j0 b) Tt := fun b => Ok.pure trivial
  unfold Fr11_plain
  exact Ok.ite (fun _ => Ok.ite (fun _ => j0 _) (fun _ => j0 _)) (fun _ => j0 _)
theorem allb_ok {R : Recr11_all} {l : List GExpr} (h : ∀ e ∈ l, Ok (R.rr11_ValidExpr e) Tt) : Ok (Fr11_allb k R l) Tt := by
  unfold Fr11_allb
  refine loopL_okc (fun _ _ => True) Tt trivial (fun i x z hx _ => ?_) (fun r hr => Ok.pure trivial) (fun z _ => Ok.pure trivial)
  unfold Fr11_all.b1
  exact Ok.bind (h x (List.mem_of_getElem? hx)) fun _ _ => Ok.ite (fun _ => Ok.pure trivial) (fun _ => Ok.pure trivial)
theorem ValidExprb_ok (hk : 1000 ≤ k) {R : Recr11_all} {e : GExpr} (hA : Ok (R.rr11_all e.Args) Tt) (hS : ∀ q ∈ e.Sub, Ok (R.rr11_all q.Items) Tt ∧ Ok (R.rr11_all q.Where) Tt) : Ok (Fr11_ValidExprb k R e) Tt := by
  have j5 : ∀ b, Ok (Fr11_ValidExpr.j5 b) Tt := fun b => Ok.pure trivial
  have j7 : ∀ b, Ok (Fr11_ValidExpr.j7 b) Tt := fun b => Ok.pure trivial
  have j6 : ∀ b, Ok (Fr11_ValidExpr.j6 k e b) Tt := by
    intro b; unfold Fr11_ValidExpr.j6
    exact Ok.ite (fun _ => Ok.bind (ValidName_ok hk) fun _ _ => Ok.ite (fun _ => j7 _) (fun _ => j7 _)) (fun _ => j7 _)
  have j9 : ∀ b, Ok (Fr11_ValidExpr.j9 k R e b) Tt := by
    intro b; unfold Fr11_ValidExpr.j9
    refine Ok.ite (fun _ => Ok.pure trivial) (fun _ => ?_)
    refine loopL_okc (fun _ _ => True) Tt trivial (fun i x z hx _ => ?_) (fun r hr => Ok.pure trivial) (fun z _ => Ok.pure trivial)
    have j13 : ∀ b, Ok (Fr11_ValidExpr.j13 b) (SP Tt (fun _ => False) Tt) := by
      intro b; unfold Fr11_ValidExpr.j13
      exact Ok.ite (fun _ => Ok.pure trivial) (fun _ => Ok.pure trivial)
    have hx := hS x (List.mem_of_getElem? hx)
    unfold Fr11_ValidExpr.b1
    refine Ok.ite (fun _ => Ok.bind (source_ok hk) fun _ _ => Ok.ite (fun _ => ?_) (fun _ => j13 _)) (fun _ => j13 _)
    refine Ok.bind hx.1 fun _ _ => Ok.ite (fun _ => Ok.bind hx.2 fun _ _ => j13 _) (fun _ => j13 _)
  have j1 : ∀ b, Ok (Fr11_ValidExpr.j1 k R e b) Tt := by
    intro b; unfold Fr11_ValidExpr.j1
    refine Ok.ite (fun _ => Ok.pure trivial) (fun _ => Ok.ite (fun _ => ?_) (fun _ => Ok.ite (fun _ => ?_) (fun _ => ?_)))
    · refine Ok.bind (r1_Valid_ok hk) fun _ _ => ?_
      repeat' first
        | exact j5 _
        | refine Ok.ite (fun _ => ?_) (fun _ => ?_)
    · refine Ok.ite (fun _ => j6 _) (fun _ => Ok.bind (source_ok hk) fun _ _ => ?_)
      repeat' first
        | exact j6 _
        | refine Ok.ite (fun _ => ?_) (fun _ => ?_)
    · exact Ok.bind plain_ok fun _ _ => Ok.ite (fun _ => Ok.bind hA fun _ _ => j9 _) (fun _ => j9 _)
  unfold Fr11_ValidExprb
  refine Ok.bind Shape_ok fun _ _ => ?_
  repeat' first
    | exact j1 _
    | refine Ok.ite (fun _ => ?_) (fun _ => ?_)
theorem recValid_ok (hk : 1000 ≤ k) : ∀ (d m : Nat) {e : GExpr}, 2 * d ≤ m → ExprB d e → Ok (Fr11_ValidExprb k (recr11_all k m) e) Tt
  | 0, _, _, _, he => he.elim
  | d + 1, m, e, hm, he => by
    obtain ⟨m', rfl⟩ : ∃ m', m = m' + 2 := ⟨m - 2, by omega⟩
    refine ValidExprb_ok hk ?_ fun q hq => ⟨?_, ?_⟩
    · exact allb_ok (k := k) (R := recr11_all k (m' + 1)) fun x hx => recValid_ok hk d m' (by omega) (he.args.2 x hx)
    · exact allb_ok (k := k) (R := recr11_all k (m' + 1)) fun x hx => recValid_ok hk d m' (by omega) ((he.sub.2 q hq).1.2 x hx)
    · exact allb_ok (k := k) (R := recr11_all k (m' + 1)) fun x hx => recValid_ok hk d m' (by omega) ((he.sub.2 q hq).2.2 x hx)
theorem ValidExpr_ok (hk : 1000 ≤ k) {e : GExpr} (he : ExprB 40 e) : Ok (Fr11_ValidExpr k e) Tt := recValid_ok hk 40 k (by omega) he
theorem all_ok (hk : 1000 ≤ k) {l : List GExpr} (he : ExprsB 40 l) : Ok (Fr11_all k l) Tt := by
  obtain ⟨k', hk'⟩ : ∃ k', k = k' + 1 := ⟨k - 1, by omega⟩
  unfold Fr11_all
  refine allb_ok fun x hx => ?_
  have : recr11_all k k = recr11_all k (k' + 1) := by rw [hk']
  rw [this]
  exact recValid_ok hk 40 k' (by omega) (he.2 x hx)
theorem ValidQuery_ok (hk : 1000 ≤ k) {q : GQuery} (h : QueryB 40 q) : Ok (Fr11_ValidQuery k q) Tt := by
  have j2 : ∀ b, Ok (Fr11_ValidQuery.j2 b) Tt := fun b => Ok.pure trivial
  have j1 : ∀ b, Ok (Fr11_ValidQuery.j1 k q b) Tt := by
    intro b; unfold Fr11_ValidQuery.j1
    exact Ok.ite (fun _ => Ok.pure trivial) (fun _ => Ok.bind (all_ok hk h.1) fun _ _ => Ok.ite (fun _ => Ok.bind (all_ok hk h.2) fun _ _ => j2 _) (fun _ => j2 _))
  unfold Fr11_ValidQuery
  refine Ok.bind (source_ok hk) fun _ _ => ?_
  repeat' first
    | exact j1 _
    | refine Ok.ite (fun _ => ?_) (fun _ => ?_)
theorem validInsert_ok (hk : 1000 ≤ k) {a : GAction} (h : ActionB a) : Ok (Fr11_validInsert k a) Tt := by
  have j6 : ∀ b, Ok (Fr11_validInsert.j6 b) Tt := fun b => Ok.pure trivial
  have j1 : ∀ b, Ok (Fr11_validInsert.j1 k a b) Tt := by
    intro b; unfold Fr11_validInsert.j1
    refine Ok.ite (fun _ => Ok.pure trivial) (fun _ => ?_)
    refine loopL_okc (fun _ _ => True) Tt trivial (fun i x z hx _ => ?_) (fun r hr => Ok.pure trivial) (fun z _ => ?_)
    · have j5 : ∀ b, Ok (Fr11_validInsert.j5 b) (SP Tt (fun _ => False) Tt) := by
        intro b; unfold Fr11_validInsert.j5
        exact Ok.ite (fun _ => Ok.pure trivial) (fun _ => Ok.pure trivial)
      unfold Fr11_validInsert.b1
      refine Ok.ite (fun _ => j5 _) (fun _ => Ok.ite (fun _ => j5 _) (fun _ => ?_))
      exact Ok.bind (all_ok hk ((h.1.2 x (List.mem_of_getElem? hx)).le (by omega))) fun _ _ => j5 _
    · refine Ok.ite (fun _ => j6 _) (fun hb => ?_)
      simp only [decide_eq_false_iff_not] at hb
      refine Ok.bind (pick_ok (Q := fun q => q ∈ a.Query) ⟨by omega, by omega⟩ fun _ h => h) fun q hq => ?_
      exact Ok.bind (ValidQuery_ok hk ⟨(h.2.1.2 q hq).1.le (by omega), (h.2.1.2 q hq).2.le (by omega)⟩) fun _ _ => j6 _
  unfold Fr11_validInsert
  repeat' first
    | exact j1 _
    | refine Ok.ite (fun _ => ?_) (fun _ => ?_)
theorem validSets_ok (hk : 1000 ≤ k) {l : List GSet} (h : ∀ s ∈ l, ExprB 31 s.Expr) : Ok (Fr11_validSets k l) Tt := by
  unfold Fr11_validSets
  refine loopL_okc (fun _ _ => True) Tt trivial (fun i x z hx _ => ?_) (fun r hr => Ok.pure trivial) (fun z _ => Ok.pure trivial)
  have hi := lt_of_idx hx
  have j7 : ∀ b, Ok (Fr11_validSets.j7 l i x b) (SP Tt (fun _ => False) Tt) := by
    intro b; unfold Fr11_validSets.j7
    refine Ok.ite (fun _ => Ok.pure trivial) (fun _ => ?_)
    rw [bind_eq (slc_eq (by omega) (by omega) (by omega))]
    refine loopL_okc (fun _ _ => True) Tt trivial (fun i x z hx _ => ?_) (fun r hr => Ok.pure trivial) (fun z _ => Ok.pure trivial)
    unfold Fr11_validSets.b4
    exact Ok.ite (fun _ => Ok.pure trivial) (fun _ => Ok.pure trivial)
  unfold Fr11_validSets.b5
  refine Ok.bind (ValidName_ok hk) fun _ _ => Ok.ite (fun _ => ?_) (fun _ => j7 _)
  exact Ok.bind (ValidExpr_ok hk ((h x (List.mem_of_getElem? hx)).le (by omega))) fun _ _ => j7 _
theorem ValidAction_ok (hk : 1000 ≤ k) {a : GAction} (h : ActionB a) : Ok (Fr11_ValidAction k a) Tt := by
  have j8 : ∀ b, Ok (Fr11_ValidAction.j8 b) Tt := fun b => Ok.pure trivial
  have j9 : ∀ b, Ok (Fr11_ValidAction.j9 b) Tt := fun b => Ok.pure trivial
  have j5 : ∀ b, Ok (Fr11_ValidAction.j5 k a b) Tt := by
    intro b; unfold Fr11_ValidAction.j5
    repeat' first
      | exact Ok.pure trivial
      | exact j8 _
      | exact j9 _
      | refine Ok.ite (fun _ => ?_) (fun _ => ?_)
      | refine Ok.bind (validInsert_ok hk h) fun _ _ => ?_
      | refine Ok.bind (validSets_ok hk h.2.2.1.2) fun _ _ => ?_
      | refine Ok.bind (r1_Valid_ok hk) fun _ _ => ?_
  have j3 : ∀ b, Ok (Fr11_ValidAction.j3 k a b) Tt := by
    intro b; unfold Fr11_ValidAction.j3
    exact Ok.ite (fun _ => Ok.pure trivial) (fun _ => Ok.ite (fun _ => j5 _) (fun _ => Ok.bind (all_ok hk (h.2.2.2.1.le (by omega))) fun _ _ => j5 _))
  have j1 : ∀ b, Ok (Fr11_ValidAction.j1 k a b) Tt := by
    intro b; unfold Fr11_ValidAction.j1
    repeat' first
      | exact Ok.pure trivial
      | exact j3 _
      | refine Ok.ite (fun _ => ?_) (fun _ => ?_)
  unfold Fr11_ValidAction
  repeat' first
    | exact j1 _
    | refine Ok.ite (fun _ => ?_) (fun _ => ?_)
    | refine Ok.bind (ValidName_ok hk) fun _ _ => ?_
theorem sound_ok (hk : 1000 ≤ k) {a : GAction} (h : ActionB a) : Ok (Fr16_sound k a) Tt := by
  have j0 : ∀ b, Ok (Fr16_sound.j0 b) Tt := fun b => Ok.pure trivial
  unfold Fr16_sound
  exact Ok.ite (fun _ => Ok.ite (fun _ => Ok.bind (ValidAction_ok hk h) fun _ _ => j0 _) (fun _ => j0 _)) (fun _ => j0 _)
theorem Types_ok (hk : 1000 ≤ k) {q : GQuery} {fs : List GFrame} {ts : List GTable} (hf : FramesB 90 fs) (ht : TabsB ts) (h : QueryB 30 q) : Ok (Fr14_Types k q fs ts) Tt := by
  unfold Fr14_Types
  refine Ok.bind (Source_ok ht) fun s hs => Ok.ite (fun _ => ?_) (fun _ => Ok.pure trivial)
  refine Ok.bind (r14_Inside_ok (by omega) hf hs) fun f hf2 => ?_
  have j0 : ∀ z, Ok (Fr14_Types.j0 k q ts f z) Tt := by
    intro z; unfold Fr14_Types.j0
    exact Ok.bind (Condition_ok hk (hf2.le (by omega)) ht (h.2.le (by omega))) fun _ _ => Ok.ite (fun _ => Ok.pure trivial) (fun _ => Ok.pure trivial)
  have hsl : s.1.Columns.length ≤ 10 := hs
  have hql := h.1.1
  refine Ok.ite (fun _ => ?_) (fun _ => ?_)
  · refine loopL_okc (fun i s => s.length ≤ i) Tt (Nat.zero_le _) (fun i x z hx g => ?_) (fun r hr => Ok.pure trivial) (fun z _ => j0 _)
    have hi := lt_of_idx hx
    unfold Fr14_Types.b2
    rw [bind_eq (app_eq (by simp; unfold big; omega) (by decide))]
    exact Ok.pure (show _ ≤ _ by simp; omega)
  · refine loopL_okc (fun i s => s.length ≤ i) Tt (Nat.zero_le _) (fun i x z hx g => ?_) (fun r hr => Ok.pure trivial) (fun z _ => j0 _)
    have hi := lt_of_idx hx
    unfold Fr14_Types.b3
    refine Ok.bind (Type_ok hk (hf2.le (by omega)) ht ((h.1.2 x (List.mem_of_getElem? hx)).le (by omega))) fun _ _ => Ok.ite (fun _ => ?_) (fun _ => Ok.pure trivial)
    rw [bind_eq (app_eq (by simp; unfold big; omega) (by decide))]
    exact Ok.pure (show _ ≤ _ by simp; omega)
theorem checkInsert_ok (hk : 1000 ≤ k) {a : GAction} {s : GSchema} {fs : List GFrame} {ts : List GTable} (hf : FramesB 90 fs) (ht : TabsB ts) (h : ActionB a) : Ok (Fr16_checkInsert k a s fs ts) Tt := by
  unfold Fr16_checkInsert
  refine loopL_okc (fun _ _ => True) Tt trivial (fun i x z hx _ => ?_) (fun r hr => Ok.pure trivial) (fun z _ => ?_)
  · unfold Fr16_checkInsert.b5
    refine Ok.ite (fun hb => ?_) (fun _ => Ok.pure trivial)
    simp only [decide_eq_true_eq] at hb
    refine loopL_okc (fun _ _ => True) Tt trivial (fun j y z hy _ => ?_) (fun r hr => Ok.pure trivial) (fun z _ => Ok.pure trivial)
    have hj := lt_of_idx hy
    unfold Fr16_checkInsert.b4
    refine Ok.bind (Type_ok hk (hf.le (by omega)) ht (((h.1.2 x (List.mem_of_getElem? hx)).2 y (List.mem_of_getElem? hy)).le (by omega))) fun _ _ => Ok.ite (fun _ => ?_) (fun _ => Ok.pure trivial)
    refine Ok.bind (pick_ok (Q := Tt) ⟨by omega, by omega⟩ fun _ _ => trivial) fun _ _ => Ok.bind Assignable_ok fun _ _ => Ok.ite (fun _ => Ok.pure trivial) (fun _ => Ok.pure trivial)
  · refine loopL_okc (fun _ _ => True) Tt trivial (fun i x z hx _ => ?_) (fun r hr => Ok.pure trivial) (fun z _ => Ok.pure trivial)
    unfold Fr16_checkInsert.b11
    refine Ok.bind (Types_ok hk hf ht (h.2.1.2 x (List.mem_of_getElem? hx))) fun p _ => Ok.ite (fun _ => Ok.ite (fun hb => ?_) (fun _ => Ok.pure trivial)) (fun _ => Ok.pure trivial)
    simp only [decide_eq_true_eq] at hb
    refine loopL_okc (fun _ _ => True) Tt trivial (fun j y z hy _ => ?_) (fun r hr => Ok.pure trivial) (fun z _ => Ok.pure trivial)
    have hj := lt_of_idx hy
    unfold Fr16_checkInsert.b10
    refine Ok.bind (pick_ok (Q := Tt) ⟨by omega, by omega⟩ fun _ _ => trivial) fun _ _ => Ok.bind Assignable_ok fun _ _ => Ok.ite (fun _ => Ok.pure trivial) (fun _ => Ok.pure trivial)
theorem colI_lt {s : GSchema} {n : List UInt8} (h : ¬ colI s n < 0) : 0 ≤ colI s n ∧ colI s n < s.Columns.length := by
  have h0 : 0 ≤ colI s n := by omega
  obtain ⟨j, x, hj, _, _, hl⟩ := findI_pos (p := fun c : GColumn => decide (c.Name = n)) h0
  exact ⟨h0, by unfold colI; rw [hj]; omega⟩
theorem r16_Check_ok (hk : 1000 ≤ k) {a : GAction} {fs : List GFrame} {ts : List GTable} (hf : FramesB 80 fs) (ht : TabsB ts) (h : ActionB a) : Ok (Fr16_Check k a fs ts) Tt := by
  unfold Fr16_Check
  refine Ok.bind (sound_ok hk h) fun _ _ => Ok.ite (fun _ => ?_) (fun _ => Ok.pure trivial)
  refine Ok.bind (Source_ok ht) fun s hs => Ok.ite (fun _ => Ok.ite (fun _ => ?_) (fun _ => ?_)) (fun _ => Ok.pure trivial)
  · exact Ok.bind (checkInsert_ok hk (hf.le (by omega)) ht h) fun _ _ => Ok.pure trivial
  · refine Ok.bind (r14_Inside_ok (by omega) hf hs) fun f hf2 => ?_
    refine loopL_okc (fun _ _ => True) Tt trivial (fun i x z hx _ => ?_) (fun r hr => Ok.pure trivial) (fun z _ => ?_)
    · unfold Fr16_Check.b1
      rw [bind_eq r4_Find_eq]
      refine Ok.ite (fun _ => Ok.pure trivial) (fun hb => ?_)
      simp only [decide_eq_false_iff_not] at hb
      refine Ok.bind (Type_ok hk (hf2.le (by omega)) ht ((h.2.2.1.2 x (List.mem_of_getElem? hx)).le (by omega))) fun _ _ => Ok.ite (fun _ => ?_) (fun _ => Ok.pure trivial)
      exact Ok.bind (pick_ok (Q := Tt) (colI_lt hb) fun _ _ => trivial) fun _ _ => Ok.bind Assignable_ok fun _ _ => Ok.ite (fun _ => Ok.pure trivial) (fun _ => Ok.pure trivial)
    · exact Ok.bind (Condition_ok hk (hf2.le (by omega)) ht (h.2.2.2.1.le (by omega))) fun _ _ => Ok.pure trivial
theorem names_ok (hk : 1000 ≤ k) {l : List (List UInt8)} : Ok (Fr11_names k l) Tt := by
  unfold Fr11_names
  refine Ok.ite (fun _ => Ok.pure trivial) (fun _ => ?_)
  refine loopL_okc (fun _ _ => True) Tt trivial (fun i x z hx _ => ?_) (fun r hr => Ok.pure trivial) (fun z _ => Ok.pure trivial)
  have hi := lt_of_idx hx
  unfold Fr11_names.b5
  refine Ok.bind (ValidName_ok hk) fun _ _ => Ok.ite (fun _ => ?_) (fun _ => Ok.pure trivial)
  rw [bind_eq (slc_eq (by omega) (by omega) (by omega))]
  refine loopL_okc (fun _ _ => True) Tt trivial (fun i x z hx _ => ?_) (fun r hr => Ok.pure trivial) (fun z _ => Ok.pure trivial)
  unfold Fr11_names.b4
  exact Ok.ite (fun _ => Ok.pure trivial) (fun _ => Ok.pure trivial)
end Go.Proofs.YtiojahpkaogigaaGreatDoor
