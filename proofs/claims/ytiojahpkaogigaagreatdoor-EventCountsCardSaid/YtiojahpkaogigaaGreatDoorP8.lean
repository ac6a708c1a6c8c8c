/- The plain law of EventCounts: the checkers answer. Conditions: none. -/
import Derived.Test.YtiojahpkaogigaaGreatDoorP7
set_option linter.unusedSimpArgs false
set_option linter.unusedVariables false
namespace Go.Proofs.YtiojahpkaogigaaGreatDoor
open Go Go.Ab Go.Pl
variable {k : Nat}

abbrev Tt {α : Type} : α → Prop := fun _ => True
theorem Digit_ok {a : Int} : Ok (Fr4_Digit k a) Tt := by
  unfold Fr4_Digit Fr4_Digit.j0
  exact Ok.ite (fun _ => Ok.pure trivial) (fun _ => Ok.pure trivial)
theorem Letter_ok {a : Int} : Ok (Fr4_Letter k a) Tt := by
  unfold Fr4_Letter Fr4_Letter.j0
  exact Ok.ite (fun _ => Ok.pure trivial) (fun _ => Ok.pure trivial)
theorem ValidName_ok (hk : 1000 ≤ k) {n : List UInt8} : Ok (Fr4_ValidName k n) Tt := by
  have j1 : ∀ b, (b = false → n.length ≤ 12) → Ok (Fr4_ValidName.j1 k n b) Tt := by
    intro b hb
    unfold Fr4_ValidName.j1
    refine Ok.ite (fun _ => Ok.pure trivial) (fun h => ?_)
    have hl := hb h
    refine loopN_ok (fun s => 0 ≤ s ∧ s ≤ n.length) (fun s => ((n.length : Int) - s).toNat) Tt Tt ⟨by omega, by omega⟩ (by omega) (fun s ⟨h0, h1⟩ => ?_) (fun _ _ => Ok.pure trivial) (fun _ _ => Ok.pure trivial)
    unfold Fr4_ValidName.b1
    refine Ok.ite (fun h2 => ?_) (fun _ => Ok.pure trivial)
    simp only [decide_eq_true_eq] at h2
    have j13 : ∀ b, Ok (Fr4_ValidName.j13 s b) (SP (fun s' => (0 ≤ s' ∧ s' ≤ n.length) ∧ ((n.length : Int) - s').toNat < ((n.length : Int) - s).toNat) Tt Tt) := by
      intro b
      unfold Fr4_ValidName.j13
      refine Ok.ite (fun _ => Ok.pure trivial) (fun _ => Ok.pure ?_)
      rw [w64_in (by omega) (by omega)]
      exact ⟨⟨by omega, by omega⟩, by omega⟩
    refine Ok.bind (pick_ok (Q := Tt) ⟨h0, h2⟩ fun _ _ => trivial) fun _ _ => Ok.bind Letter_ok fun _ _ => ?_
    refine Ok.ite (fun _ => j13 _) (fun _ => ?_)
    refine Ok.bind (pick_ok (Q := Tt) ⟨h0, h2⟩ fun _ _ => trivial) fun _ _ => Ok.bind Digit_ok fun _ _ => ?_
    refine Ok.ite (fun _ => j13 _) (fun _ => ?_)
    exact Ok.bind (pick_ok (Q := Tt) ⟨h0, h2⟩ fun _ _ => trivial) fun _ _ => j13 _
  unfold Fr4_ValidName
  refine Ok.ite (fun _ => j1 _ (by simp)) (fun h1 => Ok.ite (fun _ => j1 _ (by simp)) (fun h2 => ?_))
  simp only [decide_eq_false_iff_not] at h1 h2
  refine Ok.bind (pick_ok (Q := Tt) ⟨by omega, by omega⟩ fun _ _ => trivial) fun _ _ => Ok.bind Letter_ok fun _ _ => j1 _ (fun _ => by omega)
theorem r4_Valid_ok (hk : 1000 ≤ k) {s : GSchema} : Ok (Fr4_Valid k s) Tt := by
  have j1 : ∀ b, Ok (Fr4_Valid.j1 k s b) Tt := by
    intro b
    unfold Fr4_Valid.j1
    refine Ok.ite (fun _ => Ok.pure trivial) (fun h => ?_)
    refine loopL_okc (fun _ _ => True) Tt trivial (fun i c z _ _ => ?_) (fun _ _ => Ok.pure trivial) (fun _ _ => Ok.pure trivial)
    have j13 : ∀ b, Ok (Fr4_Valid.j13 z c b) (SP Tt (fun _ => False) Tt) := by
      intro b
      unfold Fr4_Valid.j13
      exact Ok.ite (fun _ => Ok.pure trivial) (fun _ => Ok.ite (fun _ => Ok.pure trivial) (fun _ => Ok.pure trivial))
    unfold Fr4_Valid.b1
    refine Ok.bind (ValidName_ok hk) fun _ _ => ?_
    simp only [r4_Find_eq, Option.bind_some]
    repeat' first
      | exact j13 _
      | refine Ok.ite (fun _ => ?_) (fun _ => ?_)
  unfold Fr4_Valid
  refine Ok.bind (ValidName_ok hk) fun _ _ => ?_
  exact Ok.ite (fun _ => Ok.ite (fun _ => j1 _) (fun _ => j1 _)) (fun _ => j1 _)
/-- Tables with few columns. -/
def TabsB (l : List GTable) : Prop := l.length ≤ 10 ∧ ∀ t ∈ l, ColsB t.Schema.Columns
theorem tablesOf_ok (hk : 1000 ≤ k) : Ok (Fw_tablesOf k []) (fun r => r.length ≤ 3 ∧ ∀ t ∈ r, ColsB t.Schema.Columns) := by
  unfold Fw_tablesOf
  refine Ok.ite (fun h => by simp at h) (fun _ => ?_)
  rw [bind_eq Schemas_eq]
  have e3 : schL.length = 3 := rfl
  refine loopL_okc (fun i q => q.length = i ∧ ∀ t ∈ q, ColsB t.Schema.Columns) (fun _ => False) ⟨rfl, by simp⟩ (fun i s q hs ⟨g1, g2⟩ => ?_) (fun r hr => hr.elim) (fun q ⟨g1, g2⟩ => Ok.pure ⟨by omega, g2⟩)
  have hi := lt_of_idx hs
  have hsc := schL_cols s (List.mem_of_getElem? hs)
  unfold Fw_tablesOf.b1
  refine Ok.bind (Q := fun r : GTable × Int => ColsB r.1.Schema.Columns) ?_ fun r hr => ?_
  · unfold Fr6_New
    refine Ok.bind (r4_Valid_ok hk) fun _ _ => Ok.ite (fun _ => ?_) (fun _ => Ok.pure (Nat.zero_le _))
    rw [bind_eq (app_eq (by simp; unfold big; omega) (by decide))]
    exact Ok.pure (show ([] ++ s.Columns).length ≤ 10 by simp; omega)
  · rw [bind_eq (app_eq (by simp; unfold big; omega) (by decide))]
    refine Ok.pure ⟨by simp; omega, fun x hx => ?_⟩
    rcases List.mem_append.1 hx with hx | hx
    · exact g2 x hx
    · rw [List.mem_singleton.1 hx]; exact hr

theorem Shape_ok {e : GExpr} : Ok (Fr11_Shape k e) Tt := by
  have j8 : ∀ b, Ok (Fr11_Shape.j8 b) Tt := fun b => Ok.pure trivial
  have j9 : ∀ b, Ok (Fr11_Shape.j9 b) Tt := fun b => Ok.pure trivial
  have j11 : ∀ b, Ok (Fr11_Shape.j11 b) Tt := fun b => Ok.pure trivial
  have j6 : ∀ q, Ok (Fr11_Shape.j6 e q) Tt := by
    intro q
    unfold Fr11_Shape.j6
    refine Ok.ite (fun _ => Ok.ite (fun _ => j8 _) (fun _ => j8 _)) (fun _ => Ok.ite (fun _ => Ok.ite (fun h => ?_) (fun _ => j9 _)) (fun _ => j9 _))
    simp only [decide_eq_true_eq] at h
    refine Ok.bind (pick_ok (Q := Tt) ⟨by omega, by omega⟩ fun _ _ => trivial) fun _ _ => Ok.ite (fun _ => ?_) (fun _ => j9 _)
    exact Ok.bind (pick_ok (Q := Tt) ⟨by omega, by omega⟩ fun _ _ => trivial) fun _ _ => j9 _
  have j13 : ∀ q, Ok (Fr11_Shape.j13 e q) Tt := by
    intro q; unfold Fr11_Shape.j13
    exact Ok.ite (fun _ => Ok.pure trivial) (fun _ => j6 _)
  have j15 : ∀ q, Ok (Fr11_Shape.j15 e q) Tt := by
    intro q; unfold Fr11_Shape.j15
    exact Ok.ite (fun _ => j6 _) (fun _ => Ok.pure trivial)
  have j14 : ∀ q, Ok (Fr11_Shape.j14 e q) Tt := by
    intro q; unfold Fr11_Shape.j14
    repeat' first
      | exact j6 _
      | exact j15 _
      | refine Ok.ite (fun _ => ?_) (fun _ => ?_)
  have j12 : ∀ q, Ok (Fr11_Shape.j12 e q) Tt := by
    intro q; unfold Fr11_Shape.j12
    repeat' first
      | exact j6 _
      | exact j13 _
      | exact j14 _
      | refine Ok.ite (fun _ => ?_) (fun _ => ?_)
  have j10 : ∀ q, Ok (Fr11_Shape.j10 e q) Tt := by
    intro q; unfold Fr11_Shape.j10
    repeat' first
      | exact j11 _
      | exact j12 _
      | refine Ok.ite (fun _ => ?_) (fun _ => ?_)
  unfold Fr11_Shape
  exact Ok.ite (fun _ => j10 _) (fun _ => j10 _)
theorem fits_ok {a b : Int} : Ok (Fr14_fits k a b) Tt := by
  unfold Fr14_fits Fr14_fits.j0
  exact Ok.ite (fun _ => Ok.pure trivial) (fun _ => Ok.pure trivial)
theorem Assignable_ok {a b : Int} : Ok (Fr14_Assignable k a b) Tt := by
  unfold Fr14_Assignable
  exact Ok.bind fits_ok fun _ _ => Ok.pure trivial
theorem result_ok {e : GExpr} {l : List Int} : Ok (Fr14_result k e l) Tt := by
  have j2 : ∀ q, Ok (Fr14_result.j2 k l q) Tt := by
    intro q; unfold Fr14_result.j2
    refine loopL_okc (fun _ _ => True) Tt trivial (fun i x z _ _ => ?_) (fun _ _ => Ok.pure trivial) (fun _ _ => Ok.pure trivial)
    unfold Fr14_result.b2
    exact Ok.bind fits_ok fun _ _ => Ok.ite (fun _ => Ok.pure trivial) (fun _ => Ok.pure trivial)
  have j4 : ∀ q, Ok (Fr14_result.j4 k l q) Tt := by
    intro q; unfold Fr14_result.j4
    refine Ok.ite (fun _ => j2 _) (fun _ => ?_)
    refine loopL_okc (fun _ _ => True) Tt trivial (fun i x z _ _ => ?_) (fun _ _ => Ok.pure trivial) (fun _ _ => j2 _)
    unfold Fr14_result.b3
    exact Ok.ite (fun _ => Ok.pure trivial) (fun _ => Ok.pure trivial)
  have j3 : ∀ q, Ok (Fr14_result.j3 k e l q) Tt := by
    intro q; unfold Fr14_result.j3
    repeat' first
      | exact j2 _
      | exact j4 _
      | refine Ok.ite (fun _ => ?_) (fun _ => ?_)
  unfold Fr14_result
  repeat' first
    | exact j3 _
    | exact Ok.pure trivial
    | refine Ok.ite (fun _ => ?_) (fun _ => ?_)
theorem Resolve_ok (hk : 1000 ≤ k) {fs : List GFrame} {a b : List UInt8} (hf : FramesB 200 fs) : Ok (Fr14_Resolve k fs a b) (fun r => r.2.2 = true → 0 ≤ r.1 ∧ r.1 < fs.length ∧ ∃ f, fs[r.1.toNat]? = some f ∧ 0 ≤ r.2.1 ∧ r.2.1 < f.Columns.length) := by
  have hl := hf.1
  unfold Fr14_Resolve
  rw [w64_in (by omega) (by omega)]
  refine loopN_ok (fun s => -1 ≤ s ∧ s < fs.length) (fun s => (s + 1).toNat) Tt (fun r : Int × Int × Bool => 0 ≤ r.1 ∧ r.1 < fs.length ∧ ∃ f, fs[r.1.toNat]? = some f ∧ 0 ≤ r.2.1 ∧ r.2.1 < f.Columns.length) ⟨by omega, by omega⟩ (by omega) (fun s ⟨h0, h1⟩ => ?_) (fun r hr => Ok.pure fun _ => hr) (fun _ _ => Ok.pure (by simp))
  unfold Fr14_Resolve.b13
  refine Ok.ite (fun h => ?_) (fun _ => Ok.pure trivial)
  simp only [decide_eq_true_eq] at h
  refine Ok.bind (idx_ok (Q := fun x => fs[s.toNat]? = some x) h (by omega) fun x hx => hx) fun f hf => ?_
  have j27 : Ok (Fr14_Resolve.j27 s) (SP (fun s' => (-1 ≤ s' ∧ s' < fs.length) ∧ (s' + 1).toNat < (s + 1).toNat) Tt (fun r : Int × Int × Bool => 0 ≤ r.1 ∧ r.1 < fs.length ∧ ∃ f, fs[r.1.toNat]? = some f ∧ 0 ≤ r.2.1 ∧ r.2.1 < f.Columns.length)) := by
    unfold Fr14_Resolve.j27
    rw [w64_in (by omega) (by omega)]
    exact Ok.pure ⟨⟨by omega, by omega⟩, by omega⟩
  have j29 : ∀ q, Ok (Fr14_Resolve.j29 b s f q) (SP (fun s' => (-1 ≤ s' ∧ s' < fs.length) ∧ (s' + 1).toNat < (s + 1).toNat) Tt (fun r : Int × Int × Bool => 0 ≤ r.1 ∧ r.1 < fs.length ∧ ∃ f, fs[r.1.toNat]? = some f ∧ 0 ≤ r.2.1 ∧ r.2.1 < f.Columns.length)) := by
    intro q; unfold Fr14_Resolve.j29
    refine Ok.ite (fun _ => j27) (fun _ => ?_)
    refine loopL_okc (fun _ _ => True) (fun r : Int × Int × Bool => 0 ≤ r.1 ∧ r.1 < fs.length ∧ ∃ f, fs[r.1.toNat]? = some f ∧ 0 ≤ r.2.1 ∧ r.2.1 < f.Columns.length) trivial (fun i x z hx _ => ?_) (fun r hr => Ok.pure hr) (fun _ _ => j27)
    have hi := lt_of_idx hx
    unfold Fr14_Resolve.b12
    exact Ok.ite (fun _ => Ok.pure ⟨h, h1, f, hf, by simp only; omega, by simp only; omega⟩) (fun _ => Ok.pure trivial)
  exact Ok.ite (fun _ => Ok.ite (fun _ => j29 _) (fun _ => j29 _)) (fun _ => j29 _)
theorem Source_ok {l : List GTable} {a : List UInt8} (hl : TabsB l) : Ok (Fr14_Source k l a) (fun r => ColsB r.1.Columns) := by
  unfold Fr14_Source
  refine loopL_okc (fun _ _ => True) (fun r : GSchema × Bool => ColsB r.1.Columns) trivial (fun i x z hx _ => ?_) (fun r hr => Ok.pure hr) (fun _ _ => Ok.pure (Nat.zero_le _))
  have hc : x.Schema.Columns.length ≤ 10 := hl.2 x (List.mem_of_getElem? hx)
  unfold Fr14_Source.b1
  refine Ok.ite (fun _ => ?_) (fun _ => Ok.pure trivial)
  rw [bind_eq (app_eq (by simp; unfold big; omega) (by decide))]
  exact Ok.pure (show ([] ++ x.Schema.Columns).length ≤ 10 by simpa using hc)
theorem r14_Inside_ok {n : Nat} {fs : List GFrame} {s : GSchema} (hn : n ≤ 200) (hf : FramesB n fs) (hs : ColsB s.Columns) : Ok (Fr14_Inside k fs s []) (FramesB (n + 1)) := by
  have hl := hf.1
  unfold Fr14_Inside
  rw [bind_eq (app_eq (by simp; unfold big; omega) (by decide)), bind_eq (app_eq (by simp; unfold big; omega) (by decide))]
  refine Ok.pure ⟨by simp; exact hl, fun f hf2 => ?_⟩
  simp only [List.nil_append, List.mem_append, List.mem_singleton] at hf2
  rcases hf2 with hf2 | rfl
  · exact hf.2 f hf2
  · exact hs
theorem FramesB.le {n m : Nat} {l : List GFrame} (h : FramesB n l) (hm : n ≤ m) : FramesB m l := ⟨Nat.le_trans h.1 hm, h.2⟩

theorem Cond_ok {R : Recr14_Condition} {d n : Nat} {l : List GExpr} {fs : List GFrame} {ts : List GTable} (h : ∀ e ∈ l, Ok (R.rr14_Type e fs ts) Tt) : Ok (Fr14_Conditionb k R l fs ts) Tt := by
  unfold Fr14_Conditionb
  refine Ok.ite (fun _ => Ok.pure trivial) (fun hb => ?_)
  simp only [decide_eq_false_iff_not] at hb
  refine Ok.bind (pick_ok (Q := fun e => e ∈ l) ⟨by omega, by omega⟩ fun _ h => h) fun e he => Ok.bind (h e he) fun p _ => ?_
  exact Ok.ite (fun _ => Ok.bind fits_ok fun _ _ => Ok.ite (fun _ => Ok.pure trivial) (fun _ => Ok.pure trivial)) (fun _ => Ok.pure trivial)
theorem typeOfQuery_ok {R : Recr14_Condition} {n : Nat} {e : GExpr} {fs : List GFrame} {ts : List GTable} (hn : n ≤ 200) (hf : FramesB n fs) (ht : TabsB ts) (he : 0 < e.Sub.length)
    (hT : ∀ q ∈ e.Sub, ∀ x ∈ q.Items, ∀ fs, FramesB (n + 1) fs → Ok (R.rr14_Type x fs ts) Tt) (hC : ∀ q ∈ e.Sub, ∀ fs, FramesB (n + 1) fs → Ok (R.rr14_Condition q.Where fs ts) Tt) : Ok (Fr14_typeOfQueryb k R e fs ts) Tt := by
  have j3 : ∀ s q, Ok (Fr14_typeOfQuery.j3 s q) Tt := by
    intro s q; unfold Fr14_typeOfQuery.j3
    exact Ok.ite (fun _ => Ok.pure trivial) (fun _ => Ok.pure trivial)
  have j1 : ∀ s q, Ok (Fr14_typeOfQuery.j1 e s q) Tt := by
    intro s q; unfold Fr14_typeOfQuery.j1
    exact Ok.ite (fun _ => Ok.pure trivial) (fun _ => Ok.ite (fun _ => Ok.pure trivial) (fun _ => Ok.ite (fun _ => j3 _ _) (fun _ => j3 _ _)))
  unfold Fr14_typeOfQueryb
  refine Ok.bind (pick_ok (Q := fun q => q ∈ e.Sub) ⟨by omega, by omega⟩ fun _ h => h) fun q hq => Ok.bind (Source_ok ht) fun s hs => ?_
  refine Ok.ite (fun _ => ?_) (fun _ => Ok.pure trivial)
  refine Ok.bind (r14_Inside_ok hn hf hs) fun fs' hf' => ?_
  refine loopL_okc (fun _ _ => True) Tt trivial (fun i x z hx _ => ?_) (fun r hr => Ok.pure trivial) (fun z _ => ?_)
  · unfold Fr14_typeOfQuery.b1
    exact Ok.bind (hT q hq x (List.mem_of_getElem? hx) _ hf') fun p _ => Ok.ite (fun _ => Ok.pure trivial) (fun _ => Ok.pure trivial)
  · refine Ok.bind (hC q hq _ hf') fun p _ => Ok.ite (fun _ => Ok.ite (fun _ => ?_) (fun _ => j1 _ _)) (fun _ => Ok.pure trivial)
    exact Ok.bind fits_ok fun _ _ => j1 _ _
theorem Typeb_ok (hk : 1000 ≤ k) {R : Recr14_Condition} {d : Nat} {e : GExpr} {fs : List GFrame} {ts : List GTable} (hf : FramesB 200 fs) (he : ExprB d e)
    (hA : ∀ x ∈ e.Args, Ok (R.rr14_Type x fs ts) Tt) (hS : 0 < e.Sub.length → Ok (R.rr14_typeOfQuery e fs ts) Tt) : Ok (Fr14_Typeb k R e fs ts) Tt := by
  cases d with
  | zero => exact he.elim
  | succ d =>
  unfold Fr14_Typeb
  refine Ok.bind Shape_ok fun p _ => Ok.ite (fun _ => ?_) (fun _ => Ok.pure trivial)
  refine Ok.ite (fun _ => Ok.pure trivial) (fun _ => Ok.ite (fun _ => ?_) (fun _ => Ok.ite (fun hb => ?_) (fun _ => ?_)))
  · refine Ok.bind (Resolve_ok hk hf) fun r hr => Ok.ite (fun hb => ?_) (fun _ => Ok.pure trivial)
    obtain ⟨h1, h2, f, h3, h4, h5⟩ := hr hb
    refine Ok.bind (idx_ok (Q := fun x => x = f) h1 h2 fun x hx => by rw [h3] at hx; exact (Option.some.inj hx).symm) fun x hx => ?_
    subst hx
    exact Ok.bind (pick_ok (Q := Tt) ⟨h4, h5⟩ fun _ _ => trivial) fun _ _ => Ok.pure trivial
  · exact Ok.bind (hS (by simpa using hb)) fun _ _ => Ok.pure trivial
  · have hl := he.args.1
    refine loopL_okc (fun i s => s.length ≤ i) Tt (Nat.zero_le _) (fun i x z hx g => ?_) (fun r hr => Ok.pure trivial) (fun z _ => Ok.bind result_ok fun _ _ => Ok.pure trivial)
    have hi := lt_of_idx hx
    unfold Fr14_Type.b1
    refine Ok.bind (hA x (List.mem_of_getElem? hx)) fun p _ => Ok.ite (fun _ => ?_) (fun _ => Ok.pure trivial)
    rw [bind_eq (app_eq (by simp; unfold big; omega) (by decide))]
    exact Ok.pure (show _ ≤ _ by simp; omega)
theorem recType_ok (hk : 1000 ≤ k) : ∀ (d m : Nat) {n : Nat} {e : GExpr} {fs : List GFrame} {ts : List GTable}, 3 * d ≤ m → n + d ≤ 200 → FramesB n fs → TabsB ts → ExprB d e → Ok (Fr14_Typeb k (recr14_Condition k m) e fs ts) Tt
  | 0, _, _, _, _, _, _, _, _, _, he => he.elim
  | d + 1, m, n, e, fs, ts, hm, hn, hf, ht, he => by
    obtain ⟨m', rfl⟩ : ∃ m', m = m' + 3 := ⟨m - 3, by omega⟩
    refine Typeb_ok hk (hf.le (by omega)) he (fun x hx => ?_) (fun hs => ?_)
    · exact recType_ok hk d (m' + 2) (by omega) (by omega) hf ht (he.args.2 x hx)
    · refine typeOfQuery_ok (R := recr14_Condition k (m' + 2)) (by omega) hf ht hs (fun q hq x hx fs hf => ?_) (fun q hq fs hf => ?_)
      · exact recType_ok hk d (m' + 1) (by omega) (by omega) hf ht ((he.sub.2 q hq).1.2 x hx)
      · exact Cond_ok (R := recr14_Condition k (m' + 1)) (d := d) (n := n) fun x hx => recType_ok hk d m' (by omega) (by omega) hf ht ((he.sub.2 q hq).2.2 x hx)
theorem Type_ok (hk : 1000 ≤ k) {e : GExpr} {fs : List GFrame} {ts : List GTable} (hf : FramesB 100 fs) (ht : TabsB ts) (he : ExprB 40 e) : Ok (Fr14_Type k e fs ts) Tt :=
  recType_ok hk 40 k (by omega) (n := 100) (by omega) hf ht he
theorem Condition_ok (hk : 1000 ≤ k) {l : List GExpr} {fs : List GFrame} {ts : List GTable} (hf : FramesB 100 fs) (ht : TabsB ts) (he : ExprsB 40 l) : Ok (Fr14_Condition k l fs ts) Tt := by
  obtain ⟨k', hk'⟩ : ∃ k', k = k' + 1 := ⟨k - 1, by omega⟩
  unfold Fr14_Condition
  refine Cond_ok (d := 0) (n := 0) fun x hx => ?_
  have : recr14_Condition k k = recr14_Condition k (k' + 1) := by rw [hk']
  rw [this]
  exact recType_ok hk 40 k' (by omega) (n := 100) (by omega) hf ht (he.2 x hx)
end Go.Proofs.YtiojahpkaogigaaGreatDoor
