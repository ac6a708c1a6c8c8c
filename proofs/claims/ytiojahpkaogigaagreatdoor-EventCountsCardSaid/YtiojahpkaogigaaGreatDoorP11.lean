/- The plain law of EventCounts: tables, changes and differences. Conditions: none. -/
import Derived.Test.YtiojahpkaogigaaGreatDoorP10
set_option linter.unusedSimpArgs false
set_option linter.unusedVariables false
namespace Go.Proofs.YtiojahpkaogigaaGreatDoor
open Go Go.Ab Go.Pl
variable {k : Nat}

/-- A table of the world with few rows, each of the right length. -/
def RowsW (c n : Nat) (l : List GRow) : Prop := l.length ≤ n ∧ ∀ r ∈ l, r.Values.length = c
def TabW (n : Nat) (t : GTable) : Prop := t.Schema ∈ schL ∧ RowsW t.Schema.Columns.length n t.Rows
theorem TabW.cols {n : Nat} {t : GTable} (h : TabW n t) : 2 ≤ t.Schema.Columns.length ∧ t.Schema.Columns.length ≤ 4 := schL_cols _ h.1
theorem TabW.le {n m : Nat} {t : GTable} (h : TabW n t) (hm : n ≤ m) : TabW m t := ⟨h.1, Nat.le_trans h.2.1 hm, h.2.2⟩

theorem KeyColumn_ok {s : GSchema} : Ok (Fr4_KeyColumn k s) Tt := by
  unfold Fr4_KeyColumn
  refine loopL_okc (fun _ _ => True) Tt trivial (fun i y z hx _ => ?_) (fun r hr => Ok.pure trivial) (fun z _ => Ok.pure trivial)
  unfold Fr4_KeyColumn.b1
  exact Ok.ite (fun _ => Ok.pure trivial) (fun _ => Ok.pure trivial)
theorem Duplicate_ok {t : GTable} : Ok (Fr6_Duplicate k t) Tt := by
  unfold Fr6_Duplicate
  refine Ok.bind KeyColumn_ok fun p _ => ?_
  refine loopL_okc (fun _ _ => True) Tt trivial (fun i y z hx _ => ?_) (fun r hr => Ok.pure trivial) (fun z _ => Ok.pure trivial)
  have j5 : ∀ b, (b = true → 0 ≤ p ∧ p < y.Values.length) → Ok (Fr6_Duplicate.j5 p z y b) (SP Tt (fun _ => False) Tt) := by
    intro b hb; unfold Fr6_Duplicate.j5
    refine Ok.ite (fun h => ?_) (fun _ => Ok.pure trivial)
    refine Ok.bind (pick_ok (Q := Tt) (hb h) fun _ _ => trivial) fun _ _ => Ok.ite (fun _ => Ok.pure trivial) (fun _ => ?_)
    exact Ok.bind (pick_ok (Q := Tt) (hb h) fun _ _ => trivial) fun _ _ => Ok.pure trivial
  unfold Fr6_Duplicate.b1
  exact Ok.ite (fun h => j5 _ fun h2 => ⟨by simpa using h, by simpa using h2⟩) (fun _ => j5 _ fun h => by cases h)
theorem Compare_ok {a b : GValue} : Ok (Fr1_Compare k a b) Tt := by
  unfold Fr1_Compare Fstrings_Compare Fbytealg_CompareString
  refine Ok.ite (fun _ => Ok.ite (fun _ => Ok.pure trivial) (fun _ => Ok.ite (fun _ => Ok.pure trivial) (fun _ => Ok.pure trivial))) (fun _ => Ok.ite (fun _ => Ok.pure trivial) (fun _ => Ok.pure trivial))
theorem CompareRows_ok (hk : 1000 ≤ k) {a b : List GValue} (ha : a.length ≤ 100) : Ok (Fr1_CompareRows k a b) Tt := by
  unfold Fr1_CompareRows
  refine loopN_ok (fun s => 0 ≤ s ∧ s ≤ a.length) (fun s => ((a.length : Int) - s).toNat) Tt Tt ⟨by omega, by omega⟩ (by omega) (fun s ⟨h0, h1⟩ => ?_) (fun _ _ => Ok.pure trivial) (fun _ _ => Ok.ite (fun _ => Ok.pure trivial) (fun _ => Ok.ite (fun _ => Ok.pure trivial) (fun _ => Ok.pure trivial)))
  have j11 : ∀ q, (q = true → s < a.length ∧ s < b.length) → Ok (Fr1_CompareRows.j11 k a b s q) (SP (fun s' => (0 ≤ s' ∧ s' ≤ a.length) ∧ ((a.length : Int) - s').toNat < ((a.length : Int) - s).toNat) Tt Tt) := by
    intro q hq; unfold Fr1_CompareRows.j11
    refine Ok.ite (fun h => ?_) (fun _ => Ok.pure trivial)
    obtain ⟨g1, g2⟩ := hq h
    refine Ok.bind (pick_ok (Q := Tt) ⟨h0, g1⟩ fun _ _ => trivial) fun _ _ => Ok.bind (pick_ok (Q := Tt) ⟨h0, g2⟩ fun _ _ => trivial) fun _ _ => Ok.bind Compare_ok fun _ _ => ?_
    refine Ok.ite (fun _ => ?_) (fun _ => Ok.pure trivial)
    rw [w64_in (by omega) (by omega)]
    exact Ok.pure ⟨⟨by omega, by omega⟩, by omega⟩
  unfold Fr1_CompareRows.b1
  exact Ok.ite (fun h => j11 _ fun h2 => ⟨by simpa using h, by simpa using h2⟩) (fun _ => j11 _ fun h => by cases h)
theorem r4_Fits_ok (hk : 1000 ≤ k) {c : GColumn} {v : GValue} : Ok (Fr4_Fits k c v) Tt := by
  unfold Fr4_Fits
  refine Ok.bind (r1_Valid_ok hk) fun _ _ => ?_
  repeat' first
    | exact Ok.pure trivial
    | refine Ok.ite (fun _ => ?_) (fun _ => ?_)
theorem r5_Fits_ok (hk : 1000 ≤ k) {s : GSchema} {v : List GValue} : Ok (Fr5_Fits k s v) Tt := by
  unfold Fr5_Fits
  refine Ok.ite (fun hb => ?_) (fun _ => Ok.pure trivial)
  simp only [decide_eq_true_eq] at hb
  refine loopL_okc (fun _ _ => True) Tt trivial (fun i y z hx _ => ?_) (fun r hr => Ok.pure trivial) (fun z _ => Ok.pure trivial)
  have hi := lt_of_idx hx
  unfold Fr5_Fits.b1
  exact Ok.bind (pick_ok (Q := Tt) ⟨by omega, by omega⟩ fun _ _ => trivial) fun _ _ => Ok.bind (r4_Fits_ok hk) fun _ _ => Ok.ite (fun _ => Ok.pure trivial) (fun _ => Ok.pure trivial)
theorem r6_Valid_ok (hk : 1000 ≤ k) {t : GTable} (ht : t.Rows.length ≤ 1000) : Ok (Fr6_Valid k t) Tt := by
  have j1 : ∀ b, Ok (Fr6_Valid.j1 k t b) Tt := by
    intro b; unfold Fr6_Valid.j1
    refine Ok.ite (fun _ => Ok.pure trivial) (fun _ => ?_)
    refine loopL_okc (fun _ _ => True) Tt trivial (fun i y z hx _ => ?_) (fun r hr => Ok.pure trivial) (fun z _ => Ok.bind Duplicate_ok fun _ _ => Ok.pure trivial)
    have hi := lt_of_idx hx
    have j5 : ∀ b, Ok (Fr6_Valid.j5 b) (SP Tt (fun _ => False) Tt) := by
      intro b; unfold Fr6_Valid.j5
      exact Ok.ite (fun _ => Ok.pure trivial) (fun _ => Ok.pure trivial)
    unfold Fr6_Valid.b1
    refine Ok.ite (fun _ => j5 _) (fun _ => Ok.ite (fun _ => j5 _) (fun _ => Ok.ite (fun hb => ?_) (fun _ => Ok.bind (r5_Fits_ok hk) fun _ _ => j5 _)))
    simp only [decide_eq_true_eq] at hb
    rw [w64_in (by omega) (by omega)]
    exact Ok.bind (pick_ok (Q := Tt) ⟨by omega, by omega⟩ fun _ _ => trivial) fun _ _ => Ok.ite (fun _ => j5 _) (fun _ => Ok.bind (r5_Fits_ok hk) fun _ _ => j5 _)
  unfold Fr6_Valid
  refine Ok.bind (r4_Valid_ok hk) fun _ _ => ?_
  repeat' first
    | exact j1 _
    | refine Ok.ite (fun _ => ?_) (fun _ => ?_)
theorem Get_ok {t : GTable} {i : Int} {c n : Nat} (hc : c ≤ 10) (ht : RowsW c n t.Rows) : Ok (Fr6_Get k t i) (fun r => r.1.length ≤ 10 ∧ (r.2 = true → r.1.length = c)) := by
  unfold Fr6_Get
  refine loopL_okc (fun _ _ => True) (fun r : List GValue × Bool => r.1.length ≤ 10 ∧ (r.2 = true → r.1.length = c)) trivial (fun i y z hx _ => ?_) (fun r hr => Ok.pure hr) (fun z _ => Ok.pure ⟨by simp, by simp⟩)
  have hy := ht.2 y (List.mem_of_getElem? hx)
  unfold Fr6_Get.b1
  refine Ok.ite (fun _ => ?_) (fun _ => Ok.pure trivial)
  rw [bind_eq (r5_Copy_eq (by unfold big; omega))]
  exact Ok.pure ⟨show y.Values.length ≤ 10 by omega, fun _ => hy⟩

/-- A change of modest size. -/
def PairsW (c n : Nat) (l : List GPair) : Prop := l.length ≤ n ∧ ∀ p ∈ l, p.Old.length = c ∧ p.New.length = c
def ChangeB (c : Nat) (x : GChange) : Prop := (x.Inserted.length ≤ 20 ∧ ∀ r ∈ x.Inserted, r.length = c) ∧ x.Deleted.length ≤ 20 ∧ PairsW c 20 x.Updated
theorem r7_Valid_ok (hk : 1000 ≤ k) {t : GTable} {x : GChange} {n : Nat} (hn : n ≤ 1000) (ht : TabW n t) (hx : ChangeB t.Schema.Columns.length x) : Ok (Fr7_Valid k t x) Tt := by
  have hc := ht.cols
  have htl := ht.2.1
  have hd := hx.2.1
  have hu := hx.2.2.1
  unfold Fr7_Valid
  refine Ok.bind (r6_Valid_ok hk (by omega)) fun _ _ => Ok.ite (fun _ => ?_) (fun _ => Ok.pure trivial)
  refine loopL_okc (fun _ _ => True) Tt trivial (fun i y z hx _ => ?_) (fun r hr => Ok.pure trivial) (fun z _ => ?_)
  · have hi := lt_of_idx hx
    have j11 : ∀ b, Ok (Fr7_Valid.j11 z y b) (SP Tt (fun _ => False) Tt) := by
      intro b; unfold Fr7_Valid.j11
      exact Ok.ite (fun _ => Ok.pure trivial) (fun _ => Ok.pure trivial)
    unfold Fr7_Valid.b1
    refine Ok.bind (Get_ok (by omega) ht.2) fun _ _ => Ok.ite (fun _ => Ok.ite (fun hb => ?_) (fun _ => j11 _)) (fun _ => j11 _)
    simp only [decide_eq_true_eq] at hb
    rw [w64_in (by omega) (by omega)]
    exact Ok.bind (pick_ok (Q := Tt) ⟨by omega, by omega⟩ fun _ _ => trivial) fun _ _ => j11 _
  refine loopL_okc (fun _ _ => True) Tt trivial (fun i y z' hx _ => ?_) (fun r hr => Ok.pure trivial) (fun _ _ => ?_)
  · have hi := lt_of_idx hx
    have j15 : ∀ b, Ok (Fr7_Valid.j15 b) (SP Tt (fun _ => False) Tt) := by
      intro b; unfold Fr7_Valid.j15
      exact Ok.ite (fun _ => Ok.pure trivial) (fun _ => Ok.pure trivial)
    unfold Fr7_Valid.b3
    refine Ok.bind (Get_ok (by omega) ht.2) fun p hp => Ok.ite (fun _ => Ok.ite (fun _ => j15 _) (fun _ => Ok.ite (fun hb => ?_) (fun _ => ?_))) (fun _ => j15 _)
    · simp only [decide_eq_true_eq] at hb
      rw [w64_in (by omega) (by omega)]
      refine Ok.bind (pick_ok (Q := Tt) ⟨by omega, by omega⟩ fun _ _ => trivial) fun _ _ => Ok.ite (fun _ => j15 _) (fun _ => ?_)
      exact Ok.bind (CompareRows_ok hk (by omega)) fun _ _ => Ok.ite (fun _ => j15 _) (fun _ => j15 _)
    · exact Ok.bind (CompareRows_ok hk (by omega)) fun _ _ => Ok.ite (fun _ => j15 _) (fun _ => j15 _)
  refine loopL_okc (fun _ _ => True) Tt trivial (fun i y z' hx _ => ?_) (fun r hr => Ok.pure trivial) (fun _ _ => Ok.pure trivial)
  unfold Fr7_Valid.b5
  exact Ok.ite (fun _ => Ok.pure trivial) (fun _ => Ok.pure trivial)
theorem has_ok {l : List Int} {a : Int} : Ok (Fr7_has k l a) Tt := by
  unfold Fr7_has
  refine loopL_okc (fun _ _ => True) Tt trivial (fun i y z' hx _ => ?_) (fun r hr => Ok.pure trivial) (fun _ _ => Ok.pure trivial)
  unfold Fr7_has.b1
  exact Ok.ite (fun _ => Ok.pure trivial) (fun _ => Ok.pure trivial)
theorem find_ok {c n : Nat} {l : List GPair} {a : Int} (h : PairsW c n l) : Ok (Fr7_find k l a) (fun r => r.2 = true → r.1.length = c) := by
  unfold Fr7_find
  refine loopL_okc (fun _ _ => True) (fun r : List GValue × Bool => r.2 = true → r.1.length = c) trivial (fun i y z' hx _ => ?_) (fun r hr => Ok.pure hr) (fun _ _ => Ok.pure (by simp))
  unfold Fr7_find.b1
  exact Ok.ite (fun _ => Ok.pure fun _ => (h.2 y (List.mem_of_getElem? hx)).2) (fun _ => Ok.pure trivial)
theorem Copy_ok {t : GTable} {n : Nat} (hn : n ≤ 1000) (ht : TabW n t) : Ok (Fr6_Copy k t) (fun r => r.Schema = t.Schema) := by
  have hc := ht.cols
  have hl := ht.2.1
  unfold Fr6_Copy
  rw [bind_eq (app_eq (by simp; unfold big; omega) (by decide))]
  refine loopL_okc (fun i s => s.length ≤ i) (fun _ => False) (Nat.zero_le _) (fun i y z hx g => ?_) (fun r hr => hr.elim) (fun _ _ => Ok.pure rfl)
  have hi := lt_of_idx hx
  have hy := ht.2.2 y (List.mem_of_getElem? hx)
  unfold Fr6_Copy.b1
  rw [bind_eq (r5_Copy_eq (by unfold big; omega)), bind_eq (app_eq (by simp; unfold big; omega) (by decide))]
  exact Ok.pure (show _ ≤ _ by simp; omega)
theorem RowsW.snoc {c n : Nat} {l : List GRow} {r : GRow} (h : RowsW c n l) (hr : r.Values.length = c) : RowsW c (n + 1) (l ++ [r]) := ⟨by have := h.1; simp; omega, fun x hx => by
  rcases List.mem_append.1 hx with hx | hx
  · exact h.2 x hx
  · rw [List.mem_singleton.1 hx]; exact hr⟩
theorem RowsW.le {c n m : Nat} {l : List GRow} (h : RowsW c n l) (hm : n ≤ m) : RowsW c m l := ⟨Nat.le_trans h.1 hm, h.2⟩
/-- A change is applied. -/
theorem Apply_ok (hk : 1000 ≤ k) {t : GTable} {x : GChange} {n : Nat} (hn : n ≤ 500) (ht : TabW n t) (hx : ChangeB t.Schema.Columns.length x) : Ok (Fr7_Apply k t x) (fun r => r.2 = 0 → TabW (n + 20) r.1 ∧ r.1.Schema = t.Schema) := by
  have hc := ht.cols
  have hl := ht.2.1
  unfold Fr7_Apply
  refine Ok.bind (r7_Valid_ok hk (by omega) ht hx) fun _ _ => Ok.ite (fun _ => ?_) (fun _ => Ok.pure (by simp))
  refine loopL_okc (fun _ _ => True) (fun r : GTable × Int => r.2 ≠ 0) trivial (fun i y z' hx _ => ?_) (fun r hr => Ok.pure fun h => absurd h hr) (fun _ _ => ?_)
  · unfold Fr7_Apply.b1
    exact Ok.bind (r5_Fits_ok hk) fun _ _ => Ok.ite (fun _ => Ok.pure trivial) (fun h => Ok.pure (by simpa using h))
  refine loopL_okc (fun _ _ => True) (fun r : GTable × Int => r.2 ≠ 0) trivial (fun i y z' hx _ => ?_) (fun r hr => Ok.pure fun h => absurd h hr) (fun _ _ => ?_)
  · unfold Fr7_Apply.b3
    exact Ok.bind (r5_Fits_ok hk) fun _ _ => Ok.ite (fun _ => Ok.pure trivial) (fun h => Ok.pure (by simpa using h))
  refine Ok.bind (Copy_ok (by omega) ht) fun p hp => ?_
  refine loopL_okc (fun i s => RowsW t.Schema.Columns.length i s) (fun _ => False) ⟨by simp, by simp⟩ (fun i y z hy g => ?_) (fun r hr => hr.elim) (fun s hs => ?_)
  · have hi := lt_of_idx hy
    have hyl := ht.2.2 y (List.mem_of_getElem? hy)
    have hzl := g.1
    have j5 : ∀ q : List GValue, q.length = t.Schema.Columns.length → Ok (Fr7_Apply.j5 k z y q) (SP (RowsW t.Schema.Columns.length (i + 1)) (fun _ => False) (fun _ : GTable × Int => False)) := by
      intro q hq; unfold Fr7_Apply.j5
      rw [bind_eq (r5_Copy_eq (by unfold big; omega)), bind_eq (app_eq (by simp; unfold big; omega) (by decide))]
      exact Ok.pure (g.snoc hq)
    unfold Fr7_Apply.b5
    refine Ok.bind has_ok fun _ _ => Ok.ite (fun _ => Ok.pure (g.le (by omega))) (fun _ => Ok.bind (find_ok hx.2.2) fun q hq => ?_)
    exact Ok.ite (fun h => j5 _ (hq h)) (fun _ => j5 _ hyl)
  · have hil := hx.1.1
    have hsl := hs.1
    have j7 : ∀ b, Ok (Fr7_Apply.j7 k t x p s b) (fun r => r.2 = 0 → TabW (n + 20) r.1 ∧ r.1.Schema = t.Schema) := by
      intro b; unfold Fr7_Apply.j7
      refine Ok.ite (fun _ => Ok.pure (by simp)) (fun _ => ?_)
      refine loopL_okc (fun i q => RowsW t.Schema.Columns.length (n + i) q.2.2) (fun _ => False) (hs.le (by omega)) (fun i y z hy g => ?_) (fun r hr => hr.elim) (fun q hq => ?_)
      · have hi := lt_of_idx hy
        have hyl := hx.1.2 y (List.mem_of_getElem? hy)
        have hzl := g.1
        unfold Fr7_Apply.b7
        rw [bind_eq (r5_Copy_eq (by unfold big; omega)), bind_eq (app_eq (by simp; unfold big; omega) (by decide))]
        exact Ok.pure (g.snoc hyl)
      · refine Ok.bind Duplicate_ok fun _ _ => Ok.ite (fun _ => Ok.pure (by simp)) (fun _ => Ok.pure fun _ => ⟨⟨?_, ?_⟩, hp⟩)
        · simp only [hp]; exact ht.1
        · simp only [hp]; exact hq.le (by omega)
    exact Ok.ite (fun _ => j7 _) (fun _ => j7 _)

/-- A difference as the law needs it. -/
def DeltaW (d : GDelta) : Prop := (d.Inserted.length ≤ 100 ∧ ∀ r ∈ d.Inserted, 1 ≤ r.Values.length ∧ r.Values.length ≤ 10) ∧ (d.Deleted.length ≤ 100 ∧ ∀ r ∈ d.Deleted, 1 ≤ r.Values.length ∧ r.Values.length ≤ 10) ∧ (d.Updated.length ≤ 100 ∧ ∀ p ∈ d.Updated, (1 ≤ p.Old.length ∧ p.Old.length ≤ 10) ∧ 1 ≤ p.New.length ∧ p.New.length ≤ 10)
theorem DeltaW.b {d : GDelta} (h : DeltaW d) : DeltaB d := ⟨⟨Nat.le_trans h.1.1 (by omega), fun r hr => Nat.le_trans (h.1.2 r hr).2 (by omega)⟩, ⟨Nat.le_trans h.2.1.1 (by omega), fun r hr => Nat.le_trans (h.2.1.2 r hr).2 (by omega)⟩, ⟨Nat.le_trans h.2.2.1 (by omega), fun r hr => ⟨Nat.le_trans (h.2.2.2 r hr).1.2 (by omega), Nat.le_trans (h.2.2.2 r hr).2.2 (by omega)⟩⟩⟩
theorem sameSchema_ok {a b : GSchema} : Ok (Fr8_sameSchema k a b) Tt := by
  have j1 : ∀ q, (q = false → a.Columns.length = b.Columns.length) → Ok (Fr8_sameSchema.j1 a b q) Tt := by
    intro q hq; unfold Fr8_sameSchema.j1
    refine Ok.ite (fun _ => Ok.pure trivial) (fun h => ?_)
    have hl := hq h
    refine loopL_okc (fun _ _ => True) Tt trivial (fun i y z' hx _ => ?_) (fun r hr => Ok.pure trivial) (fun _ _ => Ok.pure trivial)
    have hi := lt_of_idx hx
    unfold Fr8_sameSchema.b1
    exact Ok.bind (pick_ok (Q := Tt) ⟨by omega, by omega⟩ fun _ _ => trivial) fun _ _ => Ok.ite (fun _ => Ok.pure trivial) (fun _ => Ok.pure trivial)
  unfold Fr8_sameSchema
  refine Ok.ite (fun _ => j1 _ fun h => ?_) (fun _ => j1 _ fun h => by cases h)
  have : (a.Columns.length : Int) = b.Columns.length := by simpa using h
  omega
theorem copyRow_eq {r : GRow} (h : r.Values.length ≤ 1000) : Fr8_copyRow k r = some r := by
  unfold Fr8_copyRow; rw [bind_eq (r5_Copy_eq (by unfold big; omega))]
theorem Between_ok' (hk : 1000 ≤ k) {a b : GTable} (ha : TabW 60 a) (hb : TabW 60 b) : Ok (Fr8_Between k a b) (fun r => r.2 = true → DeltaW r.1 ∧ r.1.Table = a.Schema.Name) := by
  have hca := ha.cols
  have hcb := hb.cols
  have hla := ha.2.1
  have hlb := hb.2.1
  have j1 : ∀ q, Ok (Fr8_Between.j1 k a b q) (fun r => r.2 = true → DeltaW r.1 ∧ r.1.Table = a.Schema.Name) := by
    intro q; unfold Fr8_Between.j1
    refine Ok.ite (fun _ => Ok.pure (by simp)) (fun _ => ?_)
    refine loopL_okc (fun i s => (s.1.length ≤ i ∧ ∀ r ∈ s.1, 1 ≤ r.Values.length ∧ r.Values.length ≤ 10) ∧ (s.2.length ≤ i ∧ ∀ p ∈ s.2, (1 ≤ p.Old.length ∧ p.Old.length ≤ 10) ∧ 1 ≤ p.New.length ∧ p.New.length ≤ 10)) (fun r : GDelta × Bool => r.2 = false) ⟨⟨by simp, by simp⟩, by simp, by simp⟩ (fun i y z hy ⟨⟨g1, g2⟩, g3, g4⟩ => ?_) (fun r hr => Ok.pure (by simp [hr])) (fun s ⟨⟨g1, g2⟩, g3, g4⟩ => ?_)
    · have hi := lt_of_idx hy
      have hyl := hb.2.2 y (List.mem_of_getElem? hy)
      unfold Fr8_Between.b1
      refine Ok.bind (Get_ok (by omega) ha.2) fun p hp => ?_
      have j13 : ∀ q, Ok (Fr8_Between.j13 k z y p q) (SP (fun s : List GRow × List GPair => (s.1.length ≤ i + 1 ∧ ∀ r ∈ s.1, 1 ≤ r.Values.length ∧ r.Values.length ≤ 10) ∧ (s.2.length ≤ i + 1 ∧ ∀ p ∈ s.2, (1 ≤ p.Old.length ∧ p.Old.length ≤ 10) ∧ 1 ≤ p.New.length ∧ p.New.length ≤ 10)) (fun _ => False) (fun r : GDelta × Bool => r.2 = false)) := by
        intro q; unfold Fr8_Between.j13
        refine Ok.ite (fun _ => Ok.pure rfl) (fun _ => Ok.ite (fun h => ?_) (fun _ => ?_))
        · have hpl := hp.2 h
          refine Ok.bind (CompareRows_ok hk (by omega)) fun _ _ => Ok.ite (fun _ => Ok.pure ⟨⟨by simp only; omega, g2⟩, by simp only; omega, g4⟩) (fun _ => ?_)
          rw [bind_eq (r5_Copy_eq (by unfold big; omega)), bind_eq (app_eq (by simp; unfold big; omega) (by decide))]
          refine Ok.pure ⟨⟨by simp only; omega, g2⟩, by simp; omega, fun x hx => ?_⟩
          rcases List.mem_append.1 hx with hx | hx
          · exact g4 x hx
          · rw [List.mem_singleton.1 hx]; exact ⟨⟨by simp only; omega, by simp only; omega⟩, by simp only; omega, by simp only; omega⟩
        · rw [bind_eq (copyRow_eq (by omega)), bind_eq (app_eq (by simp; unfold big; omega) (by decide))]
          refine Ok.pure ⟨⟨by simp; omega, fun x hx => ?_⟩, by simp only; omega, g4⟩
          rcases List.mem_append.1 hx with hx | hx
          · exact g2 x hx
          · rw [List.mem_singleton.1 hx]; exact ⟨by omega, by omega⟩
      exact Ok.ite (fun _ => j13 _) (fun _ => j13 _)
    · refine loopL_okc (fun i s => s.length ≤ i ∧ ∀ r ∈ s, 1 ≤ r.Values.length ∧ r.Values.length ≤ 10) (fun _ => False) ⟨by simp, by simp⟩ (fun i y z hy ⟨e1, e2⟩ => ?_) (fun r hr => hr.elim) (fun z ⟨e1, e2⟩ => Ok.pure fun _ => ⟨⟨⟨show s.1.length ≤ 100 by omega, g2⟩, ⟨show z.length ≤ 100 by omega, e2⟩, show s.2.length ≤ 100 by omega, g4⟩, rfl⟩)
      have hi := lt_of_idx hy
      have hyl := ha.2.2 y (List.mem_of_getElem? hy)
      unfold Fr8_Between.b3
      refine Ok.bind (Get_ok (by omega) hb.2) fun p hp => Ok.ite (fun _ => Ok.pure ⟨by omega, e2⟩) (fun _ => ?_)
      rw [bind_eq (copyRow_eq (by omega)), bind_eq (app_eq (by simp; unfold big; omega) (by decide))]
      refine Ok.pure ⟨by simp; omega, fun x hx => ?_⟩
      rcases List.mem_append.1 hx with hx | hx
      · exact e2 x hx
      · rw [List.mem_singleton.1 hx]; exact ⟨by omega, by omega⟩
  unfold Fr8_Between
  refine Ok.bind (r6_Valid_ok hk (by omega)) fun _ _ => Ok.ite (fun _ => ?_) (fun _ => j1 _)
  refine Ok.bind (r6_Valid_ok hk (by omega)) fun _ _ => Ok.ite (fun _ => ?_) (fun _ => j1 _)
  exact Ok.bind sameSchema_ok fun _ _ => Ok.ite (fun _ => j1 _) (fun _ => j1 _)
theorem r9_Valid_ok (hk : 1000 ≤ k) {l : List GTable} (h : ∀ t ∈ l, TabW 60 t) : Ok (Fr9_Valid k l) Tt := by
  unfold Fr9_Valid
  refine Ok.ite (fun _ => Ok.pure trivial) (fun hb => ?_)
  simp only [decide_eq_false_iff_not] at hb
  refine loopL_okc (fun _ _ => True) Tt trivial (fun i y z' hx _ => ?_) (fun r hr => Ok.pure trivial) (fun _ _ => Ok.pure trivial)
  have hi := lt_of_idx hx
  have hy := (h y (List.mem_of_getElem? hx)).2.1
  have j3 : ∀ b, Ok (Fr9_Valid.j3 b) (SP Tt (fun _ => False) Tt) := by
    intro b; unfold Fr9_Valid.j3
    exact Ok.ite (fun _ => Ok.pure trivial) (fun _ => Ok.pure trivial)
  unfold Fr9_Valid.b1
  refine Ok.bind (r6_Valid_ok hk (by omega)) fun _ _ => Ok.ite (fun _ => Ok.ite (fun hb => ?_) (fun _ => j3 _)) (fun _ => j3 _)
  simp only [decide_eq_true_eq] at hb
  rw [w64_in (by omega) (by omega)]
  exact Ok.bind (pick_ok (Q := Tt) ⟨by omega, by omega⟩ fun _ _ => trivial) fun _ _ => j3 _
/-- The differences of two stores. -/
theorem Deltas_ok (hk : 1000 ≤ k) {a b : List GTable} (ha : ∀ t ∈ a, TabW 60 t) (hb : ∀ t ∈ b, TabW 60 t) (hl : a.length = b.length) (h6 : a.length ≤ 6) : Ok (Fr9_Deltas k a b) (fun r => (∀ d ∈ r.1, DeltaW d) ∧ (r.1.map (·.Table)).Sublist (a.map (·.Schema.Name))) := by
  have j1 : ∀ q, Ok (Fr9_Deltas.j1 k a b q) (fun r => (∀ d ∈ r.1, DeltaW d) ∧ (r.1.map (·.Table)).Sublist (a.map (·.Schema.Name))) := by
    intro q; unfold Fr9_Deltas.j1
    refine Ok.ite (fun _ => Ok.pure ⟨by simp, by simp⟩) (fun h => ?_)
    refine loopL_okc (fun i s => ((∀ d ∈ s, DeltaW d) ∧ (s.map (·.Table)).Sublist ((a.take i).map (·.Schema.Name)))) (fun r : List GDelta × Bool => r.1 = []) ⟨by simp, by simp⟩ (fun i y z hy ⟨g1, g2⟩ => ?_) (fun r hr => Ok.pure (by rw [hr]; exact ⟨by simp, by simp⟩)) (fun s ⟨g1, g2⟩ => Ok.pure ⟨g1, by simpa using g2⟩)
    have hi := lt_of_idx hy
    have ht : a.take (i + 1) = a.take i ++ [y] := by rw [List.take_succ_eq_append_getElem hi]; congr 1; rw [List.getElem?_eq_getElem hi] at hy; simpa using hy
    have hz : z.length ≤ a.length := by
      have := g2.length_le
      simp only [List.length_map, List.length_take] at this
      omega
    unfold Fr9_Deltas.b1
    refine Ok.bind (pick_ok (Q := TabW 60) ⟨by omega, by omega⟩ hb) fun w hw => Ok.bind (Between_ok' hk (ha y (List.mem_of_getElem? hy)) hw) fun p hp => ?_
    refine Ok.ite (fun hpt => ?_) (fun _ => Ok.pure rfl)
    unfold Fr8_Empty
    simp only [Option.bind_some]
    refine Ok.ite (fun _ => Ok.pure ⟨g1, ?_⟩) (fun _ => ?_)
    · rw [ht, List.map_append]; exact g2.trans (List.sublist_append_left _ _)
    · rw [bind_eq (app_eq (by simp; unfold big; omega) (by decide))]
      refine Ok.pure ⟨fun x hx => ?_, ?_⟩
      · rcases List.mem_append.1 hx with hx | hx
        · exact g1 x hx
        · rw [List.mem_singleton.1 hx]; exact (hp hpt).1
      · rw [ht, List.map_append, List.map_append]
        simp only [List.map_cons, List.map_nil, (hp hpt).2]
        exact g2.append (List.Sublist.refl _)
  unfold Fr9_Deltas
  exact Ok.bind (r9_Valid_ok hk ha) fun _ _ => Ok.ite (fun _ => Ok.bind (r9_Valid_ok hk hb) fun _ _ => Ok.ite (fun _ => j1 _) (fun _ => j1 _)) (fun _ => j1 _)
end Go.Proofs.YtiojahpkaogigaaGreatDoor
