/- The plain law of EventCounts: the items of a round. Conditions: none. -/
import Derived.Test.YtiojahpkaogigaaGreatDoorP1
import Derived.Test.YtiojahpkaogigaaGreatDoorGf2
set_option linter.unusedSimpArgs false
namespace Go.Proofs.YtiojahpkaogigaaGreatDoor
open Go Go.Ab Go.Pl
variable {k : Nat}

theorem r5_Copy_eq {a : List GValue} (h : a.length ≤ big) : Fr5_Copy k a = some a := by
  unfold Fr5_Copy; rw [bind_eq (app_eq (by simpa using h) (by decide))]; simp
theorem clone_Value_eq {a : List GValue} (h : a.length ≤ big) : Fslices_Clone_Value k a = some a := by
  unfold Fslices_Clone_Value; rw [bind_eq (app_eq (by simpa using h) (by decide))]; simp
theorem clone_Column_eq {a : List GColumn} (h : a.length ≤ big) : Fslices_Clone_Column k a = some a := by
  unfold Fslices_Clone_Column; rw [bind_eq (app_eq (by simpa using h) (by decide))]; simp

/-- Rows that are not too long. -/
def RowsB (l : List GRow) : Prop := l.length ≤ 1000 ∧ ∀ r ∈ l, r.Values.length ≤ 1000
def PairsB (l : List GPair) : Prop := l.length ≤ 1000 ∧ ∀ r ∈ l, r.Old.length ≤ 1000 ∧ r.New.length ≤ 1000

theorem flatMap_single {α β : Type} (f : α → β) (l : List α) : (l.flatMap fun x => [f x]) = l.map f := by
  induction l with
  | nil => rfl
  | cons x l ih => simp [ih]
theorem flatMap_self {α : Type} (l : List α) : (l.flatMap fun x => [x]) = l := by rw [flatMap_single]; simp

theorem r17_copyRows_eq {l : List GRow} (h : RowsB l) : Fr17_copyRows k l = some l := by
  unfold Fr17_copyRows
  rw [loop_flat (fun x => [x]) (by rw [flatMap_self]; have := h.1; simp; unfold big; omega)]
  · rw [flatMap_self]; simp
  · intro i x s hx hs
    unfold Fr17_copyRows.b1
    rw [bind_eq (r5_Copy_eq (by have := h.2 x hx; unfold big; omega)), bind_eq (app_eq (by simpa using hs) (by decide))]
theorem deep_Row_eq {r : GRow} (h : r.Values.length ≤ 1000) : Fdeep_Row k r = some r := by
  unfold Fdeep_Row; rw [bind_eq (clone_Value_eq (by unfold big; omega))]
theorem deep_Rows_eq {l : List GRow} (h : RowsB l) : Fdeep_Rows k l = some l := by
  unfold Fdeep_Rows Fdeep_list_Row_deep_Row
  rw [loop_flat (fun x => [x]) (by rw [flatMap_self]; have := h.1; simp; unfold big; omega)]
  · rw [flatMap_self]; simp
  · intro i x s hx hs
    unfold Fdeep_list_Row_deep_Row.b1
    rw [bind_eq (deep_Row_eq (h.2 x hx)), bind_eq (app_eq (by simpa using hs) (by decide))]
theorem deep_Pair_eq {p : GPair} (h : p.Old.length ≤ 1000 ∧ p.New.length ≤ 1000) : Fdeep_Pair k p = some p := by
  unfold Fdeep_Pair; rw [bind_eq (clone_Value_eq (by have := h.1; unfold big; omega)), bind_eq (clone_Value_eq (by have := h.2; unfold big; omega))]

/-- Where a column stands. -/
def colI (s : GSchema) (n : List UInt8) : Int := findI (fun c : GColumn => decide (c.Name = n)) s.Columns
theorem schema_Find_eq {s : GSchema} {n : List UInt8} : Fschema_Find k s n = some (colI s n) := by
  unfold Fschema_Find Fslices_IndexFunc_Column_schema_Find_1
  rw [loop_findI (fun c : GColumn => decide (c.Name = n))]
  · rfl
  · intro i x _
    unfold Fslices_IndexFunc_Column_schema_Find_1.b1 Fschema_Find_1
    simp only [Option.bind_some]
    split <;> simp_all
theorem r4_Find_eq {s : GSchema} {n : List UInt8} : Fr4_Find k s n = some (colI s n) := by
  unfold Fr4_Find
  rw [loop_findI (fun c : GColumn => decide (c.Name = n))]
  · rfl
  · intro i x _
    unfold Fr4_Find.b1
    split <;> simp_all
/-- Do the two rows of a pair differ at a place? -/
def diffAt (p : GPair) (i : Int) : Bool := decide (0 ≤ i) && (decide (i < p.Old.length) && (decide (i < p.New.length) && !decide (p.Old[i.toNat]? = p.New[i.toNat]?)))
theorem colI_ge (s : GSchema) (n : List UInt8) : -1 ≤ colI s n := by
  unfold colI findI; split <;> omega
theorem idx_get {α : Type} {xs : List α} {i : Int} (h0 : 0 ≤ i) (h1 : i < xs.length) : ∃ x, idx xs i = some x ∧ xs[i.toNat]? = some x := by
  have hl : i.toNat < xs.length := by omega
  exact ⟨xs[i.toNat], by unfold idx; rw [if_pos h0]; simp [hl], by simp [hl]⟩
theorem differs_1_eq {s : GSchema} {p : GPair} {n : List UInt8} : Ftrigger_differs_1 k n s p = some (diffAt p (colI s n)) := by
  unfold Ftrigger_differs_1
  rw [bind_eq schema_Find_eq]
  unfold diffAt
  by_cases h0 : 0 ≤ colI s n
  · by_cases h1 : colI s n < p.Old.length
    · by_cases h2 : colI s n < p.New.length
      · obtain ⟨x, hx, hx'⟩ := idx_get h0 h1
        obtain ⟨y, hy, hy'⟩ := idx_get h0 h2
        simp only [h0, h1, h2, decide_true, if_true, Bool.true_and]; rw [bind_eq hx, bind_eq hy, hx', hy']; simp [Ftrigger_differs_1.j0]
      · simp [h0, h1, h2, Ftrigger_differs_1.j0]
    · simp [h0, h1, Ftrigger_differs_1.j0]
  · simp [h0, Ftrigger_differs_1.j0]
theorem r8_Differs_eq {p : GPair} {i : Int} (h0 : 0 ≤ i) : Fr8_Differs k p i = some (diffAt p i) := by
  unfold Fr8_Differs diffAt
  by_cases h1 : i < p.Old.length
  · by_cases h2 : i < p.New.length
    · obtain ⟨x, hx, hx'⟩ := idx_get h0 h1
      obtain ⟨y, hy, hy'⟩ := idx_get h0 h2
      simp only [h0, h1, h2, decide_true, if_true, Bool.true_and]; rw [bind_eq hx, bind_eq hy, hx', hy']; simp [Fr8_Differs.j0]
    · simp [h0, h1, h2, Fr8_Differs.j0]
  · simp [h0, h1, Fr8_Differs.j0]

theorem findI_any {α : Type} {p : α → Bool} {xs : List α} : decide (0 ≤ findI p xs) = xs.any p := by
  unfold findI
  cases h : xs.findIdx? p with
  | none =>
    have := List.findIdx?_eq_none_iff.1 h
    have h2 : xs.any p = false := by simpa using this
    rw [h2]; simp
  | some j =>
    obtain ⟨hl, hp, _⟩ := List.findIdx?_eq_some_iff_getElem.1 h
    have h2 : xs.any p = true := List.any_eq_true.2 ⟨xs[j], List.getElem_mem hl, hp⟩
    rw [h2]; simp
/-- Does an update concern a trigger? -/
def hits (t : GTrigger) (s : GSchema) (p : GPair) : Bool := decide ((t.Of.length : Int) = 0) || t.Of.any fun n => diffAt p (colI s n)
theorem differs_eq {p : GPair} {l : List (List UInt8)} {s : GSchema} : Ftrigger_differs k p l s = some (l.any fun n => diffAt p (colI s n)) := by
  unfold Ftrigger_differs Fslices_ContainsFunc_string_trigger_differs_1 Fslices_IndexFunc_string_trigger_differs_1
  rw [loop_findI (fun n => diffAt p (colI s n))]
  · simp only [Option.bind_some, findI_any]
  · intro i x _
    unfold Fslices_IndexFunc_string_trigger_differs_1.b1
    rw [bind_eq differs_1_eq]
    split <;> simp_all

/-- The part of a difference that concerns a trigger. -/
def matching (t : GTrigger) (s : GSchema) (d : GDelta) : GDelta :=
  if t.Event = 1 then ⟨d.Table, d.Inserted, [], []⟩ else if t.Event = 3 then ⟨d.Table, [], d.Deleted, []⟩ else if t.Event = 2 then ⟨d.Table, [], [], d.Updated.filter (hits t s)⟩ else ⟨d.Table, [], [], []⟩
def DeltaB (d : GDelta) : Prop := RowsB d.Inserted ∧ RowsB d.Deleted ∧ PairsB d.Updated
theorem flatMap_filter {α : Type} (p : α → Bool) (l : List α) : (l.flatMap fun x => if p x then [x] else []) = l.filter p := by
  induction l with
  | nil => rfl
  | cons x l ih => rw [List.flatMap_cons, List.filter_cons, ih]; split <;> simp_all
theorem trigger_Matching_eq {t : GTrigger} {s : GSchema} {d : GDelta} (h : DeltaB d) : Ftrigger_Matching k t s d = some (matching t s d) := by
  unfold Ftrigger_Matching matching
  by_cases h1 : t.Event = 1
  · simp [h1, bind_eq (deep_Rows_eq h.1), Ftrigger_Matching.j3]
  · by_cases h3 : t.Event = 3
    · simp [h3, bind_eq (deep_Rows_eq h.2.1), Ftrigger_Matching.j3]
    · by_cases h2 : t.Event = 2
      · simp only [h1, h2, h3, decide_false, decide_true, if_true, if_false, Bool.false_eq_true]
        rw [if_neg (by decide), if_neg (by decide), if_neg (by decide), if_neg (by decide)]
        rw [loop_flat (fun x => if hits t s x then [x] else [])]
        · rw [flatMap_filter]; simp [Ftrigger_Matching.j3]
        · rw [flatMap_filter]
          have := List.length_filter_le (hits t s) d.Updated
          have := h.2.2.1
          simp only [List.length_nil]; unfold big; omega
        · intro i x s' hx hs
          unfold Ftrigger_Matching.b1 Ftrigger_Matching.j6
          have hp := deep_Pair_eq (k := k) (h.2.2.2 x hx)
          by_cases ho : (t.Of.length : Int) = 0
          · have hh : hits t s x = true := by simp [hits, ho]
            simp only [hh, if_true, List.length_singleton] at hs ⊢
            simp only [ho, decide_true, if_true]
            rw [bind_eq hp, bind_eq (app_eq (by simpa using hs) (by decide))]
          · simp only [ho, decide_false, Bool.false_eq_true, if_false]
            rw [bind_eq differs_eq]
            have hh : hits t s x = t.Of.any fun n => diffAt x (colI s n) := by simp only [hits, ho, decide_false, Bool.false_or]
            rw [← hh]
            cases hb : hits t s x with
            | true =>
              simp only [hb, if_true, List.length_singleton] at hs ⊢
              rw [bind_eq hp, bind_eq (app_eq (by simpa using hs) (by decide))]
            | false => simp
      · simp [h1, h2, h3, Ftrigger_Matching.j3]

theorem r17_Matching_eq {t : GTrigger} {s : GSchema} {d : GDelta} (h : DeltaB d) : Fr17_Matching k t s d = some (matching t s d) := by
  unfold Fr17_Matching matching
  by_cases h1 : t.Event = 1
  · simp [h1, bind_eq (r17_copyRows_eq h.1), Fr17_Matching.j0]
  · by_cases h3 : t.Event = 3
    · simp [h3, bind_eq (r17_copyRows_eq h.2.1), Fr17_Matching.j0]
    · by_cases h2 : t.Event = 2
      · simp only [h1, h2, h3, decide_false, decide_true, if_true, if_false, Bool.false_eq_true]
        rw [if_neg (by decide), if_neg (by decide), if_neg (by decide), if_neg (by decide)]
        rw [loop_flat (fun x => if hits t s x then [x] else [])]
        · rw [flatMap_filter]; simp [Fr17_Matching.j0]
        · rw [flatMap_filter]
          have := List.length_filter_le (hits t s) d.Updated
          have := h.2.2.1
          simp only [List.length_nil]; unfold big; omega
        · intro i x s' hx hs
          unfold Fr17_Matching.b13
          have hin : ∀ (l : List (List UInt8)) (n : Nat) (b : Bool), loopL (Fr17_Matching.b12 k s x) l n b = some (.go (b || l.any fun n => diffAt x (colI s n))) := by
            intro l
            induction l with
            | nil => intro n b; simp [loopL]
            | cons y l ih =>
              intro n b
              simp only [loopL]
              have hb : Fr17_Matching.b12 k s x y n b = some (.cont (b || diffAt x (colI s y))) := by
                unfold Fr17_Matching.b12
                rw [bind_eq r4_Find_eq]
                cases b with
                | true => simp
                | false =>
                  by_cases h0 : 0 ≤ colI s y
                  · simp [h0, bind_eq (r8_Differs_eq h0)]
                  · simp [h0, diffAt]
              rw [hb]
              simp only
              rw [ih]
              simp [Bool.or_assoc]
          rw [bind_eq (hin t.Of 0 _)]
          have hx2 := h.2.2.2 x hx
          have hh : (decide ((t.Of.length : Int) = 0) || t.Of.any fun n => diffAt x (colI s n)) = hits t s x := rfl
          simp only [Out.el]
          rw [hh]
          cases hb : hits t s x with
          | true =>
            simp only [hb, if_true, List.length_singleton] at hs ⊢
            rw [bind_eq (r5_Copy_eq (by unfold big; omega)), bind_eq (r5_Copy_eq (by unfold big; omega)), bind_eq (app_eq (by simpa using hs) (by decide))]
          | false => simp
      · simp [h1, h2, h3, Fr17_Matching.j0]

/-- The first difference of a table. -/
def findD (l : List GDelta) (n : List UInt8) : Option GDelta := l.find? fun d => decide (d.Table = n)
theorem find_of_findI {α : Type} {p : α → Bool} {xs : List α} : (findI p xs < 0 → xs.find? p = none) ∧ (0 ≤ findI p xs → ∃ x, idx xs (findI p xs) = some x ∧ xs.find? p = some x) := by
  unfold findI
  cases h : xs.findIdx? p with
  | none =>
    refine ⟨fun _ => ?_, fun h' => by simp at h'⟩
    simpa using List.findIdx?_eq_none_iff.1 h
  | some j =>
    refine ⟨fun h' => by simp at h'; omega, fun _ => ?_⟩
    obtain ⟨hl, hp, hn⟩ := List.findIdx?_eq_some_iff_getElem.1 h
    refine ⟨xs[j], idx_eq (by simp [hl]), ?_⟩
    rw [List.find?_eq_some_iff_getElem]
    exact ⟨hp, j, hl, rfl, fun i hi => by simpa using hn i hi⟩
theorem event_Find_eq {l : List GDelta} {n : List UInt8} : Fevent_Find k l n = some (match findD l n with | some d => (d, true) | none => (⟨[], [], [], []⟩, false)) := by
  unfold Fevent_Find
  have h1 : Fslices_IndexFunc_Delta_event_Find_1 k l n = some (findI (fun d : GDelta => decide (d.Table = n)) l) := by
    unfold Fslices_IndexFunc_Delta_event_Find_1
    rw [loop_findI (fun d : GDelta => decide (d.Table = n))]
    intro i x _
    unfold Fslices_IndexFunc_Delta_event_Find_1.b1 Fevent_Find_1
    simp only [Option.bind_some]
    split <;> simp_all
  rw [bind_eq h1]
  have h2 := find_of_findI (p := fun d : GDelta => decide (d.Table = n)) (xs := l)
  by_cases h0 : findI (fun d : GDelta => decide (d.Table = n)) l < 0
  · simp [h0, findD, h2.1 h0]
  · obtain ⟨x, hx, hf⟩ := h2.2 (by omega)
    simp only [h0, decide_false, Bool.false_eq_true, if_false]
    rw [bind_eq hx]
    simp [findD, hf]
def findT (l : List GTable) (n : List UInt8) : Option GTable := l.find? fun d => decide (d.Schema.Name = n)
theorem scope_Source_eq {l : List GTable} {n : List UInt8} (h : ∀ t ∈ l, t.Schema.Columns.length ≤ 1000) : Fscope_Source k l n = some (match findT l n with | some t => (t.Schema, true) | none => (⟨[], []⟩, false)) := by
  unfold Fscope_Source
  have h1 : Fslices_IndexFunc_Table_scope_Source_1 k l n = some (findI (fun d : GTable => decide (d.Schema.Name = n)) l) := by
    unfold Fslices_IndexFunc_Table_scope_Source_1
    rw [loop_findI (fun d : GTable => decide (d.Schema.Name = n))]
    intro i x _
    unfold Fslices_IndexFunc_Table_scope_Source_1.b1 Fscope_Source_1
    simp only [Option.bind_some]
    split <;> simp_all
  rw [bind_eq h1]
  have h2 := find_of_findI (p := fun d : GTable => decide (d.Schema.Name = n)) (xs := l)
  by_cases h0 : findI (fun d : GTable => decide (d.Schema.Name = n)) l < 0
  · simp [h0, findT, h2.1 h0]
  · obtain ⟨x, hx, hf⟩ := h2.2 (by omega)
    simp only [h0, decide_false, Bool.false_eq_true, if_false]
    rw [bind_eq hx, bind_eq (clone_Column_eq (by have := h x (List.mem_of_find?_eq_some hf); unfold big; omega))]
    simp [findT, hf]

/-- The items of a trigger for each row. -/
def rowItems (t : GTrigger) (d : GDelta) : List GItem :=
  d.Inserted.map (fun r => ⟨t.Name, r.ID, [], r.Values⟩) ++ d.Deleted.map (fun r => ⟨t.Name, r.ID, r.Values, []⟩) ++ d.Updated.map (fun p => ⟨t.Name, p.ID, p.Old, p.New⟩)
theorem event_rows_eq {t : GTrigger} {d : GDelta} (h : DeltaB d) : Fevent_rows k t d = some (rowItems t d) := by
  unfold Fevent_rows rowItems
  have h1 := h.1.1; have h2 := h.2.1.1; have h3 := h.2.2.1
  rw [loop_flat (fun r : GRow => [(⟨t.Name, r.ID, [], r.Values⟩ : GItem)]) (by rw [flatMap_single]; simp; unfold big; omega)]
  · rw [loop_flat (fun r : GRow => [(⟨t.Name, r.ID, r.Values, []⟩ : GItem)]) (by rw [flatMap_single, flatMap_single]; simp; unfold big; omega)]
    · rw [loop_flat (fun r : GPair => [(⟨t.Name, r.ID, r.Old, r.New⟩ : GItem)]) (by rw [flatMap_single, flatMap_single, flatMap_single]; simp; unfold big; omega)]
      · simp [flatMap_single]
      · intro i x s _ hs
        unfold Fevent_rows.b5
        rw [bind_eq (app_eq (by simpa using hs) (by decide))]
    · intro i x s _ hs
      unfold Fevent_rows.b3
      rw [bind_eq (app_eq (by simpa using hs) (by decide))]
  · intro i x s _ hs
    unfold Fevent_rows.b1
    rw [bind_eq (app_eq (by simpa using hs) (by decide))]
def rowsOf (d : GDelta) (e : Int) : Int := if e = 1 then d.Inserted.length else if e = 2 then d.Updated.length else if e = 3 then d.Deleted.length else 0
theorem delta_Rows_eq {d : GDelta} {e : Int} : Fdelta_Rows k d e = some (rowsOf d e) := by
  unfold Fdelta_Rows rowsOf
  by_cases h1 : e = 1
  · simp [h1]
  · by_cases h2 : e = 2
    · simp [h2]
    · by_cases h3 : e = 3 <;> simp [h1, h2, h3]
theorem r8_Rows_eq {d : GDelta} {e : Int} : Fr8_Rows k d e = some (rowsOf d e) := by
  unfold Fr8_Rows rowsOf
  by_cases h1 : e = 1
  · simp [h1]
  · by_cases h2 : e = 2
    · simp [h2]
    · by_cases h3 : e = 3 <;> simp [h1, h2, h3]
theorem DeltaB.matching {t : GTrigger} {s : GSchema} {d : GDelta} (h : DeltaB d) : DeltaB (matching t s d) := by
  have e1 : RowsB [] := ⟨by simp, by simp⟩
  have e2 : PairsB [] := ⟨by simp, by simp⟩
  unfold Go.Proofs.YtiojahpkaogigaaGreatDoor.matching
  split
  · exact ⟨h.1, e1, e2⟩
  · split
    · exact ⟨e1, h.2.1, e2⟩
    · split
      · refine ⟨e1, e1, ?_, fun p hp => h.2.2.2 p (List.mem_filter.1 hp).1⟩
        have := List.length_filter_le (hits t s) d.Updated
        have := h.2.2.1
        simp only; omega
      · exact ⟨e1, e1, e2⟩

/-- The items of one trigger. -/
def itemsOf (tabs : List GTable) (ds : List GDelta) (t : GTrigger) : List GItem :=
  match findD ds t.Table, findT tabs t.Table with
  | some d, some tb => if t.Before then [] else if t.EachRow then rowItems t (matching t tb.Schema d) else if 0 < rowsOf (matching t tb.Schema d) t.Event then [⟨t.Name, 0, [], []⟩] else []
  | _, _ => []
theorem rowItems_len {t : GTrigger} {d : GDelta} (h : DeltaB d) : (rowItems t d).length ≤ 3000 := by
  have h1 := h.1.1; have h2 := h.2.1.1; have h3 := h.2.2.1
  simp [rowItems]; omega
theorem itemsOf_len {tabs : List GTable} {ds : List GDelta} {t : GTrigger} (h : ∀ d ∈ ds, DeltaB d) : (itemsOf tabs ds t).length ≤ 3000 := by
  unfold itemsOf
  split
  · rename_i d tb h1 h2
    split
    · simp
    · split
      · exact rowItems_len (h d (List.mem_of_find?_eq_some h1)).matching
      · split <;> simp
  · simp
theorem flatMap_len {α β : Type} {f : α → List β} {n : Nat} : ∀ {l : List α}, (∀ x ∈ l, (f x).length ≤ n) → (l.flatMap f).length ≤ l.length * n
  | [], _ => by simp
  | x :: l, h => by
    have h1 := h x (by simp)
    have h2 := flatMap_len (f := f) (n := n) (l := l) fun y hy => h y (by simp [hy])
    simp only [List.flatMap_cons, List.length_append, List.length_cons, Nat.add_mul, Nat.one_mul]
    omega
theorem event_Items_eq {ts : List GTrigger} {tabs : List GTable} {ds : List GDelta} (h0 : ts.length ≤ 100) (h : ∀ t ∈ tabs, t.Schema.Columns.length ≤ 1000) (hd : ∀ d ∈ ds, DeltaB d) : Fevent_Items k ts tabs ds = some (ts.flatMap (itemsOf tabs ds)) := by
  unfold Fevent_Items
  rw [loop_flat (itemsOf tabs ds)]
  · simp
  · have := flatMap_len (f := itemsOf tabs ds) (l := ts) (n := 3000) fun t _ => itemsOf_len hd
    simp only [List.length_nil]; unfold big; omega
  · intro i t s _ hs
    unfold Fevent_Items.b1
    rw [bind_eq event_Find_eq, bind_eq (scope_Source_eq h)]
    unfold itemsOf at hs ⊢
    cases hf : findD ds t.Table with
    | none => cases t.Before <;> simp [Fevent_Items.j11]
    | some d =>
      cases ht : findT tabs t.Table with
      | none => cases t.Before <;> simp [Fevent_Items.j11]
      | some tb =>
        simp only [hf, ht] at hs
        cases hb : t.Before with
        | true => simp [Fevent_Items.j11]
        | false =>
          simp only [hb, Bool.false_eq_true, if_false] at hs
          have hD := hd d (List.mem_of_find?_eq_some hf)
          simp only [Fevent_Items.j11, Bool.not_true, Bool.false_eq_true, if_false, if_true]
          rw [bind_eq (trigger_Matching_eq hD)]
          cases he : t.EachRow with
          | true =>
            simp only [he, if_true] at hs
            simp only [if_true]
            rw [bind_eq (event_rows_eq hD.matching), bind_eq (app_eq hs (by decide))]
          | false =>
            simp only [Bool.false_eq_true, if_false]
            rw [bind_eq delta_Rows_eq]
            by_cases h0 : 0 < rowsOf (matching t tb.Schema d) t.Event
            · simp only [he, h0, if_true, Bool.false_eq_true, if_false] at hs
              simp only [h0, decide_true, if_true]
              rw [bind_eq (app_eq hs (by decide))]
            · simp [h0]
end Go.Proofs.YtiojahpkaogigaaGreatDoor
