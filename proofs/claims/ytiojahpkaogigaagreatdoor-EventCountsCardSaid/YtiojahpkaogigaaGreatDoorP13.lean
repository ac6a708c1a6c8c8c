/- The plain law of EventCounts. Conditions: none. -/
import Derived.Test.YtiojahpkaogigaaGreatDoorP12
set_option linter.unusedSimpArgs false
set_option linter.unusedVariables false
namespace Go.Proofs.YtiojahpkaogigaaGreatDoor
open Go Go.Ab Go.Pl
variable {k : Nat}

/-- How many rows concern a trigger. -/
def qOf (ds : List GDelta) (x : GTrigger) (s : Int) : Int := match findD ds x.Table with
  | some d => if x.Before then s else rowsOf (matching x (worldS x.Table) d) x.Event
  | none => s
theorem b14_loop {x : GTrigger} : ∀ (ds : List GDelta) (n : Nat) (s : Int), (ds.map (·.Table)).Nodup → (∀ d ∈ ds, DeltaW d) → loopL (Flaw22_EventCounts.b14 k x) ds n s = some (.go (qOf ds x s))
  | [], _, _, _, _ => rfl
  | d :: ds, n, s, hn, hd => by
    simp only [List.map_cons, List.nodup_cons] at hn
    have hD := (hd d (by simp)).b
    have hb : Flaw22_EventCounts.b14 k x d n s = some (.cont (if d.Table = x.Table then (if x.Before then s else rowsOf (matching x (worldS x.Table) d) x.Event) else s)) := by
      unfold Flaw22_EventCounts.b14 Flaw22_EventCounts.j44
      by_cases h : d.Table = x.Table
      · cases hx : x.Before with
        | true => simp [h]
        | false =>
          simp only [h, decide_true, if_true, Bool.not_false]
          rw [bind_eq Schema_eq, bind_eq (r17_Matching_eq hD), bind_eq r8_Rows_eq]
          simp
      · simp [h]
    simp only [loopL, hb]
    rw [b14_loop ds (n + 1) _ hn.2 fun y hy => hd y (by simp [hy])]
    congr 2
    unfold qOf findD
    by_cases h : d.Table = x.Table
    · have hnone : ds.find? (fun d => decide (d.Table = x.Table)) = none := by
        rw [List.find?_eq_none]
        intro y hy
        simp only [decide_eq_true_eq]
        rintro e
        exact hn.1 (List.mem_map.2 ⟨y, hy, by rw [e, h]⟩)
      rw [hnone, List.find?_cons]
      simp [h]
    · rw [List.find?_cons]
      simp [h]

/-- Has an item the form that its trigger asks for? -/
def shapeB (x : GTrigger) (it : GItem) : Bool :=
  if x.EachRow then ((decide (0 < (it.Old.length : Int))) == (!decide (x.Event = 1))) && ((decide (0 < (it.New.length : Int))) == (!decide (x.Event = 3)))
  else !decide (0 < (w64 ((w64 ((it.Old.length : Int) + (it.New.length : Int))) + it.Row)))
theorem b16_loop {x : GTrigger} : ∀ (l : List GItem) (n : Nat) (s : Int), 0 ≤ s → s + l.length ≤ 1000000000 → (∀ it ∈ l, it.Trigger = x.Name → shapeB x it = true) → loopL (Flaw22_EventCounts.b16 x) l n s = some (.go (s + ((l.filter fun it => decide (it.Trigger = x.Name)).length : Int)))
  | [], _, s, _, _, _ => by simp [loopL]
  | it :: l, n, s, h0, h1, h => by
    simp only [List.length_cons] at h1
    have hb : Flaw22_EventCounts.b16 x it n s = some (.cont (if it.Trigger = x.Name then s + 1 else s)) := by
      unfold Flaw22_EventCounts.b16 Flaw22_EventCounts.j51
      by_cases ht : it.Trigger = x.Name
      · have hs := h it (by simp) ht
        unfold shapeB at hs
        have hw : w64 (s + 1) = s + 1 := w64_in (by omega) (by omega)
        cases hx : x.EachRow with
        | true =>
          simp only [hx, if_true, Bool.and_eq_true] at hs
          simp only [ht, decide_true, if_true, hs.1, hs.2, Bool.false_eq_true, if_false, hw]
        | false =>
          simp only [hx, Bool.false_eq_true, if_false, Bool.not_eq_true'] at hs
          simp only [ht, decide_true, if_true, hs, Bool.false_eq_true, if_false, hw]
      · simp [ht]
    simp only [loopL, hb]
    by_cases ht : it.Trigger = x.Name
    · simp only [ht, if_true]
      rw [b16_loop l (n + 1) (s + 1) (by omega) (by omega) fun y hy => h y (by simp [hy])]
      rw [List.filter_cons, if_pos (by simp [ht])]
      congr 2
      simp only [List.length_cons]; omega
    · simp only [ht, if_false]
      rw [b16_loop l (n + 1) s h0 (by omega) fun y hy => h y (by simp [hy])]
      rw [List.filter_cons, if_neg (by simp [ht])]

theorem filter_own {α β : Type} (f : α → List β) (name : α → List UInt8) (key : β → List UInt8) {x : α} : ∀ (l : List α), (l.map name).Nodup → x ∈ l → (∀ a ∈ l, ∀ b ∈ f a, key b = name a) → (l.flatMap f).filter (fun b => decide (key b = name x)) = f x
  | [], _, h, _ => by simp at h
  | a :: l, hn, hx, hk => by
    simp only [List.map_cons, List.nodup_cons] at hn
    rw [List.flatMap_cons, List.filter_append]
    have rest : ∀ l : List α, (∀ a ∈ l, name a ≠ name x) → (∀ a ∈ l, ∀ b ∈ f a, key b = name a) → (l.flatMap f).filter (fun b => decide (key b = name x)) = [] := by
      intro l h1 h2
      rw [List.filter_eq_nil_iff]
      intro b hb
      obtain ⟨a, ha, hba⟩ := List.mem_flatMap.1 hb
      simp only [decide_eq_true_eq]
      rw [h2 a ha b hba]; exact h1 a ha
    by_cases e : name a = name x
    · have hxl : x ∉ l := fun h => hn.1 (List.mem_map.2 ⟨x, h, e.symm⟩)
      have hax : x = a := by
        rcases List.mem_cons.1 hx with h | h
        · exact h
        · exact absurd h hxl
      subst hax
      have h1 : (f x).filter (fun b => decide (key b = name x)) = f x := by
        rw [List.filter_eq_self]
        intro b hb
        simp only [decide_eq_true_eq]; exact hk x (by simp) b hb
      rw [h1, rest l (fun y hy h => hn.1 (List.mem_map.2 ⟨y, hy, h⟩)) fun y hy => hk y (by simp [hy])]
      simp
    · have h1 : (f a).filter (fun b => decide (key b = name x)) = [] := by
        rw [List.filter_eq_nil_iff]
        intro b hb
        simp only [decide_eq_true_eq]; rw [hk a (by simp) b hb]; exact e
      have hx' : x ∈ l := by
        rcases List.mem_cons.1 hx with h | h
        · exact absurd (by rw [h]) e
        · exact h
      rw [h1, filter_own f name key l hn.2 hx' fun y hy => hk y (by simp [hy])]
      simp

theorem findT_world {m : List GTable} {n : List UInt8} {c : Nat} (hm : StoreW c m) (hn : n ∈ tabN) : ∃ tb, findT m n = some tb ∧ tb.Schema = worldS n := by
  have h1 : (m.map (·.Schema)).find? (fun s => decide (s.Name = n)) = some (worldS n) := by
    rw [hm.1]; revert n; decide
  rw [List.find?_map] at h1
  cases h : findT m n with
  | none =>
    have h' : List.find? ((fun s : GSchema => decide (s.Name = n)) ∘ fun x : GTable => x.Schema) m = none := h
    rw [h'] at h1; cases h1
  | some tb =>
    have h' : List.find? ((fun s : GSchema => decide (s.Name = n)) ∘ fun x : GTable => x.Schema) m = some tb := h
    rw [h'] at h1
    exact ⟨tb, rfl, Option.some.inj h1⟩
theorem rowItems_name {x : GTrigger} {d : GDelta} : ∀ it ∈ rowItems x d, it.Trigger = x.Name := by
  intro it h
  simp only [rowItems, List.mem_append, List.mem_map] at h
  rcases h with (⟨r, _, rfl⟩ | ⟨r, _, rfl⟩) | ⟨r, _, rfl⟩ <;> rfl
theorem itemsOf_name {m : List GTable} {ds : List GDelta} {x : GTrigger} : ∀ it ∈ itemsOf m ds x, it.Trigger = x.Name := by
  intro it h
  unfold itemsOf at h
  split at h
  · split at h
    · simp at h
    · split at h
      · exact rowItems_name it h
      · split at h
        · rw [List.mem_singleton.1 h]
        · simp at h
  · simp at h
theorem rowItems_shape {x : GTrigger} {s : GSchema} {d : GDelta} (he : 1 ≤ x.Event ∧ x.Event ≤ 3) (hx : x.EachRow = true) (hd : DeltaW d) : ((rowItems x (matching x s d)).length : Int) = rowsOf (matching x s d) x.Event ∧ ∀ it ∈ rowItems x (matching x s d), shapeB x it = true := by
  have h3 : x.Event = 1 ∨ x.Event = 2 ∨ x.Event = 3 := by omega
  rcases h3 with h | h | h
  · refine ⟨by simp [matching, rowItems, rowsOf, h], fun it hit => ?_⟩
    simp only [matching, rowItems, h, if_true, List.map_nil, List.append_nil, List.mem_map] at hit
    obtain ⟨r, hr, rfl⟩ := hit
    have := (hd.1.2 r hr).1
    have h0 : (0 : Int) < r.Values.length := by omega
    simp [shapeB, hx, h, h0]; omega
  · refine ⟨by simp [matching, rowItems, rowsOf, h], fun it hit => ?_⟩
    simp only [matching, rowItems, h, show ((2 : Int) = 1) = False by simp, show ((2 : Int) = 3) = False by simp, if_false, if_true, List.map_nil, List.nil_append, List.append_nil, List.mem_map] at hit
    obtain ⟨r, hr, rfl⟩ := hit
    have := hd.2.2.2 r (List.mem_filter.1 hr).1
    simp [shapeB, hx, h]; omega
  · refine ⟨by simp [matching, rowItems, rowsOf, h], fun it hit => ?_⟩
    simp only [matching, rowItems, h, show ((3 : Int) = 1) = False by simp, if_false, if_true, List.map_nil, List.nil_append, List.append_nil, List.mem_map] at hit
    obtain ⟨r, hr, rfl⟩ := hit
    have := (hd.2.1.2 r hr).1
    simp [shapeB, hx, h]; omega
theorem rowsOf_nonneg {d : GDelta} {e : Int} : 0 ≤ rowsOf d e := by
  unfold rowsOf
  split
  · omega
  · split
    · omega
    · split <;> omega
theorem itemsOf_shape {m : List GTable} {ds : List GDelta} {x : GTrigger} {c : Nat} (hm : StoreW c m) (hds : ∀ d ∈ ds, DeltaW d) (hx : x.Table ∈ tabN ∧ 1 ≤ x.Event ∧ x.Event ≤ 3) :
    ((itemsOf m ds x).length : Int) = (if x.EachRow then qOf ds x 0 else if 1 < qOf ds x 0 then 1 else qOf ds x 0) ∧ ∀ it ∈ itemsOf m ds x, shapeB x it = true := by
  obtain ⟨tb, ht, hts⟩ := findT_world hm hx.1
  unfold itemsOf qOf
  rw [ht]
  cases hf : findD ds x.Table with
  | none => simp
  | some d =>
    have hd := hds d (List.mem_of_find?_eq_some hf)
    simp only [hts]
    cases hb : x.Before with
    | true => simp
    | false =>
      simp only [Bool.false_eq_true, if_false]
      cases he : x.EachRow with
      | true =>
        simp only [if_true]
        exact rowItems_shape hx.2 he hd
      | false =>
        simp only [Bool.false_eq_true, if_false]
        have h0 := rowsOf_nonneg (d := matching x (worldS x.Table) d) (e := x.Event)
        generalize rowsOf (matching x (worldS x.Table) d) x.Event = q at h0 ⊢
        by_cases hq : 0 < q
        · rw [if_pos hq]
          refine ⟨?_, fun it hit => ?_⟩
          · simp only [List.length_singleton]
            split <;> omega
          · rw [List.mem_singleton.1 hit]
            simp only [shapeB, he, Bool.false_eq_true, if_false]
            exact (by decide : (!decide ((0 : Int) < w64 (w64 (0 + 0) + 0))) = true)
        · rw [if_neg hq]
          refine ⟨?_, by simp⟩
          simp only [List.length_nil]
          split <;> omega

theorem known_eq (hk : 1000 ≤ k) : Flaw22_known k = some true := by
  unfold Flaw22_known
  rw [bind_eq Schema_eq, bind_eq (event_Items_eq (by simp) (by decide) ?_)]
  · decide
  · intro d hd
    rw [List.mem_singleton.1 hd]
    refine ⟨⟨by simp, ?_⟩, ⟨by simp, by simp⟩, by simp, by simp⟩
    decide

/-- The law: each trigger is told as often as the differences ask. -/
theorem EventCounts_ok (hk : 1000 ≤ k) {t : List Int} (ht : t.length ≤ maxLen) : Ok (Flaw22_EventCounts k t) (fun r => r = true) := by
  unfold Flaw22_EventCounts
  refine Ok.bind (Q := TOK) ?_ fun p1 hp1 => ?_
  · unfold Fw_New Fw_New.j0
    refine Ok.ite (fun h => ?_) (fun h => Ok.pure ?_)
    · simp only [decide_eq_true_eq] at h
      rw [bind_eq (slc_eq (by omega) (by omega) (by omega))]
      exact Ok.pure ⟨by simp; omega, by simp⟩
    · simp only [decide_eq_false_iff_not] at h
      exact ⟨by simp only; omega, by simp⟩
  refine Ok.bind (Triggers_ok hk hp1) fun p3 ⟨h3, ht3⟩ => Ok.bind (differences_ok hk ht3) fun p5 ⟨h5, h6, h7⟩ => ?_
  have hdb : ∀ d ∈ p5.2.1, DeltaB d := fun d hd => (h6 d hd).b
  have hl3 := h3.2.1
  have hn3 : (p3.1.map (·.Name)).Nodup := by
    rw [h3.1]; exact (List.take_sublist _ _).nodup (by decide)
  rw [bind_eq (event_Items_eq (by omega) (fun t ht => Nat.le_trans (h5.2 t ht).cols.2 (by omega)) hdb)]
  have hlen := flatMap_len (f := itemsOf p5.1 p5.2.1) (l := p3.1) (n := 3000) fun t _ => itemsOf_len hdb
  refine loopL_okc (fun _ _ => True) (fun _ => False) trivial (fun i x z hx _ => ?_) (fun r hr => hr.elim) (fun _ _ => ?_)
  · have hxm := List.mem_of_getElem? hx
    have hx3 := h3.2.2 x hxm
    obtain ⟨g1, g2⟩ := itemsOf_shape h5 h6 hx3
    have hfil : (p3.1.flatMap (itemsOf p5.1 p5.2.1)).filter (fun it => decide (it.Trigger = x.Name)) = itemsOf p5.1 p5.2.1 x :=
      filter_own (itemsOf p5.1 p5.2.1) (·.Name) (·.Trigger) p3.1 hn3 hxm fun a _ b hb => itemsOf_name b hb
    have hall : ∀ it ∈ p3.1.flatMap (itemsOf p5.1 p5.2.1), it.Trigger = x.Name → shapeB x it = true := by
      intro it hit hn
      refine g2 it ?_
      rw [← hfil]
      exact List.mem_filter.2 ⟨hit, by simp [hn]⟩
    have j45 : ∀ q, ((itemsOf p5.1 p5.2.1 x).length : Int) = q → Ok (Flaw22_EventCounts.j45 (p3.1.flatMap (itemsOf p5.1 p5.2.1)) x q) (SP Tt (fun _ => False) (fun _ => False)) := by
      intro q hq
      unfold Flaw22_EventCounts.j45
      rw [bind_eq (b16_loop _ 0 0 (by omega) (by omega) hall)]
      simp only [Out.el, hfil]
      rw [if_pos (by simp; omega)]
      exact Ok.pure trivial
    unfold Flaw22_EventCounts.b17
    rw [bind_eq (b14_loop _ 0 0 h7 h6)]
    simp only [Out.el]
    cases he : x.EachRow with
    | true => exact j45 _ (by rw [g1, he]; simp)
    | false => exact j45 _ (by rw [g1, he]; simp)
  · rw [bind_eq (known_eq hk)]
    exact Ok.pure rfl
end Go.Proofs.YtiojahpkaogigaaGreatDoor
