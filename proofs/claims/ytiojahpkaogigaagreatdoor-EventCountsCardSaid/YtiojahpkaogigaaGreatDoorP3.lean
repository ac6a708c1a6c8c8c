/- The plain law of EventCounts: the order between triggers always ends. Conditions: none. -/
import Derived.Test.YtiojahpkaogigaaGreatDoorP2
set_option linter.unusedSimpArgs false
namespace Go.Pl
open Go Go.Ab
section
variable {S R Z : Type}
/-- A loop of any kind, with a measure that each round lowers. -/
theorem loopN_ok_from {step : S → Option (Step R S)} (Inv : S → Prop) (μ : S → Nat) (QB : S → Prop) (QR : R → Prop)
    (h : ∀ s, Inv s → Ok (step s) (SP (fun s' => Inv s' ∧ μ s' < μ s) QB QR)) : ∀ (k : Nat) (s0 : S), Inv s0 → μ s0 < k →
    Ok (loopN step k s0) (fun o => match o with | .go s => QB s | .ret r => QR r)
  | 0, _, _, hk => by omega
  | k + 1, s0, h0, hk => by
    obtain ⟨o, ho, hq⟩ := h s0 h0
    simp only [loopN, ho]
    cases o with
    | cont s' => exact loopN_ok_from Inv μ QB QR h k s' hq.1 (by have := hq.2; omega)
    | brk s' => exact ⟨_, rfl, hq⟩
    | ret r => exact ⟨_, rfl, hq⟩
theorem loopN_ok {step : S → Option (Step R S)} {k : Nat} {s0 : S} {emb : R → Option Z} {F : S → Option Z} {Q : Z → Prop} (Inv : S → Prop) (μ : S → Nat) (QB : S → Prop) (QR : R → Prop) (h0 : Inv s0) (hk : μ s0 < k)
    (h : ∀ s, Inv s → Ok (step s) (SP (fun s' => Inv s' ∧ μ s' < μ s) QB QR))
    (hr : ∀ r, QR r → Ok (emb r) Q) (hg : ∀ s, QB s → Ok (F s) Q) : Ok ((loopN step k s0).bind fun out => Out.el out emb F) Q := by
  obtain ⟨o, ho, hq⟩ := loopN_ok_from Inv μ QB QR h k s0 h0 hk
  rw [bind_eq ho]
  cases o with
  | go s => exact hg s hq
  | ret r => exact hr r hq
end

theorem nodup_len {α : Type} [DecidableEq α] : ∀ {l m : List α}, l.Nodup → (∀ x ∈ l, x ∈ m) → l.length ≤ m.length
  | [], _, _, _ => by simp
  | x :: l, m, h, hs => by
    have hx : x ∈ m := hs x (by simp)
    have h1 := (List.nodup_cons.1 h)
    have := nodup_len (l := l) (m := m.erase x) h1.2 fun y hy => by
      have hne : y ≠ x := fun e => h1.1 (e ▸ hy)
      exact (List.mem_erase_of_ne hne).2 (hs y (by simp [hy]))
    rw [List.length_erase_of_mem hx] at this
    have hp : 0 < m.length := List.length_pos_of_mem hx
    simp only [List.length_cons]; omega
end Go.Pl
namespace Go.Proofs.YtiojahpkaogigaaGreatDoor
open Go Go.Ab Go.Pl
variable {k : Nat}

/-- Links between names of a list. -/
def LinksB (N : List (List UInt8)) (l : List GLink) : Prop := l.Nodup ∧ ∀ x ∈ l, x.First ∈ N ∧ x.Second ∈ N
def prodL (N : List (List UInt8)) : List GLink := N.flatMap fun a => N.map fun b => ⟨a, b⟩
theorem LinksB.len {N : List (List UInt8)} {l : List GLink} (h : LinksB N l) : l.length ≤ N.length * N.length := by
  have h1 := nodup_len (m := prodL N) h.1 fun x hx => by
    obtain ⟨h1, h2⟩ := h.2 x hx
    simp only [prodL, List.mem_flatMap, List.mem_map]
    exact ⟨x.First, h1, x.Second, h2, rfl⟩
  have h2 := flatMap_len (f := fun a => N.map fun b => (⟨a, b⟩ : GLink)) (n := N.length) (l := N) fun a _ => by simp
  exact Nat.le_trans h1 h2

theorem before_ok (a b : GLink) : ∃ r, Fr18_before k a b = some r := by
  unfold Fr18_before Fr18_before.j0
  split
  · exact ⟨_, rfl⟩
  · split <;> exact ⟨_, rfl⟩

/-- A link is put into its place. -/
theorem r18_insert_ok {N : List (List UInt8)} (hN : N.length ≤ 20) {l : List GLink} {x : GLink} (h : LinksB N l) (h1 : x.First ∈ N) (h2 : x.Second ∈ N) :
    Ok (Fr18_insert k l x) (fun r => LinksB N r ∧ (∀ y, y ∈ r ↔ y ∈ l ∨ y = x)) := by
  unfold Fr18_insert
  have hlen := h.len
  have hNN : N.length * N.length ≤ 400 := Nat.mul_le_mul hN hN
  refine loopL_okc (fun i s => s.1.length ≤ 2 * i ∧ s.1.Nodup ∧ (∀ y, y ∈ s.1 ↔ (y ∈ l.take i ∧ y ≠ x) ∨ (s.2 = true ∧ y = x))) (fun _ => False) ⟨by simp, by simp, by simp⟩ ?_ (fun r hr => hr.elim) ?_
  · intro i y s hy ⟨hs1, hs2, hs3⟩
    have hi : i < l.length := lt_of_idx hy
    have hyl : y ∈ l := List.mem_of_getElem? hy
    have htake : l.take (i + 1) = l.take i ++ [y] := by rw [List.take_succ_eq_append_getElem hi]; congr 1; rw [List.getElem?_eq_getElem hi] at hy; simpa using hy
    have hnot : y ∉ l.take i := by
      intro hm
      have hnd : (l.take (i + 1)).Nodup := (List.take_sublist _ _).nodup h.1
      rw [htake, List.nodup_append] at hnd
      exact hnd.2.2 y hm y (by simp) rfl
    -- the second half: the element itself
    have tail : ∀ (q : List GLink × Bool), q.1.length ≤ 2 * i + 1 → q.1.Nodup → (∀ z, z ∈ q.1 ↔ (z ∈ l.take i ∧ z ≠ x) ∨ (q.2 = true ∧ z = x)) →
        Ok (Fr18_insert.j12 x y q) (SP (fun s' => s'.1.length ≤ 2 * (i + 1) ∧ s'.1.Nodup ∧ (∀ z, z ∈ s'.1 ↔ (z ∈ l.take (i + 1) ∧ z ≠ x) ∨ (s'.2 = true ∧ z = x))) (fun _ => False) (fun _ => False)) := by
      intro q q1 q2 q3
      unfold Fr18_insert.j12
      refine Ok.ite (fun hb => ?_) (fun hb => ?_)
      · simp only [decide_eq_true_eq] at hb
        refine Ok.pure ⟨by simp only; omega, q2, fun z => ?_⟩
        rw [q3 z, htake]
        constructor
        · rintro (⟨a, b⟩ | ⟨a, b⟩)
          · exact .inl ⟨by simp [a], b⟩
          · exact .inr ⟨a, b⟩
        · rintro (⟨a, b⟩ | ⟨a, b⟩)
          · rcases List.mem_append.1 a with a | a
            · exact .inl ⟨a, b⟩
            · simp at a; exact absurd (a.trans hb) b
          · exact .inr ⟨a, b⟩
      · simp only [decide_eq_false_iff_not] at hb
        refine Ok.bind (app_ok (Q := fun r => r = q.1 ++ [y]) (by simp; unfold big; omega) (by decide) rfl) fun r hr => ?_
        subst hr
        refine Ok.pure ⟨by simp; omega, ?_, fun z => ?_⟩
        · rw [List.nodup_append]
          refine ⟨q2, by simp, fun a ha b hbm => ?_⟩
          simp at hbm; subst hbm
          rintro rfl
          rcases (q3 a).1 ha with ⟨c, _⟩ | ⟨_, c⟩
          · exact hnot c
          · exact hb c
        · simp only [List.mem_append, List.mem_singleton, htake]
          rw [q3 z]
          constructor
          · rintro ((⟨a, b⟩ | ⟨a, b⟩) | a)
            · exact .inl ⟨.inl a, b⟩
            · exact .inr ⟨a, b⟩
            · exact .inl ⟨.inr a, by rw [a]; exact hb⟩
          · rintro (⟨a | a, b⟩ | ⟨a, b⟩)
            · exact .inl (.inl ⟨a, b⟩)
            · exact .inr a
            · exact .inl (.inr ⟨a, b⟩)
    have mid : ∀ b, (b = true → s.2 = false) → Ok (Fr18_insert.j13 x s y b) (SP (fun s' => s'.1.length ≤ 2 * (i + 1) ∧ s'.1.Nodup ∧ (∀ z, z ∈ s'.1 ↔ (z ∈ l.take (i + 1) ∧ z ≠ x) ∨ (s'.2 = true ∧ z = x))) (fun _ => False) (fun _ => False)) := by
      intro b hb
      unfold Fr18_insert.j13
      refine Ok.ite (fun hbt => ?_) (fun _ => ?_)
      · have hf := hb hbt
        refine Ok.bind (app_ok (Q := fun r => r = s.1 ++ [x]) (by simp; unfold big; omega) (by decide) rfl) fun r hr => ?_
        subst hr
        refine tail _ (by simp; omega) ?_ (fun z => ?_)
        · rw [List.nodup_append]
          refine ⟨hs2, by simp, fun a ha c hc => ?_⟩
          simp at hc; subst hc
          rintro rfl
          rcases (hs3 a).1 ha with ⟨_, c⟩ | ⟨c, _⟩
          · exact c rfl
          · rw [hf] at c; cases c
        · simp only [List.mem_append, List.mem_singleton, true_and]
          rw [hs3 z]
          simp only [hf, Bool.false_eq_true, false_and, or_false]
      · exact tail _ (by simp only; omega) hs2 hs3
    unfold Fr18_insert.b1
    refine Ok.ite (fun _ => mid false (by simp)) (fun hb => ?_)
    obtain ⟨r, hr⟩ := before_ok (k := k) y x
    rw [bind_eq hr]
    exact mid _ (fun _ => hb)
  · intro s ⟨hs1, hs2, hs3⟩
    rw [List.take_length] at hs3
    have hin : ∀ z, z ∈ l → z.First ∈ N ∧ z.Second ∈ N := h.2
    unfold Fr18_insert.j14
    refine Ok.ite (fun hb => Ok.pure ⟨⟨hs2, fun z hz => ?_⟩, fun z => ?_⟩) (fun hb => ?_)
    · rcases (hs3 z).1 hz with ⟨a, _⟩ | ⟨_, a⟩
      · exact hin z a
      · rw [a]; exact ⟨h1, h2⟩
    · rw [hs3 z, hb]
      constructor
      · rintro (⟨a, _⟩ | ⟨_, a⟩)
        · exact .inl a
        · exact .inr a
      · rintro (a | a)
        · by_cases e : z = x
          · exact .inr ⟨rfl, e⟩
          · exact .inl ⟨a, e⟩
        · exact .inr ⟨rfl, a⟩
    · refine Ok.bind (app_ok (Q := fun r => r = s.1 ++ [x]) (by simp; unfold big; omega) (by decide) rfl) fun r hr => ?_
      subst hr
      have hs4 : ∀ z, z ∈ s.1 ↔ z ∈ l ∧ z ≠ x := fun z => by rw [hs3 z, hb]; simp
      refine Ok.pure ⟨⟨?_, fun z hz => ?_⟩, fun z => ?_⟩
      · rw [List.nodup_append]
        refine ⟨hs2, by simp, fun a ha c hc => ?_⟩
        simp at hc; subst hc
        rintro rfl
        exact ((hs4 a).1 ha).2 rfl
      · simp only [List.mem_append, List.mem_singleton] at hz
        rcases hz with hz | hz
        · exact hin z ((hs4 z).1 hz).1
        · rw [hz]; exact ⟨h1, h2⟩
      · simp only [List.mem_append, List.mem_singleton]
        rw [hs4 z]
        constructor
        · rintro (⟨a, _⟩ | a)
          · exact .inl a
          · exact .inr a
        · rintro (a | a)
          · by_cases e : z = x
            · exact .inr e
            · exact .inl ⟨a, e⟩
          · exact .inr a

theorem r18_closure_ok (hk : 1000 ≤ k) {N : List (List UInt8)} (hN : N.length ≤ 20) {l : List GLink} (h : LinksB N l) : Ok (Fr18_closure k l) (LinksB N) := by
  unfold Fr18_closure
  have hNN : N.length * N.length ≤ 400 := Nat.mul_le_mul hN hN
  refine loopN_ok (LinksB N) (fun s => 401 - s.length) (fun _ => False) (LinksB N) h (by omega) (fun s hs => ?_) (fun r hr => Ok.pure hr) (fun s hs => hs.elim)
  unfold Fr18_closure.b24
  refine loopL_okc (fun _ m => LinksB N m ∧ ∀ y ∈ s, y ∈ m) (fun _ => False) ⟨hs, fun _ h => h⟩ (fun i x m hx ⟨hm, hsub⟩ => ?_) (fun r hr => hr.elim) (fun m ⟨hm, hsub⟩ => ?_)
  · unfold Fr18_closure.b23
    have hxs : x ∈ s := List.mem_of_getElem? hx
    refine loopL_okc (fun _ m => LinksB N m ∧ ∀ y ∈ s, y ∈ m) (fun _ => False) ⟨hm, hsub⟩ (fun j y m hy ⟨hm, hsub⟩ => ?_) (fun r hr => hr.elim) (fun m hm => Ok.pure hm)
    unfold Fr18_closure.b22
    have hys : y ∈ s := List.mem_of_getElem? hy
    refine Ok.ite (fun _ => ?_) (fun _ => Ok.pure ⟨hm, hsub⟩)
    refine Ok.bind (r18_insert_ok hN hm (hs.2 x hxs).1 (hs.2 y hys).2) fun r ⟨hr1, hr2⟩ => ?_
    exact Ok.pure ⟨hr1, fun z hz => (hr2 z).2 (.inl (hsub z hz))⟩
  · refine Ok.ite (fun _ => Ok.pure hm) (fun hb => ?_)
    simp only [decide_eq_false_iff_not] at hb
    refine Ok.pure ⟨hm, ?_⟩
    have h1 := nodup_len hs.1 hsub
    have h2 := hm.len
    omega

theorem r18_Precedes_ok (l : List GLink) (a b : List UInt8) : Ok (Fr18_Precedes k l a b) (fun _ => True) := by
  unfold Fr18_Precedes
  refine loopL_okc (fun _ _ => True) (fun _ => True) trivial (fun i x s _ _ => ?_) (fun r _ => Ok.pure trivial) (fun _ _ => Ok.pure trivial)
  unfold Fr18_Precedes.b1 Fr18_Precedes.j3
  refine Ok.ite (fun _ => Ok.ite (fun _ => Ok.pure trivial) (fun _ => Ok.pure trivial)) (fun _ => Ok.ite (fun _ => Ok.pure trivial) (fun _ => Ok.pure trivial))
theorem r18_Valid_ok {l : List GLink} (hl : l.length ≤ 1000) : Ok (Fr18_Valid k l) (fun _ => True) := by
  unfold Fr18_Valid
  refine loopL_okc (fun _ _ => True) (fun _ => True) trivial (fun i x s hx _ => ?_) (fun r _ => Ok.pure trivial) (fun _ _ => Ok.pure trivial)
  have hil := lt_of_idx hx
  have j13 : ∀ b, Ok (Fr18_Valid.j13 k l x b) (SP (fun _ => True) (fun _ => False) (fun _ => True)) := by
    intro b
    unfold Fr18_Valid.j13
    refine Ok.ite (fun _ => Ok.pure trivial) (fun _ => ?_)
    refine loopL_okc (fun _ _ => True) (fun _ => True) trivial (fun j y s _ _ => ?_) (fun r _ => Ok.pure trivial) (fun _ _ => Ok.pure trivial)
    unfold Fr18_Valid.b4 Fr18_Valid.j15
    refine Ok.ite (fun _ => ?_) (fun _ => Ok.ite (fun _ => Ok.pure trivial) (fun _ => Ok.pure trivial))
    exact Ok.bind (r18_Precedes_ok l _ _) fun p _ => Ok.ite (fun _ => Ok.pure trivial) (fun _ => Ok.pure trivial)
  unfold Fr18_Valid.b5
  refine Ok.ite (fun _ => j13 _) (fun _ => Ok.ite (fun hb => ?_) (fun _ => j13 _))
  simp only [decide_eq_true_eq] at hb
  rw [w64_in (by omega) (by omega)]
  refine Ok.bind (idx_ok (Q := fun _ => True) (by omega) (by omega) fun _ _ => trivial) fun y _ => ?_
  obtain ⟨r, hr⟩ := before_ok (k := k) y x
  rw [bind_eq hr]
  exact j13 _
/-- A trigger's priorities are added to an order. -/
theorem r18_Add_ok (hk : 1000 ≤ k) {N : List (List UInt8)} (hN : N.length ≤ 20) {l : List GLink} {n : List UInt8} {a b : List (List UInt8)} (h : LinksB N l) (hn : n ∈ N) (ha : ∀ x ∈ a, x ∈ N) (hb : ∀ x ∈ b, x ∈ N) :
    Ok (Fr18_Add k l n a b) (fun r => LinksB N r.1) := by
  have hNN : N.length * N.length ≤ 400 := Nat.mul_le_mul hN hN
  have e : LinksB N [] := ⟨by simp, by simp⟩
  unfold Fr18_Add
  refine Ok.bind (r18_Valid_ok (by have := h.len; omega)) fun v _ => Ok.ite (fun _ => ?_) (fun _ => Ok.pure e)
  refine Ok.bind (app_ok (Q := fun r => r = l) (by simp; have := h.len; unfold big; omega) (by decide) (by simp)) fun l7 hl7 => ?_
  subst hl7
  refine loopL_okc (fun _ m => LinksB N m) (fun _ => False) h (fun i x m hx hm => ?_) (fun r hr => hr.elim) (fun m hm => ?_)
  · unfold Fr18_Add.b1
    exact Ok.bind (r18_insert_ok hN hm hn (ha x (List.mem_of_getElem? hx))) fun r hr => Ok.pure hr.1
  · refine loopL_okc (fun _ m => LinksB N m) (fun _ => False) hm (fun i x m hx hm => ?_) (fun r hr => hr.elim) (fun m hm => ?_)
    · unfold Fr18_Add.b3
      exact Ok.bind (r18_insert_ok hN hm (hb x (List.mem_of_getElem? hx)) hn) fun r hr => Ok.pure hr.1
    · refine Ok.bind (r18_closure_ok hk hN hm) fun c hc => ?_
      refine Ok.bind (r18_Valid_ok (by have := hc.len; omega)) fun v _ => Ok.ite (fun _ => Ok.pure hc) (fun _ => Ok.pure e)
end Go.Proofs.YtiojahpkaogigaaGreatDoor
