/- The plain law of EventCounts: a store and its differences out of the tape. Conditions: none. -/
import Derived.Test.YtiojahpkaogigaaGreatDoorP11
set_option linter.unusedSimpArgs false
set_option linter.unusedVariables false
namespace Go.Proofs.YtiojahpkaogigaaGreatDoor
open Go Go.Ab Go.Pl
variable {k : Nat}

theorem Row_ok {t : GTape} {s : GSchema} (hs : s.Columns.length ≤ 10) (ht : TOK t) : Ok (Fw_Tape_Row k t s) (fun r => r.1.length = s.Columns.length ∧ TOK r.2) := by
  unfold Fw_Tape_Row
  refine loopL_okc (fun i z => z.1.length = i ∧ TOK z.2) (fun _ => False) ⟨rfl, ht⟩ (fun i c z hc ⟨g1, g2⟩ => ?_) (fun r hr => hr.elim) (fun z hz => Ok.pure hz)
  have hi := lt_of_idx hc
  have j33 : ∀ q : GTape × Int × Int × List UInt8, TOK q.1 → Ok (Fw_Tape_Row.j33 z q) (SP (fun z : List GValue × GTape => z.1.length = i + 1 ∧ TOK z.2) (fun _ => False) (fun _ : List GValue × GTape => False)) := by
    intro q hq; unfold Fw_Tape_Row.j33
    rw [bind_eq (app_eq (by simp; unfold big; omega) (by decide))]
    exact Ok.pure ⟨by simp; omega, hq⟩
  unfold Fw_Tape_Row.b1
  refine Ok.bind (Typed_ok g2) fun p hp => ?_
  have j34 : ∀ (q : GTape × Int) (r : Bool × GTape), TOK r.2 → Ok (Fw_Tape_Row.j34 z p q r) (SP (fun z : List GValue × GTape => z.1.length = i + 1 ∧ TOK z.2) (fun _ => False) (fun _ : List GValue × GTape => False)) := by
    intro q r hr; unfold Fw_Tape_Row.j34
    exact Ok.ite (fun _ => j33 _ hr) (fun _ => j33 _ hr)
  have j31 : ∀ (q : GTape × Int), TOK q.1 → Ok (Fw_Tape_Row.j31 k z c p q) (SP (fun z : List GValue × GTape => z.1.length = i + 1 ∧ TOK z.2) (fun _ => False) (fun _ : List GValue × GTape => False)) := by
    intro q hq; unfold Fw_Tape_Row.j31
    exact Ok.ite (fun _ => j34 _ _ hq) (fun _ => Ok.bind (Bool_ok (by omega) (by omega) hq) fun b hb => j34 _ _ hb)
  have j35 : ∀ (q : Bool × GTape), TOK q.2 → Ok (Fw_Tape_Row.j35 k z c p q) (SP (fun z : List GValue × GTape => z.1.length = i + 1 ∧ TOK z.2) (fun _ => False) (fun _ : List GValue × GTape => False)) := by
    intro q hq; unfold Fw_Tape_Row.j35
    exact Ok.ite (fun _ => Ok.bind (Small_ok hq) fun b hb => j31 _ hb.2) (fun _ => j31 _ hq)
  exact Ok.ite (fun _ => Ok.bind (Bool_ok (by omega) (by omega) hp) fun b hb => j35 _ hb) (fun _ => j35 _ hp)

theorem TableOf_ok (hk : 1000 ≤ k) {t : GTape} {s : GSchema} (hs : s ∈ schL) (ht : TOK t) : Ok (Fw_Tape_TableOf k t s 5) (fun r => (TabW 10 r.1 ∧ r.1.Schema = s) ∧ TOK r.2) := by
  have hc := schL_cols s hs
  unfold Fw_Tape_TableOf
  refine Ok.bind (Next_ok (by omega) (by omega) ht) fun p1 hp1 => ?_
  refine loopL_okc (fun i z => z < s.Columns.length) (fun _ => False) (by omega) (fun i c z hcx g => ?_) (fun r hr => hr.elim) (fun key hkey => ?_)
  · have hi := lt_of_idx hcx
    unfold Fw_Tape_TableOf.b1
    exact Ok.ite (fun _ => Ok.pure (show (i : Int) < _ by omega)) (fun _ => Ok.pure g)
  rw [w64_in (n := 5 + 1) (by omega) (by omega)]
  refine Ok.bind (Next_ok (by omega) (by omega) hp1.2) fun p2 hp2 => ?_
  refine loopN_ok (fun z => (0 ≤ z.1 ∧ z.1 + z.2.2.2.length ≤ 6) ∧ TOK z.2.1 ∧ ∀ r ∈ z.2.2.2, r.Values.length = s.Columns.length) (fun z => z.1.toNat) (fun z => TOK z.2.1 ∧ z.2.2.2.length ≤ 10 ∧ ∀ r ∈ z.2.2.2, r.Values.length = s.Columns.length) (fun _ => False) ⟨⟨by simp only; omega, by simp only [List.length_nil]; omega⟩, hp2.2, by simp⟩ (by simp only; omega) (fun z ⟨⟨z0, z1⟩, z2, z3⟩ => ?_) (fun r hr => hr.elim) (fun z hz => Ok.pure ⟨⟨⟨hs, hz.2.1, hz.2.2⟩, rfl⟩, hz.1⟩)
  unfold Fw_Tape_TableOf.b27
  refine Ok.ite (fun hb => ?_) (fun hb => Ok.pure ⟨z2, by simp only; omega, z3⟩)
  simp only [decide_eq_true_eq] at hb
  refine Ok.bind (Row_ok (by omega) z2) fun r hr => ?_
  refine loopL_okc (fun _ _ => True) (fun _ => False) trivial (fun i y w hy _ => ?_) (fun r hr => hr.elim) (fun w _ => ?_)
  · have hyl := z3 y (List.mem_of_getElem? hy)
    have hrl := hr.1
    unfold Fw_Tape_TableOf.b26
    refine Ok.ite (fun _ => Ok.ite (fun _ => Ok.pure trivial) (fun hb => ?_)) (fun _ => Ok.pure trivial)
    simp only [decide_eq_false_iff_not] at hb
    exact Ok.bind (pick_ok (Q := Tt) ⟨by omega, by omega⟩ fun _ _ => trivial) fun _ _ => Ok.bind (pick_ok (Q := Tt) ⟨by omega, by omega⟩ fun _ _ => trivial) fun _ _ => Ok.pure trivial
  · have j7 : ∀ q : List GRow, q.length ≤ z.2.2.2.length + 1 → (∀ r ∈ q, r.Values.length = s.Columns.length) → Ok (Fw_Tape_TableOf.j7 k z r q) (SP (fun z' : Int × GTape × Int × List GRow => ((0 ≤ z'.1 ∧ z'.1 + z'.2.2.2.length ≤ 6) ∧ TOK z'.2.1 ∧ ∀ r ∈ z'.2.2.2, r.Values.length = s.Columns.length) ∧ z'.1.toNat < z.1.toNat) (fun z => TOK z.2.1 ∧ z.2.2.2.length ≤ 10 ∧ ∀ r ∈ z.2.2.2, r.Values.length = s.Columns.length) (fun _ : GTable × GTape => False)) := by
      intro q h1 h2; unfold Fw_Tape_TableOf.j7
      refine Ok.bind (Next_ok (by omega) (by omega) hr.2) fun p3 hp3 => Ok.bind (Next_ok (by omega) (by omega) hp3.2) fun p4 hp4 => ?_
      rw [w64_in (n := z.1 - 1) (by omega) (by omega)]
      exact Ok.pure ⟨⟨⟨by simp only; omega, by simp only; omega⟩, hp4.2, h2⟩, by simp only; omega⟩
    refine Ok.ite (fun _ => ?_) (fun _ => j7 _ (by omega) z3)
    rw [bind_eq (app_eq (by simp; unfold big; omega) (by decide))]
    refine j7 _ (by simp) fun x hx => ?_
    rcases List.mem_append.1 hx with hx | hx
    · exact z3 x hx
    · rw [List.mem_singleton.1 hx]; exact hr.1
def StoreW (n : Nat) (l : List GTable) : Prop := l.map (·.Schema) = schL ∧ ∀ t ∈ l, TabW n t
theorem Store_ok (hk : 1000 ≤ k) {t : GTape} (ht : TOK t) : Ok (Fw_Tape_Store k t 5) (fun r => StoreW 10 r.1 ∧ TOK r.2) := by
  have e3 : schL.length = 3 := rfl
  unfold Fw_Tape_Store
  rw [bind_eq Schemas_eq]
  refine loopL_okc (fun i z => (z.1.map (·.Schema) = schL.take i ∧ ∀ t ∈ z.1, TabW 10 t) ∧ TOK z.2) (fun _ => False) ⟨⟨rfl, by simp⟩, ht⟩ (fun i s z hs ⟨⟨g1, g2⟩, g3⟩ => ?_) (fun r hr => hr.elim) (fun z ⟨⟨g1, g2⟩, g3⟩ => Ok.pure ⟨⟨by simpa using g1, g2⟩, g3⟩)
  have hi := lt_of_idx hs
  have hl : z.1.length ≤ 3 := by have := congrArg List.length g1; simp only [List.length_map, List.length_take] at this; omega
  have htk : schL.take (i + 1) = schL.take i ++ [s] := by rw [List.take_succ_eq_append_getElem hi]; congr 1; rw [List.getElem?_eq_getElem hi] at hs; simpa using hs
  unfold Fw_Tape_Store.b1
  refine Ok.bind (TableOf_ok hk (List.mem_of_getElem? hs) g3) fun p hp => ?_
  rw [bind_eq (app_eq (by simp; unfold big; omega) (by decide))]
  refine Ok.pure ⟨⟨?_, fun x hx => ?_⟩, hp.2⟩
  · rw [htk, List.map_append, g1]; simp [hp.1.2]
  · rcases List.mem_append.1 hx with hx | hx
    · exact g2 x hx
    · rw [List.mem_singleton.1 hx]; exact hp.1.1

theorem ChangeOf_ok (hk : 1000 ≤ k) {t : GTape} {b : GTable} (hb : TabW 10 b) (ht : TOK t) : Ok (Fw_Tape_ChangeOf k t b) (fun r => ChangeB b.Schema.Columns.length r.1 ∧ TOK r.2) := by
  have hc := hb.cols
  have hl := hb.2.1
  unfold Fw_Tape_ChangeOf
  refine loopL_okc (fun i z => TOK z.1 ∧ z.2.1.length ≤ i ∧ PairsW b.Schema.Columns.length i z.2.2) (fun _ => False) ⟨ht, by simp, by simp, by simp⟩ (fun i x z hx ⟨g1, g2, g3⟩ => ?_) (fun r hr => hr.elim) (fun z ⟨g1, g2, g3⟩ => ?_)
  · have hi := lt_of_idx hx
    have hxl := hb.2.2 x (List.mem_of_getElem? hx)
    have g3l := g3.1
    have j17 : ∀ q : List GValue × GTape, q.1.length = b.Schema.Columns.length → TOK q.2 → Ok (Fw_Tape_ChangeOf.j17 z x q) (SP (fun z : GTape × List Int × List GPair => TOK z.1 ∧ z.2.1.length ≤ i + 1 ∧ PairsW b.Schema.Columns.length (i + 1) z.2.2) (fun _ => False) (fun _ : GChange × GTape => False)) := by
      intro q h1 h2; unfold Fw_Tape_ChangeOf.j17
      rw [bind_eq (app_eq (by simp; unfold big; omega) (by decide)), bind_eq (app_eq (by simp; unfold big; omega) (by decide))]
      refine Ok.pure ⟨h2, by simp only; omega, by simp; omega, fun y hy => ?_⟩
      rcases List.mem_append.1 hy with hy | hy
      · exact g3.2 y hy
      · rw [List.mem_singleton.1 hy]; exact ⟨by simpa using hxl, h1⟩
    have j16 : ∀ q : List GValue × GTape, q.1.length = b.Schema.Columns.length → TOK q.2 → Ok (Fw_Tape_ChangeOf.j16 k z x q) (SP (fun z : GTape × List Int × List GPair => TOK z.1 ∧ z.2.1.length ≤ i + 1 ∧ PairsW b.Schema.Columns.length (i + 1) z.2.2) (fun _ => False) (fun _ : GChange × GTape => False)) := by
      intro q h1 h2; unfold Fw_Tape_ChangeOf.j16
      refine Ok.bind (Bool_ok (by omega) (by omega) h2) fun p hp => Ok.ite (fun _ => ?_) (fun _ => j17 _ h1 hp)
      refine Ok.bind (Next_ok (by omega) (by omega) hp) fun n hn => Ok.bind (Value_ok hn.2) fun v hv => Ok.bind (pick_ok (Q := Tt) hn.1 fun _ _ => trivial) fun _ _ => ?_
      exact j17 _ (by simpa using h1) hv
    have j15 : ∀ q : List GValue × GTape, q.1.length = b.Schema.Columns.length → TOK q.2 → Ok (Fw_Tape_ChangeOf.j15 k z x q) (SP (fun z : GTape × List Int × List GPair => TOK z.1 ∧ z.2.1.length ≤ i + 1 ∧ PairsW b.Schema.Columns.length (i + 1) z.2.2) (fun _ => False) (fun _ : GChange × GTape => False)) := by
      intro q h1 h2; unfold Fw_Tape_ChangeOf.j15
      refine Ok.bind (Bool_ok (by omega) (by omega) h2) fun p hp => Ok.ite (fun _ => ?_) (fun _ => j16 _ h1 hp)
      rw [bind_eq (app_eq (by simp; unfold big; omega) (by decide))]
      exact j16 _ (by simpa using hxl) hp
    unfold Fw_Tape_ChangeOf.b1
    refine Ok.bind (Next_ok (by omega) (by omega) g1) fun p hp => Ok.ite (fun _ => ?_) (fun _ => Ok.ite (fun _ => ?_) (fun _ => Ok.pure ⟨hp.2, by simp only; omega, by simp only; omega, g3.2⟩))
    · rw [bind_eq (app_eq (by simp; unfold big; omega) (by decide))]
      exact Ok.pure ⟨hp.2, by simp; omega, by simp only; omega, g3.2⟩
    · refine Ok.bind (Row_ok (by omega) hp.2) fun r hr => Ok.bind (Bool_ok (by omega) (by omega) hr.2) fun w hw => Ok.ite (fun _ => ?_) (fun _ => j15 _ hr.1 hw)
      refine Ok.bind (pick_ok (Q := Tt) ⟨by omega, by omega⟩ fun _ _ => trivial) fun _ _ => Ok.bind (pick_ok (Q := Tt) ⟨by omega, by omega⟩ fun _ _ => trivial) fun _ _ => ?_
      exact j15 _ (by simpa using hr.1) hw
  · refine Ok.bind (Next_ok (by omega) (by omega) g1) fun p hp => ?_
    refine loopN_ok (fun z => (0 ≤ z.1 ∧ z.1 + z.2.2.length ≤ 4) ∧ TOK z.2.1 ∧ ∀ r ∈ z.2.2, r.length = b.Schema.Columns.length) (fun z => z.1.toNat) (fun z => TOK z.2.1 ∧ z.2.2.length ≤ 10 ∧ ∀ r ∈ z.2.2, r.length = b.Schema.Columns.length) (fun _ => False) ⟨⟨by simp only; omega, by simp only [List.length_nil]; omega⟩, hp.2, by simp⟩ (by simp only; omega) (fun w ⟨⟨z0, z1⟩, z2, z3⟩ => ?_) (fun r hr => hr.elim) (fun w hw => Ok.pure ⟨⟨⟨Nat.le_trans hw.2.1 (by omega), hw.2.2⟩, Nat.le_trans g2 (by omega), Nat.le_trans g3.1 (by omega), g3.2⟩, hw.1⟩)
    unfold Fw_Tape_ChangeOf.b3
    refine Ok.ite (fun hb => ?_) (fun hb => Ok.pure ⟨z2, by simp only; omega, z3⟩)
    simp only [decide_eq_true_eq] at hb
    have j29 : ∀ q : List GValue × GTape, q.1.length = b.Schema.Columns.length → TOK q.2 → Ok (Fw_Tape_ChangeOf.j29 w q) (SP (fun z' : Int × GTape × List (List GValue) => ((0 ≤ z'.1 ∧ z'.1 + z'.2.2.length ≤ 4) ∧ TOK z'.2.1 ∧ ∀ r ∈ z'.2.2, r.length = b.Schema.Columns.length) ∧ z'.1.toNat < w.1.toNat) (fun z => TOK z.2.1 ∧ z.2.2.length ≤ 10 ∧ ∀ r ∈ z.2.2, r.length = b.Schema.Columns.length) (fun _ : GChange × GTape => False)) := by
      intro q h1 h2; unfold Fw_Tape_ChangeOf.j29
      rw [bind_eq (app_eq (by simp; unfold big; omega) (by decide)), w64_in (by omega) (by omega)]
      refine Ok.pure ⟨⟨⟨by simp only; omega, by simp; omega⟩, h2, fun x hx => ?_⟩, by simp only; omega⟩
      rcases List.mem_append.1 hx with hx | hx
      · exact z3 x hx
      · rw [List.mem_singleton.1 hx]; exact h1
    refine Ok.bind (Row_ok (by omega) z2) fun r hr => Ok.bind (Bool_ok (by omega) (by omega) hr.2) fun v hv => Ok.ite (fun _ => ?_) (fun _ => j29 _ hr.1 hv)
    have hrl := hr.1
    refine Ok.bind (Next_ok (by omega) (by omega) hv) fun n hn => Ok.bind (Value_ok hn.2) fun v hv => Ok.bind (pick_ok (Q := Tt) hn.1 fun _ _ => trivial) fun _ _ => ?_
    exact j29 _ (by simpa using hrl) hv

/-- Some changes and the differences they make. -/
theorem differences_ok (hk : 1000 ≤ k) {t : GTape} (ht : TOK t) : Ok (Flaw22_differences k t) (fun r => StoreW 60 r.1 ∧ (∀ d ∈ r.2.1, DeltaW d) ∧ (r.2.1.map (·.Table)).Nodup) := by
  have e3 : schL.length = 3 := rfl
  unfold Flaw22_differences
  refine Ok.bind (Store_ok hk ht) fun p hp => ?_
  have hlen : p.1.length = 3 := by have := congrArg List.length hp.1.1; simpa [e3] using this
  rw [bind_eq (app_eq (by simp; unfold big; omega) (by decide))]
  simp only [List.nil_append]
  refine loopL_okc (fun i z => StoreW 60 z.1 ∧ (∀ j, i ≤ j → z.1[j]? = p.1[j]?) ∧ TOK z.2) (fun _ => False) ⟨⟨hp.1.1, fun t ht => (hp.1.2 t ht).le (by omega)⟩, fun _ _ => rfl, hp.2⟩ (fun i y z hy ⟨g1, g2, g3⟩ => ?_) (fun r hr => hr.elim) (fun z ⟨g1, g2, g3⟩ => ?_)
  · have hi := lt_of_idx hy
    have hzy : z.1[i]? = some y := by rw [g2 i (Nat.le_refl i)]; exact hy
    have hyW := hp.1.2 y (List.mem_of_getElem? hy)
    unfold Flaw22_differences.b1
    rw [bind_eq (idx_eq hzy), bind_eq (idx_eq hzy)]
    refine Ok.bind (ChangeOf_ok hk hyW g3) fun c hc => Ok.bind (Apply_ok hk (by omega) hyW hc.1) fun a ha => ?_
    refine Ok.ite (fun hb => ?_) (fun _ => Ok.pure ⟨g1, fun j hj => g2 j (by omega), hc.2⟩)
    rw [bind_eq (idx_eq hzy)]
    obtain ⟨h1, h2⟩ := ha (by simpa using hb)
    have hil : i < z.1.length := lt_of_idx hzy
    have hzi : z.1[i] = y := by rw [List.getElem?_eq_getElem hil] at hzy; exact Option.some.inj hzy
    refine Ok.pure ⟨⟨?_, fun t ht => ?_⟩, fun j hj => ?_, hc.2⟩
    · rw [← g1.1]
      refine List.ext_getElem? fun j => ?_
      simp only [Int.toNat_natCast, List.getElem?_map, List.getElem?_set]
      by_cases e : i = j
      · subst e; simp [hil, hzi, h2]
      · simp [e]
    · rcases List.mem_or_eq_of_mem_set ht with ht | ht
      · exact g1.2 t ht
      · rw [ht]; exact h1.le (by omega)
    · simp only [Int.toNat_natCast]
      rw [List.getElem?_set_ne (by omega)]
      exact g2 j (by omega)
  · have hzl : z.1.length = 3 := by have := congrArg List.length g1.1; simpa [e3] using this
    refine Ok.bind (Deltas_ok hk (fun t ht => (hp.1.2 t ht).le (by omega)) g1.2 (by omega) (by omega)) fun d hd => Ok.pure ⟨g1, hd.1, ?_⟩
    refine hd.2.nodup ?_
    have : p.1.map (·.Schema.Name) = schL.map (·.Name) := by rw [← hp.1.1, List.map_map]; rfl
    rw [this]
    decide
end Go.Proofs.YtiojahpkaogigaaGreatDoor
