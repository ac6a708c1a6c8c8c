/- The plain law of EventCounts: the triggers of a tape. Conditions: none. -/
import Derived.Test.YtiojahpkaogigaaGreatDoorP9
set_option linter.unusedSimpArgs false
set_option linter.unusedVariables false
namespace Go.Proofs.YtiojahpkaogigaaGreatDoor
open Go Go.Ab Go.Pl
variable {k : Nat}

theorem ValidTrigger_ok (hk : 1000 ≤ k) {N : List (List UInt8)} {x : GTrigger} (h : TrigB N x) : Ok (Fr11_ValidTrigger k x) Tt := by
  obtain ⟨h1, h2, h3, h4, h5, h6, h7, h8, h9⟩ := h
  have j12 : ∀ b, Ok (Fr11_ValidTrigger.j12 b) Tt := fun b => Ok.pure trivial
  have j3 : ∀ b, Ok (Fr11_ValidTrigger.j3 k x b) Tt := by
    intro b; unfold Fr11_ValidTrigger.j3
    refine Ok.ite (fun _ => Ok.pure trivial) (fun _ => ?_)
    refine loopL_okc (fun _ _ => True) Tt trivial (fun i y z hx _ => ?_) (fun r hr => Ok.pure trivial) (fun z _ => ?_)
    · have j7 : ∀ b, Ok (Fr11_ValidTrigger.j7 b) (SP Tt (fun _ => False) Tt) := by
        intro b; unfold Fr11_ValidTrigger.j7
        exact Ok.ite (fun _ => Ok.pure trivial) (fun _ => Ok.pure trivial)
      unfold Fr11_ValidTrigger.b1
      refine Ok.bind (ValidName_ok hk) fun _ _ => Ok.ite (fun _ => Ok.bind (ValidName_ok hk) fun _ _ => Ok.ite (fun _ => Ok.ite (fun _ => j7 _) (fun _ => j7 _)) (fun _ => j7 _)) (fun _ => j7 _)
    · refine loopL_okc (fun _ _ => True) Tt trivial (fun i y z hx _ => ?_) (fun r hr => Ok.pure trivial) (fun z _ => Ok.ite (fun _ => j12 _) (fun _ => j12 _))
      have j11 : ∀ b, Ok (Fr11_ValidTrigger.j11 b) (SP Tt (fun _ => False) Tt) := by
        intro b; unfold Fr11_ValidTrigger.j11
        exact Ok.ite (fun _ => Ok.pure trivial) (fun _ => Ok.pure trivial)
      unfold Fr11_ValidTrigger.b3
      refine Ok.bind (ValidAction_ok hk (h9 y (List.mem_of_getElem? hx))) fun _ _ => ?_
      repeat' first
        | exact j11 _
        | refine Ok.ite (fun _ => ?_) (fun _ => ?_)
  have j1 : ∀ b, Ok (Fr11_ValidTrigger.j1 k x b) Tt := by
    intro b; unfold Fr11_ValidTrigger.j1
    repeat' first
      | exact Ok.pure trivial
      | exact j3 _
      | refine Ok.ite (fun _ => ?_) (fun _ => ?_)
      | refine Ok.bind (names_ok hk) fun _ _ => ?_
      | refine Ok.bind (all_ok hk (h7.le (by omega))) fun _ _ => ?_
  unfold Fr11_ValidTrigger
  repeat' first
    | exact j1 _
    | refine Ok.ite (fun _ => ?_) (fun _ => ?_)
    | refine Ok.bind (ValidName_ok hk) fun _ _ => ?_
theorem checkAction_ok (hk : 1000 ≤ k) {a : GAction} {s : GSchema} {fs : List GFrame} {ts : List GTable} (hf : FramesB 80 fs) (ht : TabsB ts) (h : ActionB a) : Ok (Fr17_checkAction k a s fs ts) Tt := by
  unfold Fr17_checkAction
  refine Ok.ite (fun _ => Ok.pure trivial) (fun _ => Ok.ite (fun hb => ?_) (fun _ => Ok.bind (r16_Check_ok hk hf ht h) fun _ _ => Ok.pure trivial))
  have h5 := h.2.2.2.2 (by simpa using hb)
  refine Ok.bind (pick_ok (Q := Tt) ⟨by omega, by omega⟩ fun _ _ => trivial) fun x _ => ?_
  rw [bind_eq r4_Find_eq]
  refine Ok.ite (fun _ => Ok.pure trivial) (fun hb => ?_)
  simp only [decide_eq_false_iff_not] at hb
  refine Ok.bind (pick_ok (Q := fun y => ExprB 31 y.Expr) ⟨by omega, by omega⟩ h.2.2.1.2) fun y hy => ?_
  refine Ok.bind (Type_ok hk (hf.le (by omega)) ht (hy.le (by omega))) fun _ _ => Ok.ite (fun _ => ?_) (fun _ => Ok.pure trivial)
  exact Ok.bind (pick_ok (Q := Tt) (colI_lt hb) fun _ _ => trivial) fun _ _ => Ok.bind Assignable_ok fun _ _ => Ok.ite (fun _ => Ok.pure trivial) (fun _ => Ok.pure trivial)
theorem r17_Check_ok (hk : 1000 ≤ k) {N : List (List UInt8)} {x : GTrigger} {ts : List GTable} (h : TrigB N x) (ht : ts.length ≤ 3 ∧ ∀ t ∈ ts, ColsB t.Schema.Columns) : Ok (Fr17_Check k x ts) Tt := by
  have ht' : TabsB ts := ⟨by omega, ht.2⟩
  unfold Fr17_Check
  refine Ok.bind (ValidTrigger_ok hk h) fun _ _ => Ok.ite (fun _ => ?_) (fun _ => Ok.pure trivial)
  refine Ok.bind (Source_ok ht') fun s hs => Ok.ite (fun _ => ?_) (fun _ => Ok.pure trivial)
  refine loopL_okc (fun _ _ => True) Tt trivial (fun i y z hx _ => ?_) (fun r hr => Ok.pure trivial) (fun z _ => ?_)
  · unfold Fr17_Check.b1
    rw [bind_eq r4_Find_eq]
    exact Ok.ite (fun _ => Ok.pure trivial) (fun _ => Ok.pure trivial)
  refine loopL_okc (fun _ _ => True) Tt trivial (fun i y z hx _ => ?_) (fun r hr => Ok.pure trivial) (fun z _ => ?_)
  · have j7 : ∀ (s : GSchema × Bool) b, (b = false → ¬ colI s.1 y.Column < 0) → Ok (Fr17_Check.j7 s (colI s.1 y.Column) b) (SP Tt (fun _ => False) Tt) := by
      intro s b hb; unfold Fr17_Check.j7
      refine Ok.ite (fun _ => Ok.pure trivial) (fun h => ?_)
      exact Ok.bind (pick_ok (Q := Tt) (colI_lt (hb h)) fun _ _ => trivial) fun _ _ => Ok.ite (fun _ => Ok.pure trivial) (fun _ => Ok.pure trivial)
    unfold Fr17_Check.b3
    refine Ok.bind (Source_ok ht') fun s hs => ?_
    rw [bind_eq r4_Find_eq]
    exact Ok.ite (fun _ => j7 _ _ (fun h => by simpa using h)) (fun _ => j7 _ _ (fun h => by cases h))
  refine Ok.bind (Frames_ok hs) fun f hf => Ok.bind (Transitions_ok hs) fun l hl => ?_
  refine Ok.bind (Q := TabsB) ?_ fun a ha => ?_
  · unfold Fr17_All
    have h1 := ht.1
    have h2 := hl.1
    rw [bind_eq (app_eq (by simp; unfold big; omega) (by decide)), bind_eq (app_eq (by simp; unfold big; omega) (by decide))]
    refine Ok.pure ⟨by simp; omega, fun t htm => ?_⟩
    simp only [List.nil_append, List.mem_append] at htm
    rcases htm with htm | htm
    · exact ht.2 t htm
    · exact hl.2 t htm
  · refine Ok.bind (Condition_ok hk (hf.le (by omega)) ha (h.2.2.2.2.2.2.1.le (by omega))) fun _ _ => Ok.ite (fun _ => ?_) (fun _ => Ok.pure trivial)
    refine loopL_okc (fun _ _ => True) Tt trivial (fun i y z hx _ => ?_) (fun r hr => Ok.pure trivial) (fun z _ => Ok.pure trivial)
    unfold Fr17_Check.b5
    exact Ok.bind (checkAction_ok hk (hf.le (by omega)) ha (h.2.2.2.2.2.2.2.2 y (List.mem_of_getElem? hx))) fun _ _ => Ok.ite (fun _ => Ok.pure trivial) (fun _ => Ok.pure trivial)

/-- What the law needs of the triggers. -/
def TrigsB (l : List GTrigger) : Prop := l.map (·.Name) = G0l.take l.length ∧ l.length ≤ 6 ∧ ∀ x ∈ l, x.Table ∈ tabN ∧ 1 ≤ x.Event ∧ x.Event ≤ 3
theorem Triggers_ok (hk : 1000 ≤ k) {t : GTape} (ht : TOK t) : Ok (Fw_Tape_Triggers k t 6) (fun r => TrigsB r.1 ∧ TOK r.2.2) := by
  unfold Fw_Tape_Triggers
  rw [w64_in (by omega) (by omega)]
  refine Ok.bind (Next_ok (by omega) (by omega) ht) fun p hp => ?_
  have hN : G0l.length ≤ 20 := by decide
  refine loopN_ok (fun z => (0 ≤ z.2.2.1 ∧ z.1.length + z.2.2.1 ≤ 6) ∧ TrigsB z.1 ∧ LinksB G0l z.2.1 ∧ TOK z.2.2.2) (fun z => z.2.2.1.toNat) (fun z => TrigsB z.1 ∧ TOK z.2.2.2) (fun _ => False) ⟨⟨by simp only; omega, by simp only [List.length_nil]; omega⟩, ⟨rfl, by simp, by simp⟩, ⟨by simp, by simp⟩, hp.2⟩ (by simp only; omega) (fun z ⟨⟨z0, z1⟩, z2, z3, z4⟩ => ?_) (fun r hr => hr.elim) (fun z hz => Ok.pure hz)
  unfold Fw_Tape_Triggers.b1
  refine Ok.ite (fun hb => ?_) (fun hb => Ok.pure ⟨z2, z4⟩)
  simp only [decide_eq_true_eq] at hb
  have hlen : z.1.length < G0l.length := by have : G0l.length = 8 := rfl; omega
  refine Ok.bind (Q := fun n => n = G0l[z.1.length]) (Ok.of (idx_eq (List.getElem?_eq_getElem hlen)) rfl) fun n hn => ?_
  have hnm : n ∈ G0l := by rw [hn]; exact List.getElem_mem hlen
  refine Ok.bind (Trigger_ok hk (by omega) z4) fun x ⟨⟨hx, hxn⟩, hxt⟩ => ?_
  refine Ok.bind (tablesOf_ok hk) fun ts hts => Ok.bind (r17_Check_ok hk hx hts) fun _ _ => ?_
  have hsub : ∀ y ∈ z.1.map (·.Name), y ∈ G0l := fun y hy => by rw [z2.1] at hy; exact List.mem_of_mem_take hy
  have j5 : ∀ (q : List GTrigger × List GLink × GTape), TrigsB q.1 → q.1.length ≤ z.1.length + 1 → LinksB G0l q.2.1 → TOK q.2.2 → Ok (Fw_Tape_Triggers.j5 z q) (SP (fun z' : List GTrigger × List GLink × Int × GTape => ((0 ≤ z'.2.2.1 ∧ z'.1.length + z'.2.2.1 ≤ 6) ∧ TrigsB z'.1 ∧ LinksB G0l z'.2.1 ∧ TOK z'.2.2.2) ∧ z'.2.2.1.toNat < z.2.2.1.toNat) (fun z => TrigsB z.1 ∧ TOK z.2.2.2) (fun _ : List GTrigger × List GLink × GTape => False)) := by
    intro q h1 h2 h3 h4
    unfold Fw_Tape_Triggers.j5
    rw [w64_in (by omega) (by omega)]
    exact Ok.pure ⟨⟨⟨by simp only; omega, by simp only; omega⟩, h1, h3, h4⟩, by simp only; omega⟩
  refine Ok.ite (fun _ => ?_) (fun _ => j5 _ z2 (by simp) z3 hxt)
  refine Ok.bind (r18_Add_ok hk hN z3 (by rw [hxn]; exact hnm) (fun y hy => hsub y (hx.2.2.2.1.2 y hy)) (fun y hy => hsub y (hx.2.2.2.2.1.2 y hy))) fun o ho => ?_
  refine Ok.ite (fun _ => ?_) (fun _ => j5 _ z2 (by simp) z3 hxt)
  rw [bind_eq (app_eq (by simp; unfold big; omega) (by decide))]
  refine j5 _ ⟨?_, by simp; omega, fun y hy => ?_⟩ (by simp) ho hxt
  · simp only [List.map_append, List.map_cons, List.map_nil, List.length_append, List.length_cons, List.length_nil]
    rw [z2.1, List.take_succ_eq_append_getElem hlen, hxn, hn]
  · rcases List.mem_append.1 hy with hy | hy
    · exact z2.2.2 y hy
    · rw [List.mem_singleton.1 hy]; exact ⟨hx.1, hx.2.1.1, hx.2.1.2⟩
end Go.Proofs.YtiojahpkaogigaaGreatDoor
