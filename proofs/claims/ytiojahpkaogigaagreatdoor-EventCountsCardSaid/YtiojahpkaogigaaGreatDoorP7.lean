/- The plain law of EventCounts: triggers out of the tape. Conditions: none. -/
import Derived.Test.YtiojahpkaogigaaGreatDoorP6
set_option linter.unusedSimpArgs false
set_option linter.unusedVariables false
namespace Go.Proofs.YtiojahpkaogigaaGreatDoor
open Go Go.Ab Go.Pl
variable {k : Nat}

abbrev AQ (r : GAction × GTape) : Prop := ActionB r.1 ∧ TOK r.2
theorem ActionB.sets {a : Int} {n x : List UInt8} {s : List GSet} {w : List GExpr} (hs : s.length ≤ 10 ∧ ∀ y ∈ s, ExprB 31 y.Expr) (hw : ExprsB 31 w) (h5 : a = 5 → 0 < s.length := by simp) : ActionB (.mk a n [] [] s w x) := ⟨⟨by simp, by simp⟩, .nil, hs, hw, h5⟩
theorem sets_one {c : List UInt8} {e : GExpr} (h : ExprB 31 e) : ([GSet.mk c e] : List GSet).length ≤ 10 ∧ ∀ y ∈ [GSet.mk c e], ExprB 31 y.Expr := ⟨by simp, by simpa using h⟩

theorem action_ok (hk : 1000 ≤ k) {t : GTape} {x : GTrigger} {s : GSchema} {p : GPlace} (hs : 2 ≤ s.Columns.length ∧ s.Columns.length ≤ 4) (hp : PlaceB 80 p) (hT : 0 < p.Tables.length) (ht : TOK t) : Ok (Fw_Tape_action k t x s p) AQ := by
  have j7 : ∀ t, TOK t → Ok (Fw_Tape_action.j7 k p t) AQ := fun t ht => Ok.bind (Change_ok hk (by omega) (by omega) hp hT ht) fun r hr => Ok.pure hr
  have j10 : ∀ (q : TX) n (w : TX), QP 29 q → QP 29 w → Ok (Fw_Tape_action.j10 q n w) AQ := by
    intro q n w hq hw
    exact Ok.pure ⟨.sets (sets_one (ExprB.le (d := 30) (ExprB.mk hq.2.1 hq.2.2) (by omega))) (.one (ExprB.le (d := 30) (ExprB.mk hw.2.1 hw.2.2) (by omega))), hw.1⟩
  have j9 : ∀ (q : TX) (r : Int × GTape) n, QP 29 q → TOK r.2 → Ok (Fw_Tape_action.j9 k p q r n) AQ := by
    intro q r n hq hr
    unfold Fw_Tape_action.j9
    refine Ok.bind (Next_ok (by omega) (by omega) hr) fun p1 hp1 => ?_
    refine Ok.bind (pick_ok (Q := fun y => y ∈ tabN) hp1.1 (by decide)) fun y hy => ?_
    refine Ok.bind (Col_ok (d := 19)) fun c1 hc1 => Ok.bind (Col_ok (d := 19)) fun c2 hc2 => Ok.bind (Bin_ok hc1 hc2) fun b hb => ?_
    refine Ok.bind (Bool_ok (by omega) (by omega) hp1.2) fun p2 hp2 => ?_
    refine Ok.ite (fun _ => ?_) (fun _ => j10 _ _ _ hq (.of (d := 20) hb (by omega) hp2))
    rw [bind_eq Schema_eq]
    have hc := worldS_cols hy
    refine Ok.bind (Inside_ok (by omega) hp (show (worldS y).Columns.length ≤ 10 by omega)) fun p5 ⟨hp5, _, _⟩ => ?_
    refine Ok.bind (Expr_ok hk (by omega) (by omega) (hp5.le (by omega)) hp2) fun e he => ?_
    exact Ok.bind (Bin_ok hb (he.1.le (by omega))) fun g hg => j10 _ _ _ hq (.of (d := 21) hg (by omega) he.2)
  have j8 : ∀ (q : TX) (r : Int × GTape) b, QP 29 q → TOK r.2 → Ok (Fw_Tape_action.j8 k x p q r b) AQ := by
    intro q r b hq hr
    unfold Fw_Tape_action.j8
    exact Ok.ite (fun _ => Ok.ite (fun _ => j9 _ _ _ hq hr) (fun _ => j9 _ _ _ hq hr)) (fun _ => j7 _ hr)
  have j3 : ∀ (q : TX), QP 29 q → Ok (Fw_Tape_action.j3 k x p q) AQ := by
    intro q hq
    have hqe : ∀ {a b c d e f g h}, ExprB 30 (GExpr.mk a b c (GValue.mk d e f) g h q.2.2.2.2.2.2.2.2.2.1 q.2.2.2.2.2.2.2.2.2.2) := fun {_ _ _ _ _ _ _ _} => ExprB.mk hq.2.1 hq.2.2
    unfold Fw_Tape_action.j3
    refine Ok.bind (Next_ok (by omega) (by omega) hq.1) fun p1 hp1 => ?_
    refine Ok.ite (fun _ => ?_) (fun _ => ?_)
    · refine Ok.bind (Lit_ok (d := 29)) fun e he => Ok.pure ⟨⟨⟨by simp, fun r hr => ?_⟩, .nil, ⟨by simp, by simp⟩, .nil, fun h => by simp at h⟩, hp1.2⟩
      rw [List.mem_singleton.1 hr]
      exact .two hqe he
    refine Ok.ite (fun _ => ?_) (fun _ => ?_)
    · refine Ok.bind (Next_ok (by omega) (by omega) hp1.2) fun p2 hp2 => Ok.bind (pick_ok (Q := fun _ => True) hp2.1 fun _ _ => trivial) fun y _ => ?_
      refine Ok.bind (Next_ok (by omega) (by omega) hp2.2) fun p3 hp3 => Ok.bind (Next_ok (by omega) (by omega) hp3.2) fun p4 hp4 => ?_
      refine Ok.bind (pick_ok (Q := fun _ => True) hp4.1 fun _ _ => trivial) fun z _ => Ok.bind (Col_ok (d := 11)) fun c hc => ?_
      refine Ok.bind (Next_ok (by omega) (by omega) hp4.2) fun p5 hp5 => ?_
      rw [w64_in (by omega) (by omega)]
      refine Ok.bind (Num_ok hk (d := 10) (by omega) (by omega)) fun e he => Ok.bind (Bin_ok hc he) fun g hg => ?_
      exact Ok.pure ⟨.sets (sets_one (hg.le (by omega))) .nil, hp5.2⟩
    refine Ok.ite (fun _ => ?_) (fun _ => ?_)
    · refine Ok.bind (Next_ok (by omega) (by omega) hp1.2) fun p2 hp2 => Ok.bind (pick_ok (Q := fun _ => True) hp2.1 fun _ _ => trivial) fun y _ => ?_
      refine Ok.bind (Next_ok (by omega) (by omega) hp2.2) fun p3 hp3 => Ok.bind (Col_ok (d := 11)) fun c hc => ?_
      refine Ok.bind (Next_ok (by omega) (by omega) hp3.2) fun p4 hp4 => ?_
      rw [w64_in (n := 1 + p4.1) (by omega) (by omega)]
      refine Ok.bind (Num_ok hk (d := 10) (by omega) (by omega)) fun e he => Ok.bind (Bin_ok hc he) fun g hg => ?_
      refine Ok.bind (Small_ok hp4.2) fun n hn => Ok.bind (Between_ok hk (d := 10) (by omega) (by omega) (by omega) (by omega)) fun b hb => ?_
      exact Ok.pure ⟨.sets (sets_one (hg.le (by omega))) (.one (hb.le (by omega))), hn.2⟩
    refine Ok.ite (fun _ => Ok.ite (fun _ => j8 _ _ _ hq hp1.2) (fun _ => j8 _ _ _ hq hp1.2)) (fun _ => ?_)
    refine Ok.ite (fun _ => ?_) (fun _ => j7 _ hp1.2)
    refine Ok.bind (Table_ok hp1.2) fun n hn => Ok.bind (Col_ok (d := 29)) fun c hc => Ok.bind (Bin_ok hc hqe) fun g hg => ?_
    exact Ok.pure ⟨.sets ⟨by simp, by simp⟩ (.one hg), hn.2⟩
  have j1 : ∀ (q : Bool × GTape), TOK q.2 → Ok (Fw_Tape_action.j1 k x s p q) AQ := by
    intro q hq
    unfold Fw_Tape_action.j1
    refine Ok.ite (fun _ => Ok.bind (Word_ok hq) fun w hw => Ok.pure ⟨.sets ⟨by simp, by simp⟩ .nil, hw⟩) (fun _ => ?_)
    refine Ok.ite (fun _ => ?_) (fun _ => ?_)
    · refine Ok.bind (Next_ok (by omega) (by omega) hq) fun p1 hp1 => Ok.bind (pick_ok (Q := fun _ => True) hp1.1 fun _ _ => trivial) fun y _ => ?_
      exact Ok.bind (Expr_ok hk (by omega) (by omega) (hp.le (by omega)) hp1.2) fun e he => Ok.pure ⟨.sets (sets_one (he.1.le (by omega))) .nil, he.2⟩
    · refine Ok.bind (Next_ok (by omega) (by omega) hq) fun p1 hp1 => Ok.bind (Lit_ok (d := 0)) fun l hl => ?_
      refine Ok.bind (column_ok hp1.2 ⟨Nat.le_trans hp.1.1 (by omega), hp.1.2⟩) fun c hc => ?_
      have j11 : ∀ w : Bool × GTape, TOK w.2 → Ok (Fw_Tape_action.j11 k x p l c w) AQ := by
        intro w hw
        unfold Fw_Tape_action.j11
        exact Ok.ite (fun _ => j3 _ (.of hc.1 (by omega) hw)) (fun _ => j3 _ (.of hl (by omega) hw))
      exact Ok.ite (fun _ => Ok.bind (Bool_ok (by omega) (by omega) hc.2) fun b hb => j11 _ hb) (fun _ => j11 _ hc.2)
  unfold Fw_Tape_action
  refine Ok.bind (Bool_ok (by omega) (by omega) ht) fun b hb => ?_
  exact Ok.ite (fun _ => j1 _ hb) (fun _ => Ok.ite (fun _ => Ok.ite (fun _ => j1 _ hb) (fun _ => j1 _ hb)) (fun _ => j1 _ hb))

/-- A trigger of modest size. -/
def TrigB (N : List (List UInt8)) (x : GTrigger) : Prop := x.Table ∈ tabN ∧ (1 ≤ x.Event ∧ x.Event ≤ 3) ∧ x.Of.length ≤ 10 ∧ (x.Precedes.length ≤ 10 ∧ ∀ n ∈ x.Precedes, n ∈ N) ∧ (x.Follows.length ≤ 10 ∧ ∀ n ∈ x.Follows, n ∈ N) ∧ x.Rank.length ≤ 10 ∧ ExprsB 31 x.When ∧ x.Actions.length ≤ 10 ∧ ∀ a ∈ x.Actions, ActionB a
theorem certify_ok (hk : 1000 ≤ k) {N : List (List UInt8)} {t : GTape} {x : GTrigger} (hx : TrigB N x) (ht : TOK t) : Ok (Fw_Tape_certify k t x) (fun r => TOK r.1 ∧ TrigB N r.2 ∧ r.2.Name = x.Name) := by
  have j1 : ∀ q : Bool × GTape, TOK q.2 → Ok (Fw_Tape_certify.j1 k x q) (fun r => TOK r.1 ∧ TrigB N r.2 ∧ r.2.Name = x.Name) := by
    intro q hq
    obtain ⟨h1, h2, h3, h4, h5, h6, h7, h8⟩ := hx
    unfold Fw_Tape_certify.j1
    refine Ok.ite (fun _ => Ok.pure ⟨hq, ⟨h1, h2, h3, h4, h5, h6, h7, h8⟩, rfl⟩) (fun _ => ?_)
    refine Ok.bind (Next_ok (by omega) (by omega) hq) fun p1 hp1 => Ok.bind (pick_ok (Q := fun _ => True) hp1.1 fun _ _ => trivial) fun y _ => ?_
    refine Ok.bind (Small_ok hp1.2) fun n hn => Ok.bind (Next_ok (by omega) (by omega) hn.2) fun m hm => ?_
    have e : w64 (n.1 + m.1) = n.1 + m.1 := w64_in (by omega) (by omega)
    simp only [e]
    refine Ok.bind (Bool_ok (by omega) (by omega) hm.2) fun b hb => ?_
    refine Ok.ite (fun _ => Ok.pure ⟨hb, ⟨h1, h2, h3, h4, h5, by simp, h7, h8⟩, rfl⟩) (fun _ => ?_)
    refine Ok.bind (Col_ok (d := 11)) fun c hc => Ok.bind (Next_ok (by omega) (by omega) hb) fun p5 hp5 => ?_
    rw [w64_in (by omega) (by omega)]
    refine Ok.bind (Num_ok hk (d := 10) (by omega) (by omega)) fun e he => Ok.bind (Bin_ok hc he) fun g hg => ?_
    refine Ok.bind (m := idx _ 0) (Q := fun z => z = GRank.mk ([117]) y n.1 (n.1 + m.1)) ⟨_, rfl, rfl⟩ fun z hz => ?_
    subst hz
    refine Ok.bind (Between_ok hk (d := 10) (by omega) (by omega) (by simp only; omega) (by simp only; omega)) fun b hb => ?_
    refine Ok.pure ⟨hp5.2, ⟨h1, h2, h3, h4, h5, by simp, .nil, by simp, fun a ha => ?_⟩, rfl⟩
    rw [List.mem_singleton.1 ha]
    exact .sets (sets_one (hg.le (by omega))) (.one (hb.le (by omega)))
  unfold Fw_Tape_certify
  exact Ok.ite (fun _ => j1 _ ht) (fun _ => Ok.bind (Bool_ok (by omega) (by omega) ht) fun b hb => j1 _ hb)
theorem named_ok {t : GTape} {l : List GTrigger} (hl : l.length ≤ 10) (ht : TOK t) : Ok (Fw_Tape_named k t l) (fun r => (r.1.length ≤ 10 ∧ ∀ n ∈ r.1, n ∈ l.map (·.Name)) ∧ TOK r.2) := by
  unfold Fw_Tape_named
  refine loopL_okc (fun i q => (q.1.length ≤ i ∧ ∀ n ∈ q.1, n ∈ l.map (·.Name)) ∧ TOK q.2) (fun _ => False) ⟨⟨by simp, by simp⟩, ht⟩ (fun i c q hc ⟨⟨g1, g2⟩, g0⟩ => ?_) (fun r hr => hr.elim) (fun q ⟨⟨g1, g2⟩, g0⟩ => Ok.pure ⟨⟨show q.1.length ≤ 10 by omega, g2⟩, g0⟩)
  have hi := lt_of_idx hc
  have j5 : ∀ w : Bool × GTape, TOK w.2 → Ok (Fw_Tape_named.j5 q c w) (SP (fun q : List (List UInt8) × GTape => (q.1.length ≤ i + 1 ∧ ∀ n ∈ q.1, n ∈ l.map (·.Name)) ∧ TOK q.2) (fun _ => False) (fun _ : List (List UInt8) × GTape => False)) := by
    intro w hw
    unfold Fw_Tape_named.j5
    refine Ok.ite (fun _ => ?_) (fun _ => Ok.pure ⟨⟨show q.1.length ≤ _ by omega, g2⟩, hw⟩)
    rw [bind_eq (app_eq (by simp; unfold big; omega) (by decide))]
    refine Ok.pure ⟨⟨by simp; omega, fun x hx => ?_⟩, hw⟩
    rcases List.mem_append.1 hx with hx | hx
    · exact g2 x hx
    · rw [List.mem_singleton.1 hx]; exact List.mem_map.2 ⟨c, List.mem_of_getElem? hc, rfl⟩
  unfold Fw_Tape_named.b1
  refine Ok.bind (Bool_ok (by omega) (by omega) g0) fun b hb => ?_
  exact Ok.ite (fun _ => j5 _ hb) (fun _ => j5 _ hb)

theorem transition_ok {n : List UInt8} {s : GSchema} (hs : ColsB s.Columns) : Ok (Fr17_transition k n s []) (fun r => ColsB r.Schema.Columns) := by
  have hl : s.Columns.length ≤ 10 := hs
  unfold Fr17_transition
  rw [bind_eq (r17_copyRows_eq ⟨by simp, by simp⟩)]
  refine loopL_okc (fun i q => q.length ≤ i) (fun _ => False) (by simp) (fun i c q hc g => ?_) (fun r hr => hr.elim) (fun q g => ?_)
  · have hi := lt_of_idx hc
    unfold Fr17_transition.b1
    rw [bind_eq (app_eq (by simp; unfold big; omega) (by decide))]
    exact Ok.pure (by simp; omega)
  · refine Ok.ite (fun hb => by simp at hb) (fun _ => Ok.pure (show q.length ≤ 10 by omega))
theorem Transitions_ok {x : GTrigger} {s : GSchema} (hs : ColsB s.Columns) : Ok (Fr17_Transitions k x s (GDelta.mk [] [] [] [])) (fun r => r.length ≤ 2 ∧ ∀ t ∈ r, ColsB t.Schema.Columns) := by
  have j1 : ∀ b, Ok (Fr17_Transitions.j1 k x s (GDelta.mk [] [] [] []) b) (fun r => r.length ≤ 2 ∧ ∀ t ∈ r, ColsB t.Schema.Columns) := by
    intro b
    unfold Fr17_Transitions.j1
    refine Ok.ite (fun _ => Ok.pure ⟨by simp, by simp⟩) (fun _ => ?_)
    have e : ∀ (f : GPair → Nat → List GRow × List GRow → Option (Step (List GTable) (List GRow × List GRow))) s, loopL f [] 0 s = some (.go s) := fun _ _ => rfl
    rw [bind_eq (e _ _)]
    simp only [Out.el]
    refine Ok.ite (fun _ => Ok.bind (transition_ok hs) fun r hr => Ok.pure ⟨by simp, by simpa using hr⟩) (fun _ => ?_)
    refine Ok.ite (fun _ => Ok.bind (transition_ok hs) fun r hr => Ok.pure ⟨by simp, by simpa using hr⟩) (fun _ => ?_)
    refine Ok.ite (fun _ => Ok.bind (transition_ok hs) fun r hr => Ok.bind (transition_ok hs) fun r2 hr2 => Ok.pure ⟨by simp, by simpa using ⟨hr, hr2⟩⟩) (fun _ => Ok.pure ⟨by simp, by simp⟩)
  unfold Fr17_Transitions
  exact Ok.ite (fun _ => j1 _) (fun _ => j1 _)
theorem Frames_ok {x : GTrigger} {s : GSchema} (hs : ColsB s.Columns) : Ok (Fr17_Frames k x s [] []) (FramesB 2) := by
  have hl : s.Columns.length ≤ 10 := hs
  have j4 : ∀ q b, FramesB 1 q → Ok (Fr17_Frames.j4 k s [] q b) (FramesB 2) := by
    intro q b hq
    have hql := hq.1
    unfold Fr17_Frames.j4 Fr17_Frames.j3
    refine Ok.ite (fun _ => ?_) (fun _ => Ok.pure ⟨by omega, hq.2⟩)
    rw [bind_eq (app_eq (by simp; unfold big; omega) (by decide)), bind_eq (r5_Copy_eq (by simp)), bind_eq (app_eq (by simp; unfold big; omega) (by decide))]
    refine Ok.pure ⟨by simp; omega, fun f hf => ?_⟩
    rcases List.mem_append.1 hf with hf | hf
    · exact hq.2 f hf
    · rw [List.mem_singleton.1 hf]; simpa using hs
  have j1 : ∀ q, FramesB 1 q → Ok (Fr17_Frames.j1 k x s [] q) (FramesB 2) := by
    intro q hq
    unfold Fr17_Frames.j1
    exact Ok.ite (fun _ => Ok.ite (fun _ => j4 _ _ hq) (fun _ => j4 _ _ hq)) (fun _ => j4 _ _ hq)
  have j5 : ∀ b, Ok (Fr17_Frames.j5 k x s [] [] b) (FramesB 2) := by
    intro b
    unfold Fr17_Frames.j5
    refine Ok.ite (fun _ => ?_) (fun _ => j1 _ ⟨by simp, by simp⟩)
    rw [bind_eq (app_eq (by simp; unfold big; omega) (by decide)), bind_eq (r5_Copy_eq (by simp)), bind_eq (app_eq (by simp; unfold big; omega) (by decide))]
    exact j1 _ ⟨by simp, by simpa using hs⟩
  unfold Fr17_Frames
  exact Ok.ite (fun _ => Ok.ite (fun _ => j5 _) (fun _ => j5 _)) (fun _ => j5 _)
theorem place_ok {x : GTrigger} (hx : x.Table ∈ tabN) : Ok (Fw_place k x) (fun r => PlaceB 2 r ∧ 0 < r.Tables.length) := by
  have hc := worldS_cols hx
  have hs : ColsB (worldS x.Table).Columns := show (worldS x.Table).Columns.length ≤ 10 by omega
  unfold Fw_place
  rw [bind_eq Schema_eq]
  refine Ok.bind (Frames_ok hs) fun f hf => ?_
  rw [bind_eq Schemas_eq]
  refine Ok.bind (Transitions_ok hs) fun l ⟨hl1, hl2⟩ => ?_
  refine loopL_okc (fun i q => q.2.length = 3 + i ∧ ∀ s ∈ q.2, ColsB s.Columns) (fun _ => False) ⟨rfl, fun s hs => Nat.le_trans (schL_cols s hs).2 (by omega)⟩ (fun i c q hc ⟨g1, g2⟩ => ?_) (fun r hr => hr.elim) (fun q ⟨g1, g2⟩ => Ok.pure ⟨⟨hf, show q.2.length ≤ 10 by omega, g2⟩, show 0 < q.2.length by omega⟩)
  have hi := lt_of_idx hc
  unfold Fw_place.b1
  rw [bind_eq (app_eq (by simp; unfold big; omega) (by decide))]
  refine Ok.pure ⟨by simp; omega, fun x hx => ?_⟩
  rcases List.mem_append.1 hx with hx | hx
  · exact g2 x hx
  · rw [List.mem_singleton.1 hx]; exact hl2 c (List.mem_of_getElem? hc)

/-- A trigger out of the tape. -/
theorem Trigger_ok (hk : 1000 ≤ k) {t : GTape} {n : List UInt8} {l : List GTrigger} (hl : l.length ≤ 10) (ht : TOK t) : Ok (Fw_Tape_Trigger k t n l) (fun r => (TrigB (l.map (·.Name)) r.1 ∧ r.1.Name = n) ∧ TOK r.2) := by
  unfold Fw_Tape_Trigger
  refine Ok.bind (Table_ok ht) fun p1 ⟨hp1, ht1⟩ => Ok.bind (Next_ok (by omega) (by omega) ht1) fun p3 hp3 => ?_
  refine Ok.bind (Bool_ok (by omega) (by omega) hp3.2) fun p5 hp5 => Ok.bind (Bool_ok (by omega) (by omega) hp5) fun p7 hp7 => ?_
  rw [bind_eq Schema_eq]
  have hcl := worldS_cols hp1
  have e3 : w64 (1 + p3.1) = 1 + p3.1 := w64_in (by omega) (by omega)
  have j3 : ∀ (q23 : GTape × List (List UInt8)) (q32 : GTape × List (List UInt8) × List (List UInt8)) (p33 : GPlace) (q40 : GTape × List GExpr), q23.2.length ≤ 10 → (q32.2.1.length ≤ 10 ∧ ∀ n ∈ q32.2.1, n ∈ l.map (·.Name)) → (q32.2.2.length ≤ 10 ∧ ∀ n ∈ q32.2.2, n ∈ l.map (·.Name)) → PlaceB 2 p33 ∧ 0 < p33.Tables.length → TOK q40.1 → ExprsB 31 q40.2 →
      Ok (Fw_Tape_Trigger.j3 k n p1 p3 p5 p7 (worldS p1.1) q23 q32 p33 q40) (fun r => (TrigB (l.map (·.Name)) r.1 ∧ r.1.Name = n) ∧ TOK r.2) := by
    intro q23 q32 p33 q40 h23 h1 h2 h33 ht h40
    unfold Fw_Tape_Trigger.j3
    refine Ok.bind (Next_ok (by omega) (by omega) ht) fun m hm => ?_
    rw [w64_in (n := 1 + m.1) (by omega) (by omega)]
    refine loopN_ok (fun z => 0 ≤ z.1 ∧ z.1 + z.2.2.length ≤ 5 ∧ TOK z.2.1 ∧ ∀ r ∈ z.2.2, ActionB r) (fun z => z.1.toNat) (fun z => TOK z.2.1 ∧ z.2.2.length ≤ 10 ∧ ∀ r ∈ z.2.2, ActionB r) (fun _ => False) ⟨by simp only; omega, by simp only [List.length_nil]; omega, hm.2, by simp⟩ (by simp only; omega) (fun z ⟨z0, z1, z2, z3⟩ => ?_) (fun r hr => hr.elim) (fun z hz => ?_)
    · unfold Fw_Tape_Trigger.b1
      refine Ok.ite (fun hb => ?_) (fun hb => Ok.pure ⟨z2, by simp only; omega, z3⟩)
      simp only [decide_eq_true_eq] at hb
      refine Ok.bind (action_ok hk hcl (h33.1.le (by omega)) h33.2 z2) fun a ha => ?_
      rw [bind_eq (app_eq (by simp; unfold big; omega) (by decide)), w64_in (by omega) (by omega)]
      refine Ok.pure ⟨⟨by simp only; omega, by simp; omega, ha.2, fun x hx => ?_⟩, by simp only; omega⟩
      rcases List.mem_append.1 hx with hx | hx
      · exact z3 x hx
      · rw [List.mem_singleton.1 hx]; exact ha.1
    · refine Ok.bind (certify_ok (N := l.map (·.Name)) hk ⟨hp1, ⟨by simp only [e3]; omega, by simp only [e3]; omega⟩, h23, h1, h2, by simp, h40, hz.2⟩ hz.1) fun r ⟨hr1, hr2, hr3⟩ => ?_
      exact Ok.pure ⟨⟨hr2, hr3⟩, hr1⟩
  have j2 : ∀ (q23 : GTape × List (List UInt8)) (q32 : GTape × List (List UInt8) × List (List UInt8)), q23.2.length ≤ 10 → (q32.2.1.length ≤ 10 ∧ ∀ n ∈ q32.2.1, n ∈ l.map (·.Name)) → (q32.2.2.length ≤ 10 ∧ ∀ n ∈ q32.2.2, n ∈ l.map (·.Name)) → TOK q32.1 →
      Ok (Fw_Tape_Trigger.j2 k n p1 p3 p5 p7 (worldS p1.1) q23 q32) (fun r => (TrigB (l.map (·.Name)) r.1 ∧ r.1.Name = n) ∧ TOK r.2) := by
    intro q23 q32 h23 h1 h2 ht
    unfold Fw_Tape_Trigger.j2
    refine Ok.bind (place_ok hp1) fun p hp => Ok.bind (Bool_ok (by omega) (by omega) ht) fun b hb => ?_
    refine Ok.ite (fun _ => ?_) (fun _ => j3 _ _ _ _ h23 h1 h2 hp hb .nil)
    exact Ok.bind (Expr_ok hk (by omega) (by omega) (hp.1.le (by omega)) hb) fun e he => j3 _ _ _ _ h23 h1 h2 hp he.2 (.one (he.1.le (by omega)))
  have nl : ([] : List (List UInt8)).length ≤ 10 ∧ ∀ n ∈ ([] : List (List UInt8)), n ∈ l.map (·.Name) := ⟨by simp, by simp⟩
  have j1 : ∀ (q23 : GTape × List (List UInt8)), q23.2.length ≤ 10 → TOK q23.1 → Ok (Fw_Tape_Trigger.j1 k n l p1 p3 p5 p7 (worldS p1.1) q23) (fun r => (TrigB (l.map (·.Name)) r.1 ∧ r.1.Name = n) ∧ TOK r.2) := by
    intro q23 h23 ht
    unfold Fw_Tape_Trigger.j1
    refine Ok.bind (Next_ok (by omega) (by omega) ht) fun m hm => ?_
    refine Ok.ite (fun _ => Ok.bind (named_ok hl hm.2) fun r hr => j2 _ _ h23 hr.1 nl hr.2) (fun _ => ?_)
    exact Ok.ite (fun _ => Ok.bind (named_ok hl hm.2) fun r hr => j2 _ _ h23 nl hr.1 hr.2) (fun _ => j2 _ _ h23 nl nl hm.2)
  have j4 : ∀ (q : Bool × GTape), TOK q.2 → Ok (Fw_Tape_Trigger.j4 k n l p1 p3 p5 p7 (worldS p1.1) q) (fun r => (TrigB (l.map (·.Name)) r.1 ∧ r.1.Name = n) ∧ TOK r.2) := by
    intro q ht
    unfold Fw_Tape_Trigger.j4
    refine Ok.ite (fun _ => ?_) (fun _ => j1 _ (by simp) ht)
    exact Ok.bind (Next_ok (by omega) (by omega) ht) fun m hm => Ok.bind (pick_ok (Q := fun _ => True) hm.1 fun _ _ => trivial) fun c _ => j1 _ (by simp) hm.2
  exact Ok.ite (fun _ => Ok.bind (Bool_ok (by omega) (by omega) hp7) fun b hb => j4 _ hb) (fun _ => j4 _ hp7)
end Go.Proofs.YtiojahpkaogigaaGreatDoor
