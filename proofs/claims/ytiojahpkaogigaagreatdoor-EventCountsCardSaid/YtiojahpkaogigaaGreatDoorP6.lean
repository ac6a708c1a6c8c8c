/- The plain law of EventCounts: actions out of the tape. Conditions: none. -/
import Derived.Test.YtiojahpkaogigaaGreatDoorP5
set_option linter.unusedSimpArgs false
set_option linter.unusedVariables false
namespace Go.Proofs.YtiojahpkaogigaaGreatDoor
open Go Go.Ab Go.Pl
variable {k : Nat}

theorem PlaceB.le {n m : Nat} {p : GPlace} (h : PlaceB n p) (hm : n ≤ m) : PlaceB m p := ⟨⟨Nat.le_trans h.1.1 hm, h.1.2⟩, h.2⟩
abbrev TX := GTape × Int × Int × Bool × Int × Int × (List UInt8) × (List UInt8) × (List UInt8) × (List GExpr) × (List GQuery)
def QP (d : Nat) (q : TX) : Prop := TOK q.1 ∧ ExprsB d q.2.2.2.2.2.2.2.2.2.1 ∧ QueriesB d q.2.2.2.2.2.2.2.2.2.2
theorem ExprB.args {d : Nat} {e : GExpr} (h : ExprB (d + 1) e) : ExprsB d e.Args := (ExprB.succ.1 h).1
theorem ExprB.sub {d : Nat} {e : GExpr} (h : ExprB (d + 1) e) : QueriesB d e.Sub := (ExprB.succ.1 h).2
theorem QueriesB.le {d d' : Nat} {l : List GQuery} (h : QueriesB d l) (hd : d ≤ d') : QueriesB d' l := ⟨h.1, fun q hq => ⟨(h.2 q hq).1.le hd, (h.2 q hq).2.le hd⟩⟩
theorem QP.of {d d' : Nat} {e : GExpr} {t : GTape} (h : ExprB (d + 1) e) (hd : d ≤ d') (ht : TOK t) : QP d' (t, e.Kind, e.Op, e.Not, e.Value.Kind, e.Value.Int, e.Value.Text, e.Table, e.Name, e.Args, e.Sub) := ⟨ht, h.args.le hd, h.sub.le hd⟩

theorem copies_ok (hk : 1000 ≤ k) {t : GTape} {p : GPlace} {s : GSchema} {a : Int} (h1 : a ≤ 5) (h2 : -5 ≤ a) (hp : PlaceB 80 p) (hT : 0 < p.Tables.length) (hs : ColsB s.Columns) (ht : TOK t) : Ok (Fw_Tape_copies k t p s a) (fun r => QueryB 30 r.1 ∧ TOK r.2) := by
  have hl := hp.2.1
  unfold Fw_Tape_copies
  refine Ok.bind (Next_ok (by omega) (by omega) ht) fun p1 hp1 => ?_
  refine Ok.bind (pick_ok (Q := fun s => ColsB s.Columns) hp1.1 hp.2.2) fun x3 hx3 => ?_
  refine Ok.bind (Inside_ok (by omega) hp hx3) fun p5 ⟨hp5, _, hf5⟩ => ?_
  refine loopL_okc (fun i q => TOK q.1 ∧ q.2.length ≤ i ∧ ∀ x ∈ q.2, ExprB 30 x) (fun _ => False) ⟨hp1.2, by simp, by simp⟩ (fun i c q hc ⟨g0, g1, g2⟩ => ?_) (fun r hr => hr.elim) (fun q ⟨g0, g1, g2⟩ => ?_)
  · have hi := lt_of_idx hc
    have hcl : s.Columns.length ≤ 10 := hs
    have j5 : ∀ z : TX, QP 29 z → Ok (Fw_Tape_copies.j5 q z) (SP (fun q : GTape × List GExpr => TOK q.1 ∧ q.2.length ≤ i + 1 ∧ ∀ x ∈ q.2, ExprB 30 x) (fun _ => False) (fun _ : GQuery × GTape => False)) := by
      intro z hz
      unfold Fw_Tape_copies.j5
      rw [bind_eq (app_eq (by simp; unfold big; omega) (by decide))]
      refine Ok.pure ⟨hz.1, by simp; omega, fun x hx => ?_⟩
      rcases List.mem_append.1 hx with hx | hx
      · exact g2 x hx
      · rw [List.mem_singleton.1 hx]; exact ExprB.mk hz.2.1 hz.2.2
    unfold Fw_Tape_copies.b1
    refine Ok.bind (Expr_ok hk h1 h2 (hp5.le (by omega)) g0) fun e he => ?_
    refine Ok.ite (fun _ => ?_) (fun _ => j5 _ (.of (d := 19) he.1 (by omega) he.2))
    have hfl : p5.Frames.length = p.Frames.length + 1 := by rw [hf5]; simp
    have hfl2 := hp.1.1
    rw [w64_in (by omega) (by omega), bind_eq (slc_eq (by omega) (by omega) (by omega))]
    refine Ok.bind (column_ok he.2 ⟨?_, fun f hf => hp5.1.2 f (List.mem_of_mem_take (List.mem_of_mem_drop hf))⟩) fun c hc => ?_
    · simp only [List.length_drop, List.length_take]; omega
    refine Ok.ite (fun _ => ?_) (fun _ => j5 _ (.of (d := 19) he.1 (by omega) hc.2))
    refine Ok.bind (Next_ok (by omega) (by omega) hc.2) fun p2 hp2 => ?_
    rw [w64_in (by omega) (by omega)]
    refine Ok.bind (Num_ok hk (d := 10) (by omega) (by omega)) fun u hu => ?_
    exact Ok.bind (Bin_ok (d := 12) (hc.1.le (by omega)) hu) fun v hv => j5 _ (.of (d := 12) hv (by omega) hp2.2)
  · have hcl : s.Columns.length ≤ 10 := hs
    have j6 : ∀ z : GTape × List GExpr, TOK z.1 → ExprsB 30 z.2 → Ok (Fw_Tape_copies.j6 x3 q z) (fun r => QueryB 30 r.1 ∧ TOK r.2) := fun z h1 h2 => Ok.pure ⟨⟨⟨show q.2.length ≤ 10 by omega, g2⟩, h2⟩, h1⟩
    refine Ok.bind (Bool_ok (by omega) (by omega) g0) fun b hb => ?_
    refine Ok.ite (fun _ => ?_) (fun _ => j6 _ hb .nil)
    exact Ok.bind (Expr_ok hk h1 h2 (hp5.le (by omega)) hb) fun e he => j6 _ he.2 (.one (he.1.le (by omega)))

/-- An action of modest size. -/
def ActionB (a : GAction) : Prop := (a.Rows.length ≤ 10 ∧ ∀ r ∈ a.Rows, ExprsB 30 r) ∧ QueriesB 30 a.Query ∧ (a.Sets.length ≤ 10 ∧ ∀ s ∈ a.Sets, ExprB 31 s.Expr) ∧ ExprsB 31 a.Where ∧ (a.Kind = 5 → 0 < a.Sets.length)

theorem Change_ok (hk : 1000 ≤ k) {t : GTape} {p : GPlace} {a : Int} (h1 : a ≤ 5) (h2 : -5 ≤ a) (hp : PlaceB 80 p) (hT : 0 < p.Tables.length) (ht : TOK t) : Ok (Fw_Tape_Change k t p a) (fun r => ActionB r.1 ∧ TOK r.2) := by
  unfold Fw_Tape_Change
  refine Ok.bind (Table_ok ht) fun p1 ⟨hp1, ht1⟩ => ?_
  rw [bind_eq Schema_eq]
  obtain ⟨hc2, hc4⟩ := worldS_cols hp1
  generalize worldS p1.1 = s at hc2 hc4 ⊢
  refine Ok.bind (Inside_ok (by omega) hp (show s.Columns.length ≤ 10 by omega)) fun p5 ⟨hp5, _, hf5⟩ => ?_
  have hp5' : PlaceB 90 p5 := hp5.le (by omega)
  refine Ok.bind (Next_ok (by omega) (by omega) ht1) fun p7 hp7 => ?_
  have k5 : w64 (1 + p7.1) ≠ 5 := by rw [w64_in (by omega) (by omega)]; omega
  have j96 : ∀ z : GTape × List GSet, TOK z.1 → (z.2.length ≤ 10 ∧ ∀ s ∈ z.2, ExprB 31 s.Expr) → Ok (Fw_Tape_Change.j96 k a s p5 p7 z) (fun r => ActionB r.1 ∧ TOK r.2) := by
    intro z hz1 hz2
    unfold Fw_Tape_Change.j96
    refine Ok.bind (Bool_ok (by omega) (by omega) hz1) fun b hb => ?_
    refine Ok.ite (fun _ => Ok.pure ⟨⟨⟨by simp, by simp⟩, .nil, hz2, .nil, fun h => absurd h k5⟩, hb⟩) (fun _ => ?_)
    exact Ok.bind (Expr_ok hk h1 h2 hp5' hb) fun e he => Ok.pure ⟨⟨⟨by simp, by simp⟩, .nil, hz2, .one (he.1.le (by omega)), fun h => absurd h k5⟩, he.2⟩
  refine Ok.ite (fun _ => ?_) (fun _ => Ok.ite (fun _ => ?_) (fun _ => j96 _ hp7.2 ⟨by simp, by simp⟩))
  · refine Ok.bind (Bool_ok (by omega) (by omega) hp7.2) fun b hb => ?_
    refine Ok.ite (fun _ => ?_) (fun _ => ?_)
    · exact Ok.bind (copies_ok hk h1 h2 hp hT (show s.Columns.length ≤ 10 by omega) hb) fun q hq => Ok.pure ⟨⟨⟨by simp, by simp⟩, .one hq.1, ⟨by simp, by simp⟩, .nil, fun h => absurd h k5⟩, hq.2⟩
    · refine Ok.bind (Next_ok (by omega) (by omega) hb) fun n hn => ?_
      rw [w64_in (by omega) (by omega)]
      refine loopN_ok (fun z => 0 ≤ z.1 ∧ z.1 + z.2.2.length ≤ 5 ∧ TOK z.2.1 ∧ ∀ r ∈ z.2.2, ExprsB 30 r) (fun z => z.1.toNat) (fun z => TOK z.2.1 ∧ z.2.2.length ≤ 10 ∧ ∀ r ∈ z.2.2, ExprsB 30 r) (fun _ => False) ⟨by simp only; omega, by simp only [List.length_nil]; omega, hn.2, by simp⟩ (by simp only; omega) (fun z ⟨z0, z1, z2, z3⟩ => ?_) (fun r hr => hr.elim) (fun z hz => Ok.pure ⟨⟨hz.2, .nil, ⟨by simp, by simp⟩, .nil, fun h => absurd h k5⟩, hz.1⟩)
      unfold Fw_Tape_Change.b52
      refine Ok.ite (fun hb => ?_) (fun hb => Ok.pure ⟨z2, by simp only; omega, z3⟩)
      simp only [decide_eq_true_eq] at hb
      refine loopL_okc (fun i q => (q.1.length = i ∧ ∀ x ∈ q.1, ExprB 30 x) ∧ TOK q.2) (fun _ => False) ⟨⟨by simp, by simp⟩, z2⟩ (fun i c q hc ⟨⟨g1, g2⟩, g0⟩ => ?_) (fun r hr => hr.elim) (fun q ⟨⟨g1, g2⟩, g0⟩ => ?_)
      · have hi := lt_of_idx hc
        have j169 : ∀ w : Bool × GTape, TOK w.2 → Ok (Fw_Tape_Change.j169 k p a q c w) (SP (fun q : List GExpr × GTape => (q.1.length = i + 1 ∧ ∀ x ∈ q.1, ExprB 30 x) ∧ TOK q.2) (fun _ => False) (fun _ => False)) := by
          intro w hw
          have app1 : ∀ e, ExprB 30 e → app 136 q.1 [e] = some (q.1 ++ [e]) ∧ (q.1 ++ [e]).length = i + 1 ∧ ∀ x ∈ q.1 ++ [e], ExprB 30 x := fun e he =>
            ⟨app_eq (by simp; unfold big; omega) (by decide), by simp; omega, fun x hx => by
              rcases List.mem_append.1 hx with hx | hx
              · exact g2 x hx
              · rw [List.mem_singleton.1 hx]; exact he⟩
          unfold Fw_Tape_Change.j169
          refine Ok.ite (fun _ => ?_) (fun _ => ?_)
          · refine Ok.bind (Typed_ok hw) fun v hv => Ok.bind (Lit_ok (d := 29)) fun e he => ?_
            obtain ⟨a1, a2, a3⟩ := app1 e he
            rw [bind_eq a1]
            refine Ok.ite (fun _ => ?_) (fun _ => Ok.pure ⟨⟨a2, a3⟩, hv⟩)
            refine Ok.bind (Small_ok hv) fun n hn => Ok.bind (Num_ok hk (d := 28) (by omega) (by omega)) fun e2 he2 => ?_
            rw [w64_in (by omega) (by omega)]
            refine Ok.bind (pick_ok (Q := fun _ => True) ⟨by omega, by omega⟩ fun _ _ => trivial) fun _ _ => ?_
            refine Ok.pure ⟨⟨by rw [List.length_set]; exact a2, fun x hx => ?_⟩, hn.2⟩
            rcases List.mem_or_eq_of_mem_set hx with hx | hx
            · exact a3 x hx
            · rw [hx]; exact he2
          · refine Ok.bind (Expr_ok hk h1 h2 (hp.le (by omega)) hw) fun e he => ?_
            obtain ⟨a1, a2, a3⟩ := app1 e.1 (he.1.le (by omega))
            rw [bind_eq a1]
            exact Ok.pure ⟨⟨a2, a3⟩, he.2⟩
        unfold Fw_Tape_Change.b51
        refine Ok.ite (fun _ => j169 _ g0) (fun _ => ?_)
        exact Ok.bind (Bool_ok (by omega) (by omega) g0) fun b hb => j169 _ hb
      · rw [bind_eq (app_eq (by simp; unfold big; omega) (by decide)), w64_in (by omega) (by omega)]
        refine Ok.pure ⟨⟨by simp only; omega, by simp; omega, g0, fun x hx => ?_⟩, by simp only; omega⟩
        rcases List.mem_append.1 hx with hx | hx
        · exact z3 x hx
        · rw [List.mem_singleton.1 hx]; exact ⟨by omega, g2⟩
  · refine Ok.bind (Next_ok (by omega) (by omega) hp7.2) fun n hn => ?_
    refine loopN_ok (fun z => 0 ≤ z.1 ∧ z.1 ≤ 4 ∧ z.2.2.length = z.1 ∧ TOK z.2.1 ∧ ∀ s ∈ z.2.2, ExprB 31 s.Expr) (fun z => (4 - z.1).toNat) (fun z => TOK z.2.1 ∧ z.2.2.length ≤ 10 ∧ ∀ s ∈ z.2.2, ExprB 31 s.Expr) (fun _ => False) ⟨by simp, by simp, by simp, hn.2, by simp⟩ (by simp only; omega) (fun z ⟨z0, z1, z2, z3, z4⟩ => ?_) (fun r hr => hr.elim) (fun z hz => j96 _ hz.1 hz.2)
    have j192 : ∀ (c : GColumn) (w : TX), z.1 < 4 → QP 30 w → Ok (Fw_Tape_Change.j192 z c w) (SP (fun s' : Int × GTape × List GSet => (0 ≤ s'.1 ∧ s'.1 ≤ 4 ∧ s'.2.2.length = s'.1 ∧ TOK s'.2.1 ∧ ∀ s ∈ s'.2.2, ExprB 31 s.Expr) ∧ (4 - s'.1).toNat < (4 - z.1).toNat) (fun z => TOK z.2.1 ∧ z.2.2.length ≤ 10 ∧ ∀ s ∈ z.2.2, ExprB 31 s.Expr) (fun _ : GAction × GTape => False)) := by
      intro c w hz hw
      unfold Fw_Tape_Change.j192
      rw [bind_eq (app_eq (by simp; unfold big; omega) (by decide)), w64_in (by omega) (by omega)]
      refine Ok.pure ⟨⟨by simp only; omega, by simp only; omega, by simp; omega, hw.1, fun x hx => ?_⟩, by simp only; omega⟩
      rcases List.mem_append.1 hx with hx | hx
      · exact z4 x hx
      · rw [List.mem_singleton.1 hx]; exact ExprB.mk hw.2.1 hw.2.2
    have j193 : ∀ (c : GColumn) (e : GExpr × GTape) (w : Bool × GTape), z.1 < 4 → ExprB 20 e.1 → TOK w.2 → Ok (Fw_Tape_Change.j193 k z c e w) (SP (fun s' : Int × GTape × List GSet => (0 ≤ s'.1 ∧ s'.1 ≤ 4 ∧ s'.2.2.length = s'.1 ∧ TOK s'.2.1 ∧ ∀ s ∈ s'.2.2, ExprB 31 s.Expr) ∧ (4 - s'.1).toNat < (4 - z.1).toNat) (fun z => TOK z.2.1 ∧ z.2.2.length ≤ 10 ∧ ∀ s ∈ z.2.2, ExprB 31 s.Expr) (fun _ : GAction × GTape => False)) := by
      intro c e w hz he hw
      unfold Fw_Tape_Change.j193
      refine Ok.ite (fun _ => ?_) (fun _ => j192 _ _ hz (.of (d := 19) he (by omega) hw))
      refine Ok.bind (Next_ok (by omega) (by omega) hw) fun p3 hp3 => Ok.bind (Col_ok (d := 11)) fun c1 hc1 => ?_
      refine Ok.bind (Next_ok (by omega) (by omega) hp3.2) fun p4 hp4 => Ok.bind (Num_ok hk (d := 10) (by omega) (by omega)) fun e2 he2 => ?_
      exact Ok.bind (Bin_ok hc1 he2) fun g hg => j192 _ _ hz (.of (d := 12) hg (by omega) hp4.2)
    have j187 : ∀ (w : Bool × GTape), (w.1 = true → z.1 < 4) → TOK w.2 → Ok (Fw_Tape_Change.j187 k a s p5 n z w) (SP (fun s' : Int × GTape × List GSet => (0 ≤ s'.1 ∧ s'.1 ≤ 4 ∧ s'.2.2.length = s'.1 ∧ TOK s'.2.1 ∧ ∀ s ∈ s'.2.2, ExprB 31 s.Expr) ∧ (4 - s'.1).toNat < (4 - z.1).toNat) (fun z => TOK z.2.1 ∧ z.2.2.length ≤ 10 ∧ ∀ s ∈ z.2.2, ExprB 31 s.Expr) (fun _ : GAction × GTape => False)) := by
      intro w hz hw
      unfold Fw_Tape_Change.j187
      refine Ok.ite (fun hb => ?_) (fun _ => Ok.pure ⟨hw, by simp only; omega, z4⟩)
      have hz := hz hb
      rw [w64_in (by omega) (by omega)]
      refine Ok.bind (rem_ok (by omega) (by omega)) fun v hv => ?_
      refine Ok.bind (pick_ok (Q := fun _ => True) hv fun _ _ => trivial) fun c _ => ?_
      refine Ok.bind (Expr_ok hk h1 h2 hp5' hw) fun e he => ?_
      refine Ok.ite (fun _ => ?_) (fun _ => j193 _ _ _ hz he.1 he.2)
      exact Ok.bind (Bool_ok (by omega) (by omega) he.2) fun b hb => j193 _ _ _ hz he.1 hb
    unfold Fw_Tape_Change.b53
    refine Ok.bind (Next_ok (by omega) (by omega) z3) fun p3 hp3 => ?_
    refine Ok.ite (fun _ => j187 _ (fun hb => ?_) hp3.2) (fun _ => j187 _ (by simp) hp3.2)
    simp only [decide_eq_true_eq] at hb; omega
end Go.Proofs.YtiojahpkaogigaaGreatDoor
