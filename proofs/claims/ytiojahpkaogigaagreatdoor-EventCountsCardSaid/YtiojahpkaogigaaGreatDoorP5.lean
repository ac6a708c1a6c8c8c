/- The plain law of EventCounts: trees out of the tape. Conditions: none. -/
import Derived.Test.YtiojahpkaogigaaGreatDoorP4
set_option linter.unusedSimpArgs false
set_option linter.unusedVariables false
namespace Go.Proofs.YtiojahpkaogigaaGreatDoor
open Go Go.Ab Go.Pl
variable {k : Nat}

/-- The schemas of the world. -/
def schL : List GSchema := (Fw_Schemas 0).getD []
theorem Schemas_eq : Fw_Schemas k = some schL := rfl
def worldS (n : List UInt8) : GSchema := (schL.find? fun s => decide (s.Name = n)).getD ⟨[], []⟩
theorem find_idx {α : Type} {p : α → Bool} : ∀ xs : List α, xs.find? p = (xs.findIdx? p).bind fun j => xs[j]?
  | [] => rfl
  | x :: xs => by
    rw [List.find?_cons, List.findIdx?_cons, find_idx xs]
    cases p x with
    | true => simp
    | false => cases xs.findIdx? p <;> simp
theorem Schema_eq {n : List UInt8} : Fw_Schema k n = some (worldS n) := by
  unfold Fw_Schema
  rw [bind_eq Schemas_eq, loop_find (fun s : GSchema => decide (s.Name = n)) (fun s _ => s)]
  · unfold worldS
    rw [find_idx]
    cases h : schL.findIdx? (fun s => decide (s.Name = n)) with
    | none => rfl
    | some j =>
      obtain ⟨hl, _⟩ := List.findIdx?_eq_some_iff_getElem.1 h
      simp [hl]
  · intro i s _
    unfold Fw_Schema.b1
    split <;> simp_all
theorem schL_cols : ∀ s ∈ schL, 2 ≤ s.Columns.length ∧ s.Columns.length ≤ 4 := by decide
theorem worldS_mem {n : List UInt8} (h : n ∈ tabN) : worldS n ∈ schL ∧ (worldS n).Name = n := by
  revert n; decide
theorem worldS_cols {n : List UInt8} (h : n ∈ tabN) : 2 ≤ (worldS n).Columns.length ∧ (worldS n).Columns.length ≤ 4 := schL_cols _ (worldS_mem h).1
theorem rem_ok {a b : Int} (h : 0 ≤ a) (hb : 0 < b) : Ok (rem a b) (fun r => 0 ≤ r ∧ r < b) := by
  unfold rem; rw [if_neg (by omega)]
  exact Ok.pure ⟨Int.tmod_nonneg _ h, Int.tmod_lt_of_pos _ hb⟩

def EP (d : Nat) (r : GExpr × GTape) : Prop := ExprB d r.1 ∧ TOK r.2
def HE (f : GTape → GPlace → Int → Int → Option (GExpr × GTape)) (d : Nat) : Prop := ∀ n t p a2 a3, a3 ≤ (d : Int) → -5 ≤ a3 → n + d ≤ 100 → PlaceB n p → TOK t → Ok (f t p a2 a3) (EP (d + 3))
def HQ (f : GTape → GPlace → Int → Int → Option (GExpr × GTape)) (d : Nat) : Prop := ∀ n t p a2 a3, 1 ≤ a3 → a3 ≤ (d : Int) + 1 → n + (d + 1) ≤ 100 → PlaceB n p → 0 < p.Tables.length → TOK t → Ok (f t p a2 a3) (EP (d + 4))
def HC (f : GTape → GPlace → Int → Option (GExpr × GTape)) (d : Nat) : Prop := ∀ n t p a3, 1 ≤ a3 → a3 ≤ (d : Int) + 1 → n + (d + 1) ≤ 100 → PlaceB n p → TOK t → Ok (f t p a3) (EP (d + 4))

theorem queryb_ok {R : Recw_Tape_Expr} {d : Nat} (hd : d ≤ 50) (hR : HE R.rw_Tape_Expr d) : HQ (Fw_Tape_queryb k R) d := by
  intro n t p a2 a3 h1 h2 hn hp hT ht
  unfold Fw_Tape_queryb
  have hl := hp.2.1
  have w1 : w64 (a3 - 1) = a3 - 1 := w64_in (by omega) (by omega)
  have w2 : w64 (a3 - 2) = a3 - 2 := w64_in (by omega) (by omega)
  refine Ok.bind (Next_ok (by omega) (by omega) ht) fun p1 hp1 => ?_
  refine Ok.bind (pick_ok (Q := fun s => ColsB s.Columns) hp1.1 hp.2.2) fun s hs => ?_
  refine Ok.bind (Inside_ok (by omega) hp hs) fun p5 ⟨hp5, _, _⟩ => ?_
  have j0 : ∀ q : GTape × List GExpr, TOK q.1 → ExprsB (d + 3) q.2 → Ok (Fw_Tape_query.j0 k R a2 a3 s p5 q) (EP (d + 4)) := by
    intro q hq1 hq2
    unfold Fw_Tape_query.j0
    refine Ok.bind (Bool_ok (by omega) (by omega) hq1) fun b hb => ?_
    refine Ok.ite (fun _ => ?_) (fun _ => ?_)
    · exact Ok.pure ⟨ExprB.succ.2 ⟨.nil, .one ⟨hq2, .nil⟩⟩, hb⟩
    · rw [w1]
      refine Ok.bind (hR (n + 1) _ _ _ _ (by omega) (by omega) (by omega) hp5 hb) fun e he => ?_
      exact Ok.pure ⟨ExprB.succ.2 ⟨.nil, .one ⟨hq2, .one he.1⟩⟩, he.2⟩
  refine Ok.ite (fun _ => ?_) (fun _ => j0 _ hp1.2 .nil)
  rw [w2]
  exact Ok.bind (hR (n + 1) _ _ _ _ (by omega) (by omega) (by omega) hp5 hp1.2) fun e he => j0 _ he.2 (.one he.1)

theorem conditionb_ok {R : Recw_Tape_Expr} {d : Nat} (hd : d ≤ 50) (hR : HE R.rw_Tape_Expr d) : HC (Fw_Tape_conditionb k R) d := by
  intro n t p a3 h1 h2 hn hp ht
  unfold Fw_Tape_conditionb
  have w1 : w64 (a3 - 1) = a3 - 1 := w64_in (by omega) (by omega)
  rw [w1]
  have X : ∀ a2 t, TOK t → Ok (R.rw_Tape_Expr t p a2 (a3 - 1)) (EP (d + 3)) := fun a2 t ht => hR n t p a2 (a3 - 1) (by omega) (by omega) (by omega) hp ht
  refine Ok.bind (Next_ok (by omega) (by omega) ht) fun p1 hp1 => ?_
  refine Ok.bind (Next_ok (by omega) (by omega) hp1.2) fun p2 hp2 => ?_
  refine Ok.ite (fun _ => Ok.bind (X _ _ hp2.2) fun e he => Ok.pure ⟨ExprB.mk (.one he.1) .nil, he.2⟩) (fun _ => ?_)
  refine Ok.ite (fun _ => ?_) (fun _ => ?_)
  · refine Ok.bind (Next_ok (by omega) (by omega) hp2.2) fun p3 hp3 => ?_
    refine Ok.bind (X _ _ hp3.2) fun e he => Ok.bind (X _ _ he.2) fun f hf => ?_
    exact Ok.bind (Bin_ok he.1 hf.1) fun g hg => Ok.pure ⟨hg, hf.2⟩
  refine Ok.ite (fun _ => ?_) (fun _ => ?_)
  · refine Ok.bind (Bool_ok (by omega) (by omega) hp2.2) fun p3 hp3 => ?_
    exact Ok.bind (X _ _ hp3) fun e he => Ok.pure ⟨ExprB.mk (.one he.1) .nil, he.2⟩
  refine Ok.ite (fun _ => ?_) (fun _ => ?_)
  · refine Ok.bind (X _ _ hp2.2) fun e he => Ok.bind (X _ _ he.2) fun f hf => Ok.bind (X _ _ hf.2) fun g hg => ?_
    exact Ok.pure ⟨ExprB.mk (.three he.1 hf.1 hg.1) .nil, hg.2⟩
  · refine Ok.bind (Next_ok (by omega) (by omega) hp2.2) fun p3 hp3 => ?_
    refine Ok.bind (X _ _ hp3.2) fun e he => Ok.bind (X _ _ he.2) fun f hf => ?_
    exact Ok.bind (Bin_ok he.1 hf.1) fun g hg => Ok.pure ⟨hg, hf.2⟩

theorem Exprb_ok (hk : 1000 ≤ k) {R : Recw_Tape_Expr} {D : Nat} (hD : D ≤ 50) (hR : D = 0 ∨ ∃ d, D = d + 1 ∧ HE R.rw_Tape_Expr d ∧ HQ R.rw_Tape_query d ∧ HC R.rw_Tape_condition d) : HE (Fw_Tape_Exprb k R) D := by
  intro n t p a2 a3 h1 h2 hn hp ht
  have hF : FramesB 100 p.Frames := ⟨Nat.le_trans hp.1.1 (by omega), hp.1.2⟩
  have j7 : ∀ (c : GExpr × Bool × GTape) (q : Bool × GTape), ExprB 1 c.1 → TOK q.2 → Ok (Fw_Tape_Expr.j7 k a2 c q) (EP (D + 3)) := by
    intro c q hc hq
    unfold Fw_Tape_Expr.j7
    refine Ok.ite (fun _ => Ok.pure ⟨hc.le (by omega), hq⟩) (fun _ => ?_)
    refine Ok.bind (Bool_ok (by omega) (by omega) hq) fun b hb => ?_
    refine Ok.ite (fun _ => Ok.bind (Lit_ok (d := D + 2)) fun e he => Ok.pure ⟨he, hb⟩) (fun _ => ?_)
    refine Ok.ite (fun _ => ?_) (fun _ => ?_)
    · exact Ok.bind (Small_ok hb) fun s hs => Ok.bind (Num_ok hk (d := D + 1) (by omega) (by omega)) fun e he => Ok.pure ⟨he, hs.2⟩
    · exact Ok.bind (Typed_ok hb) fun s hs => Ok.bind (Lit_ok (d := D + 2)) fun e he => Ok.pure ⟨he, hs⟩
  have j11 : ∀ q : Bool × GTape, 1 ≤ a3 → (q.1 = true → 0 < p.Tables.length) → TOK q.2 → Ok (Fw_Tape_Expr.j11 k R p a2 a3 q) (EP (D + 3)) := by
    intro q ha hT hq
    rcases hR with rfl | ⟨d, rfl, hE, hQ, hC⟩
    · simp at h1; omega
    have w1 : w64 (a3 - 1) = a3 - 1 := w64_in (by omega) (by omega)
    have X : ∀ a2 t, TOK t → Ok (R.rw_Tape_Expr t p a2 (a3 - 1)) (EP (d + 3)) := fun a2 t ht => hE n t p a2 (a3 - 1) (by omega) (by omega) (by omega) hp ht
    unfold Fw_Tape_Expr.j11
    rw [w1]
    refine Ok.ite (fun hb => ?_) (fun _ => ?_)
    · exact Ok.bind (hQ n _ _ _ _ ha (by omega) (by omega) hp (hT hb) hq) fun e he => Ok.pure he
    refine Ok.ite (fun _ => ?_) (fun _ => ?_)
    · refine Ok.bind (Bool_ok (by omega) (by omega) hq) fun b hb => ?_
      refine Ok.ite (fun _ => ?_) (fun _ => ?_)
      · exact Ok.bind (X _ _ hb) fun e he => Ok.pure ⟨ExprB.mk (.one he.1) .nil, he.2⟩
      · refine Ok.bind (Next_ok (by omega) (by omega) hb) fun p3 hp3 => ?_
        refine Ok.bind (pick_ok (Q := fun _ => True) hp3.1 fun _ _ => trivial) fun o _ => ?_
        refine Ok.bind (X _ _ hp3.2) fun e he => Ok.bind (X _ _ he.2) fun f hf => ?_
        exact Ok.bind (Bin_ok he.1 hf.1) fun g hg => Ok.pure ⟨hg, hf.2⟩
    refine Ok.ite (fun _ => ?_) (fun _ => ?_)
    · exact Ok.bind (hC n _ _ _ ha (by omega) (by omega) hp hq) fun e he => Ok.pure he
    · exact Ok.bind (Typed_ok hq) fun s hs => Ok.bind (Lit_ok (d := d + 3)) fun e he => Ok.pure ⟨he, hs⟩
  have j9 : ∀ (q : Int × GTape) (b : Bool), 1 ≤ a3 → (b = true → 0 < p.Tables.length) → TOK q.2 → Ok (Fw_Tape_Expr.j9 k R p a2 a3 q b) (EP (D + 3)) := by
    intro q b ha hT hq
    unfold Fw_Tape_Expr.j9
    refine Ok.ite (fun hb => ?_) (fun _ => ?_)
    · rcases hR with rfl | ⟨d, rfl, hE, hQ, hC⟩
      · simp at h1; omega
      refine Ok.bind (Next_ok (by omega) (by omega) hq) fun p3 hp3 => ?_
      exact Ok.bind (hQ n _ _ _ _ ha (by omega) (by omega) hp (hT hb) hp3.2) fun e he => Ok.pure he
    refine Ok.ite (fun _ => Ok.ite (fun _ => Ok.ite (fun hb => ?_) (fun _ => ?_)) (fun _ => ?_)) (fun _ => ?_)
    · exact Ok.bind (Bool_ok (by omega) (by omega) hq) fun b hb2 => j11 _ ha (fun _ => by simpa using hb) hb2
    all_goals exact j11 _ ha (by simp) hq
  have j5 : ∀ (q : Int × GTape) (b : Bool), (b = false → 1 ≤ a3) → TOK q.2 → Ok (Fw_Tape_Expr.j5 k R p a2 a3 q b) (EP (D + 3)) := by
    intro q b ha hq
    unfold Fw_Tape_Expr.j5
    refine Ok.ite (fun hb => ?_) (fun hb => ?_)
    · refine Ok.bind (column_ok hq hF) fun c hc => ?_
      refine Ok.ite (fun _ => ?_) (fun _ => j7 _ _ hc.1 hc.2)
      exact Ok.bind (Bool_ok (by omega) (by omega) hc.2) fun b hb => j7 _ _ hc.1 hb
    · refine Ok.ite (fun _ => Ok.ite (fun _ => ?_) (fun _ => ?_)) (fun _ => ?_)
      · exact j9 _ _ (ha hb) (fun h => by simpa using h) hq
      all_goals exact j9 _ _ (ha hb) (by simp) hq
  have j1 : ∀ (q : Int × GTape), TOK q.2 → Ok (Fw_Tape_Expr.j1 k R p a2 a3 q) (EP (D + 3)) := by
    intro q hq
    unfold Fw_Tape_Expr.j1
    refine Ok.ite (fun hb => j5 _ _ (by simp) hq) (fun hb => j5 _ _ (fun _ => ?_) hq)
    simp only [decide_eq_false_iff_not] at hb; omega
  have j12 : ∀ (q : Int × GTape) b, TOK q.2 → Ok (Fw_Tape_Expr.j12 k R p a2 a3 q b) (EP (D + 3)) := by
    intro q b hq
    unfold Fw_Tape_Expr.j12
    refine Ok.ite (fun hb => ?_) (fun hb => j1 _ hq)
    exact Ok.bind (Next_ok (by omega) (by omega) hq) fun p3 hp3 => j1 _ hp3.2
  unfold Fw_Tape_Exprb
  refine Ok.bind (Next_ok (by omega) (by omega) ht) fun p3 hp3 => ?_
  exact Ok.ite (fun _ => j12 _ _ hp3.2) (fun _ => j12 _ _ hp3.2)

theorem rec_ok (hk : 1000 ≤ k) : ∀ (D m : Nat), D ≤ 50 → 2 * D ≤ m → HE (Fw_Tape_Exprb k (recw_Tape_Expr k m)) D
  | 0, m, _, _ => Exprb_ok hk (by omega) (.inl rfl)
  | d + 1, m, hd, hm => by
    obtain ⟨m', rfl⟩ : ∃ m', m = m' + 2 := ⟨m - 2, by omega⟩
    refine Exprb_ok hk hd (.inr ⟨d, rfl, ?_, ?_, ?_⟩)
    · exact rec_ok hk d (m' + 1) (by omega) (by omega)
    · exact queryb_ok (R := recw_Tape_Expr k (m' + 1)) (by omega) (rec_ok hk d m' (by omega) (by omega))
    · exact conditionb_ok (R := recw_Tape_Expr k (m' + 1)) (by omega) (rec_ok hk d m' (by omega) (by omega))
/-- A tree out of the tape. -/
theorem Expr_ok (hk : 1000 ≤ k) {t : GTape} {p : GPlace} {a2 a3 : Int} (h1 : a3 ≤ 5) (h2 : -5 ≤ a3) (hp : PlaceB 90 p) (ht : TOK t) : Ok (Fw_Tape_Expr k t p a2 a3) (EP 20) :=
  (rec_ok hk 5 k (by omega) (by omega) 90 t p a2 a3 h1 h2 (by omega) hp ht).mono fun r hr => ⟨hr.1.le (by omega), hr.2⟩
end Go.Proofs.YtiojahpkaogigaaGreatDoor
