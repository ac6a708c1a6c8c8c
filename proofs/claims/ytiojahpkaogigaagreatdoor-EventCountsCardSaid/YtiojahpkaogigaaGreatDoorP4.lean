/- The plain law of EventCounts: what the tape gives. Conditions: none. -/
import Derived.Test.YtiojahpkaogigaaGreatDoorP3
set_option linter.unusedSimpArgs false
set_option linter.unusedVariables false
namespace Go.Proofs.YtiojahpkaogigaaGreatDoor
open Go Go.Ab Go.Pl
variable {k : Nat}

/-- A tape that is not too long. -/
def TOK (t : GTape) : Prop := t.l_.length ≤ 500 ∧ 0 ≤ t.at_
theorem Mod_ok {a n : Int} (h1 : 1 ≤ n) (h2 : n ≤ 1000000) : Ok (Fw_Mod k a n) (fun r => 0 ≤ r ∧ r < n) := by
  unfold Fw_Mod
  have hr : rem a n = some (a.tmod n) := by unfold rem; rw [if_neg (by omega)]
  rw [bind_eq hr]
  have hlt : a.tmod n < n := Int.tmod_lt_of_pos a (by omega)
  have hgt : -n < a.tmod n := by
    have := Int.tmod_lt_of_pos (-a) (b := n) (by omega)
    rw [Int.neg_tmod] at this; omega
  refine Ok.ite (fun hb => ?_) (fun hb => ?_)
  · simp only [decide_eq_true_eq] at hb
    unfold Fw_Mod.j0
    rw [w64_in (by omega) (by omega)]
    exact Ok.pure ⟨by omega, by omega⟩
  · simp only [decide_eq_false_iff_not] at hb
    exact Ok.pure ⟨by omega, hlt⟩
theorem Next_ok {t : GTape} {n : Int} (h1 : 1 ≤ n) (h2 : n ≤ 1000000) (ht : TOK t) : Ok (Fw_Tape_Next k t n) (fun r => (0 ≤ r.1 ∧ r.1 < n) ∧ TOK r.2) := by
  unfold Fw_Tape_Next
  refine Ok.ite (fun hb => ?_) (fun hb => ?_)
  · exact Ok.pure ⟨⟨by simp, by simpa using by omega⟩, ht⟩
  · simp only [decide_eq_false_iff_not] at hb
    obtain ⟨hl, h0⟩ := ht
    have e1 : w64 (t.at_ + 1) = t.at_ + 1 := w64_in (by omega) (by omega)
    have e2 : w64 (w64 (t.at_ + 1) - 1) = t.at_ := by rw [e1, w64_in (by omega) (by omega)]; omega
    rw [e2, e1]
    refine Ok.bind (idx_ok (Q := fun _ => True) h0 (by omega) fun _ _ => trivial) fun x _ => ?_
    refine Ok.bind (Mod_ok h1 h2) fun p hp => ?_
    exact Ok.pure ⟨hp, hl, by simp only; omega⟩
theorem Bool_ok {t : GTape} {n : Int} (h1 : 1 ≤ n) (h2 : n ≤ 1000000) (ht : TOK t) : Ok (Fw_Tape_Bool k t n) (fun r => TOK r.2) := by
  unfold Fw_Tape_Bool
  exact Ok.bind (Next_ok h1 h2 ht) fun p hp => Ok.pure hp.2
theorem Small_ok {t : GTape} (ht : TOK t) : Ok (Fw_Tape_Small k t) (fun r => (-3 ≤ r.1 ∧ r.1 < 13) ∧ TOK r.2) := by
  unfold Fw_Tape_Small
  refine Ok.bind (Next_ok (by omega) (by omega) ht) fun p hp => Ok.pure ⟨?_, hp.2⟩
  rw [w64_in (by omega) (by omega)]; simp only; omega
theorem Word_ok {t : GTape} (ht : TOK t) : Ok (Fw_Tape_Word k t) (fun r => TOK r.2) := by
  unfold Fw_Tape_Word
  refine Ok.bind (Next_ok (by omega) (by omega) ht) fun p hp => ?_
  refine Ok.bind (idx_ok (Q := fun _ => True) hp.1.1 (by have := hp.1.2; exact this) fun _ _ => trivial) fun x _ => Ok.pure hp.2
theorem Number_ok {t : GTape} (ht : TOK t) : Ok (Fw_Tape_Number k t) (fun r => TOK r.2) := by
  unfold Fw_Tape_Number
  refine Ok.bind (Next_ok (by omega) (by omega) ht) fun p hp => ?_
  refine Ok.ite (fun _ => Ok.bind (Next_ok (by omega) (by omega) hp.2) fun p hp => Ok.pure hp.2) fun _ => ?_
  refine Ok.ite (fun _ => Ok.bind (Next_ok (by omega) (by omega) hp.2) fun p hp => Ok.pure hp.2) fun _ => ?_
  refine Ok.ite (fun _ => Ok.bind (Next_ok (by omega) (by omega) hp.2) fun p hp => Ok.pure hp.2) fun _ => ?_
  exact Ok.bind (Next_ok (by omega) (by omega) hp.2) fun p hp => Ok.pure hp.2
theorem Typed_ok {t : GTape} {a : Int} (ht : TOK t) : Ok (Fw_Tape_Typed k t a) (fun r => TOK r.2) := by
  unfold Fw_Tape_Typed
  refine Ok.ite (fun _ => Ok.bind (Number_ok ht) fun p hp => Ok.pure hp) fun _ => ?_
  refine Ok.ite (fun _ => Ok.bind (Next_ok (by omega) (by omega) ht) fun p hp => Ok.pure hp.2) fun _ => ?_
  exact Ok.ite (fun _ => Ok.bind (Word_ok ht) fun p hp => Ok.pure hp) fun _ => Ok.pure ht
theorem Value_ok {t : GTape} (ht : TOK t) : Ok (Fw_Tape_Value k t) (fun r => TOK r.2) := by
  unfold Fw_Tape_Value
  exact Ok.bind (Next_ok (by omega) (by omega) ht) fun p hp => Ok.bind (Typed_ok hp.2) fun p hp => Ok.pure hp
theorem pick_ok {α : Type} {l : List α} {i : Int} {Q : α → Prop} (h : 0 ≤ i ∧ i < l.length) (hq : ∀ x ∈ l, Q x) : Ok (idx l i) Q :=
  idx_ok h.1 h.2 fun x hx => hq x (List.mem_of_getElem? hx)
def tabN : List (List UInt8) := [[116], [117], [108, 111, 103]]
theorem Table_ok {t : GTape} (ht : TOK t) : Ok (Fw_Tape_Table k t) (fun r => r.1 ∈ tabN ∧ TOK r.2) := by
  unfold Fw_Tape_Table
  refine Ok.bind (Next_ok (by omega) (by omega) ht) fun p hp => ?_
  exact Ok.bind (pick_ok (Q := fun x => x ∈ tabN) hp.1 fun x hx => hx) fun x hx => Ok.pure ⟨hx, hp.2⟩

/-- Trees that are not too deep and not too wide. -/
def ExprB : Nat → GExpr → Prop
  | 0, _ => False
  | d + 1, e => (e.Args.length ≤ 10 ∧ ∀ x ∈ e.Args, ExprB d x) ∧ e.Sub.length ≤ 10 ∧ ∀ q ∈ e.Sub, (q.Items.length ≤ 10 ∧ ∀ x ∈ q.Items, ExprB d x) ∧ (q.Where.length ≤ 10 ∧ ∀ x ∈ q.Where, ExprB d x)
def ExprsB (d : Nat) (l : List GExpr) : Prop := l.length ≤ 10 ∧ ∀ x ∈ l, ExprB d x
def QueryB (d : Nat) (q : GQuery) : Prop := ExprsB d q.Items ∧ ExprsB d q.Where
def QueriesB (d : Nat) (l : List GQuery) : Prop := l.length ≤ 10 ∧ ∀ q ∈ l, QueryB d q
theorem ExprB.succ {d : Nat} {e : GExpr} : ExprB (d + 1) e ↔ ExprsB d e.Args ∧ QueriesB d e.Sub := by
  simp only [ExprB, ExprsB, QueriesB, QueryB]
theorem ExprB.mono : ∀ {d : Nat} {e : GExpr}, ExprB d e → ExprB (d + 1) e
  | d + 1, e, h => by
    rw [ExprB.succ] at h ⊢
    exact ⟨⟨h.1.1, fun x hx => (h.1.2 x hx).mono⟩, h.2.1, fun q hq => ⟨⟨(h.2.2 q hq).1.1, fun x hx => ((h.2.2 q hq).1.2 x hx).mono⟩, (h.2.2 q hq).2.1, fun x hx => ((h.2.2 q hq).2.2 x hx).mono⟩⟩
theorem ExprB.le {d d' : Nat} {e : GExpr} (h : ExprB d e) (hd : d ≤ d') : ExprB d' e := by
  induction hd with
  | refl => exact h
  | step _ ih => exact ih.mono
theorem ExprsB.nil {d : Nat} : ExprsB d [] := ⟨by simp, by simp⟩
theorem QueriesB.nil {d : Nat} : QueriesB d [] := ⟨by simp, by simp⟩
theorem ExprsB.one {d : Nat} {e : GExpr} (h : ExprB d e) : ExprsB d [e] := ⟨by simp, by simpa using h⟩
theorem ExprsB.two {d : Nat} {e f : GExpr} (h : ExprB d e) (h2 : ExprB d f) : ExprsB d [e, f] := ⟨by simp, by simpa using ⟨h, h2⟩⟩
theorem ExprsB.three {d : Nat} {e f g : GExpr} (h : ExprB d e) (h2 : ExprB d f) (h3 : ExprB d g) : ExprsB d [e, f, g] := ⟨by simp, by simpa using ⟨h, h2, h3⟩⟩
theorem QueriesB.one {d : Nat} {e : GQuery} (h : QueryB d e) : QueriesB d [e] := ⟨by simp, by simpa using h⟩
theorem ExprsB.le {d d' : Nat} {l : List GExpr} (h : ExprsB d l) (hd : d ≤ d') : ExprsB d' l := ⟨h.1, fun x hx => (h.2 x hx).le hd⟩
theorem ExprB.mk {d : Nat} {a b : Int} {c : Bool} {v : GValue} {x y : List UInt8} {l : List GExpr} {q : List GQuery} (h1 : ExprsB d l) (h2 : QueriesB d q) : ExprB (d + 1) (.mk a b c v x y l q) := ExprB.succ.2 ⟨h1, h2⟩
theorem ExprB.leaf {d : Nat} {a b : Int} {c : Bool} {v : GValue} {x y : List UInt8} : ExprB (d + 1) (.mk a b c v x y [] []) := ExprB.mk .nil .nil
theorem Col_ok {a b : List UInt8} {d : Nat} : Ok (Fw_Col k a b) (ExprB (d + 1)) := Ok.pure ExprB.leaf
theorem Lit_ok {v : GValue} {d : Nat} : Ok (Fw_Lit k v) (ExprB (d + 1)) := Ok.pure ExprB.leaf
theorem Bin_ok {o : Int} {x y : GExpr} {d : Nat} (hx : ExprB d x) (hy : ExprB d y) : Ok (Fw_Bin k o x y) (ExprB (d + 1)) := Ok.pure (ExprB.mk (.two hx hy) .nil)
theorem Num_ok (hk : 1000 ≤ k) {n : Int} {d : Nat} (h1 : -1000 ≤ n) (h2 : n ≤ 1000) : Ok (Fw_Num k n) (ExprB (d + 2)) := by
  obtain ⟨k', rfl⟩ : ∃ k', k = k' + 1 := ⟨k - 1, by omega⟩
  unfold Fw_Num Fw_Numb
  refine Ok.ite (fun hb => ?_) (fun hb => Ok.bind (Lit_ok (d := d + 1)) fun p hp => Ok.pure hp)
  simp only [decide_eq_true_eq] at hb
  refine Ok.bind (Q := ExprB (d + 1)) ?_ fun p hp => Ok.pure (ExprB.mk (.one hp) .nil)
  rw [w64_in (by omega) (by omega)]
  simp only [recw_Num, Fw_Numb]
  rw [if_neg (by simp; omega)]
  exact Ok.bind (Lit_ok (d := d)) fun p hp => Ok.pure hp
theorem Between_ok (hk : 1000 ≤ k) {a : List UInt8} {n m : Int} {d : Nat} (h1 : -1000 ≤ n) (h2 : n ≤ 1000) (h3 : -1000 ≤ m) (h4 : m ≤ 1000) : Ok (Fw_Between k a n m) (ExprB (d + 3)) := by
  unfold Fw_Between
  refine Ok.bind (Col_ok (d := d + 1)) fun p hp => ?_
  refine Ok.bind (Num_ok hk (d := d) h1 h2) fun q hq => ?_
  refine Ok.bind (Num_ok hk (d := d) h3 h4) fun r hr => ?_
  exact Ok.pure (ExprB.mk (.three hp hq hr) .nil)

/-- A place with few frames and few tables. -/
def ColsB (l : List GColumn) : Prop := l.length ≤ 10
def FramesB (n : Nat) (l : List GFrame) : Prop := l.length ≤ n ∧ ∀ f ∈ l, ColsB f.Columns
def PlaceB (n : Nat) (p : GPlace) : Prop := FramesB n p.Frames ∧ p.Tables.length ≤ 10 ∧ ∀ s ∈ p.Tables, ColsB s.Columns
theorem Inside_ok {n : Nat} {p : GPlace} {s : GSchema} (hn : n ≤ 100) (hp : PlaceB n p) (hs : ColsB s.Columns) : Ok (Fw_Inside k p s) (fun r => PlaceB (n + 1) r ∧ r.Tables = p.Tables ∧ r.Frames = p.Frames ++ [GFrame.mk s.Name false s.Columns []]) := by
  unfold Fw_Inside
  have hl := hp.1.1
  rw [bind_eq (app_eq (by simp; unfold big; omega) (by decide)), bind_eq (app_eq (by simp; unfold big; omega) (by decide))]
  refine Ok.pure ⟨⟨⟨by simp; exact hl, fun f hf => ?_⟩, hp.2⟩, rfl, by simp⟩
  simp only [List.nil_append, List.mem_append, List.mem_singleton] at hf
  rcases hf with hf | rfl
  · exact hp.1.2 f hf
  · exact hs
theorem column_ok {t : GTape} {p : GPlace} {a : Int} (ht : TOK t) (hp : FramesB 100 p.Frames) : Ok (Fw_Tape_column k t p a) (fun r => ExprB 1 r.1 ∧ TOK r.2.2) := by
  unfold Fw_Tape_column
  refine loopL_okc (fun i s => s.length ≤ 20 * i ∧ ∀ x ∈ s, ExprB 1 x) (fun _ => False) ⟨by simp, by simp⟩ (fun i f s hf ⟨hs1, hs2⟩ => ?_) (fun r hr => hr.elim) (fun s ⟨hs1, hs2⟩ => ?_)
  · unfold Fw_Tape_column.b7
    have hi := lt_of_idx hf
    have hi2 := hp.1
    have hc : f.Columns.length ≤ 10 := hp.2 f (List.mem_of_getElem? hf)
    refine loopL_okc (fun j s' => s'.length ≤ 20 * i + 2 * j ∧ ∀ x ∈ s', ExprB 1 x) (fun _ => False) ⟨by omega, hs2⟩ (fun j c s' hcj ⟨g1, g2⟩ => ?_) (fun r hr => hr.elim) (fun s' ⟨g1, g2⟩ => Ok.pure ⟨by omega, g2⟩)
    have hj := lt_of_idx hcj
    unfold Fw_Tape_column.b6
    refine Ok.ite (fun _ => ?_) (fun _ => Ok.pure ⟨by omega, g2⟩)
    refine Ok.bind (Col_ok (d := 0)) fun e he => ?_
    refine Ok.bind (app_ok (Q := fun r => r = s' ++ [e]) (by simp; unfold big; omega) (by decide) rfl) fun r hr => ?_
    subst hr
    have m1 : ∀ x ∈ s' ++ [e], ExprB 1 x := fun x hx => by
      rcases List.mem_append.1 hx with hx | hx
      · exact g2 x hx
      · rw [List.mem_singleton.1 hx]; exact he
    have j17 : ∀ b, Ok (Fw_Tape_column.j17 k c (s' ++ [e]) b) (SP (fun s' => s'.length ≤ 20 * i + 2 * (j + 1) ∧ ∀ x ∈ s', ExprB 1 x) (fun _ => False) (fun _ => False)) := by
      intro b
      unfold Fw_Tape_column.j17
      refine Ok.ite (fun _ => ?_) (fun _ => Ok.pure ⟨by simp; omega, m1⟩)
      refine Ok.bind (Col_ok (d := 0)) fun e2 he2 => ?_
      refine Ok.bind (app_ok (Q := fun r => r = s' ++ [e] ++ [e2]) (by simp; unfold big; omega) (by decide) rfl) fun r hr => ?_
      subst hr
      refine Ok.pure ⟨by simp; omega, fun x hx => ?_⟩
      rcases List.mem_append.1 hx with hx | hx
      · exact m1 x hx
      · rw [List.mem_singleton.1 hx]; exact he2
    exact Ok.ite (fun _ => j17 _) (fun _ => j17 _)
  · have := hp.1
    refine Ok.ite (fun _ => Ok.pure ⟨ExprB.leaf, ht⟩) (fun hb => ?_)
    simp only [decide_eq_false_iff_not] at hb
    refine Ok.bind (Next_ok (by omega) (by omega) ht) fun q hq => ?_
    exact Ok.bind (pick_ok (Q := ExprB 1) hq.1 hs2) fun x hx => Ok.pure ⟨hx, hq.2⟩
end Go.Proofs.YtiojahpkaogigaaGreatDoor
