/- Plain lemmas: loops, appends, indexes. Conditions: none. -/
import Derived.Test.YtiojahpkaogigaaGreatDoorAb27
namespace Go.Pl
open Go Go.Ab

def Ok {α : Type} (m : Option α) (Q : α → Prop) : Prop := ∃ r, m = some r ∧ Q r
theorem Ok.pure {α : Type} {x : α} {Q : α → Prop} (h : Q x) : Ok (some x) Q := ⟨x, rfl, h⟩
theorem Ok.bind {α β : Type} {m : Option α} {f : α → Option β} {Q : α → Prop} {R : β → Prop} (h : Ok m Q) (k : ∀ x, Q x → Ok (f x) R) : Ok (m.bind f) R := by
  obtain ⟨x, rfl, hx⟩ := h; exact k x hx
theorem Ok.ite {α : Type} {b : Bool} {x y : Option α} {Q : α → Prop} (h1 : b = true → Ok x Q) (h2 : b = false → Ok y Q) : Ok (if b = true then x else y) Q := by
  cases b with
  | true => simpa using h1 rfl
  | false => simpa using h2 rfl
theorem Ok.mono {α : Type} {m : Option α} {Q R : α → Prop} (h : Ok m Q) (k : ∀ x, Q x → R x) : Ok m R := by
  obtain ⟨x, e, hx⟩ := h; exact ⟨x, e, k x hx⟩
theorem Ok.of {α : Type} {m : Option α} {x : α} {Q : α → Prop} (h : m = some x) (hq : Q x) : Ok m Q := ⟨x, h, hq⟩
theorem bind_eq {α β : Type} {m : Option α} {x : α} {f : α → Option β} (h : m = some x) : m.bind f = f x := by rw [h]; rfl

/-- What a list may be long. -/
abbrev big : Nat := 1000000
theorem app_eq {α : Type} {nb : Nat} {xs ys : List α} (h : xs.length + ys.length ≤ big) (hn : nb ≤ 1000) : app nb xs ys = some (xs ++ ys) := by
  unfold app
  rw [if_pos]
  refine ⟨?_, ?_⟩
  · calc (xs.length + ys.length) * nb ≤ 1000000 * 1000 := Nat.mul_le_mul h hn
      _ ≤ _ := by decide
  · unfold maxLen; unfold big at h; omega
theorem app_ok {α : Type} {nb : Nat} {xs ys : List α} {Q : List α → Prop} (h : xs.length + ys.length ≤ big) (hn : nb ≤ 1000) (hq : Q (xs ++ ys)) : Ok (app nb xs ys) Q := ⟨_, app_eq h hn, hq⟩
theorem idx_eq {α : Type} {xs : List α} {i : Nat} {x : α} (h : xs[i]? = some x) : idx xs (i : Int) = some x := by
  unfold idx; rw [if_pos (Int.natCast_nonneg _)]; simpa using h
theorem idx_ok {α : Type} {xs : List α} {i : Int} {Q : α → Prop} (h0 : 0 ≤ i) (h1 : i < xs.length) (hq : ∀ x, xs[i.toNat]? = some x → Q x) : Ok (idx xs i) Q := by
  have hl : i.toNat < xs.length := by omega
  refine ⟨xs[i.toNat], ?_, hq _ (by simp [hl])⟩
  unfold idx; rw [if_pos h0]; simp [hl]
theorem slc_eq {α : Type} {xs : List α} {l h : Int} (h0 : 0 ≤ l) (h1 : l ≤ h) (h2 : h ≤ xs.length) : slc xs l h = some ((xs.take h.toNat).drop l.toNat) := by
  unfold slc; rw [if_pos ⟨h0, h1, h2⟩]

theorem w64_in {n : Int} (h1 : -9223372036854775808 ≤ n) (h2 : n ≤ 9223372036854775807) : w64 n = n := by
  unfold w64; rw [IntWalk.i64_left, IntWalk.wrap64_in]; exact ⟨h1, h2⟩

/-- What a round leaves. -/
abbrev SP {S R : Type} (C : S → Prop) (B : S → Prop) (D : R → Prop) : Step R S → Prop
  | .cont s => C s
  | .brk s => B s
  | .ret r => D r
section
variable {α S R Z : Type}
/-- A loop with an invariant. -/
theorem loopL_ok_from {body : α → Nat → S → Option (Step R S)} (Inv : Nat → S → Prop) (QB : S → Prop) (QR : R → Prop) : ∀ (xs : List α) (n : Nat) (s0 : S),
    (∀ i x s, xs[i]? = some x → Inv (n + i) s → Ok (body x (n + i) s) (SP (Inv (n + i + 1)) QB QR)) → Inv n s0 →
    Ok (loopL body xs n s0) (fun o => match o with | .go s => Inv (n + xs.length) s ∨ QB s | .ret r => QR r)
  | [], n, s0, _, h0 => ⟨.go s0, rfl, .inl h0⟩
  | x :: xs, n, s0, h, h0 => by
    obtain ⟨o, ho, hq⟩ := h 0 x s0 (by simp) h0
    simp only [Nat.add_zero] at ho hq
    simp only [loopL, ho]
    cases o with
    | cont s' =>
      simp only at hq ⊢
      have := loopL_ok_from Inv QB QR xs (n + 1) s' (fun i y s hy hi => by
        have := h (i + 1) y s (by simpa using hy) (by rwa [show n + (i + 1) = n + 1 + i by omega])
        rwa [show n + (i + 1) = n + 1 + i by omega] at this) hq
      rwa [show n + 1 + xs.length = n + (x :: xs).length by simp; omega] at this
    | brk s' => exact ⟨_, rfl, .inr hq⟩
    | ret r => exact ⟨_, rfl, hq⟩
theorem loopL_ok {body : α → Nat → S → Option (Step R S)} {xs : List α} {s0 : S} {emb : R → Option Z} {F : S → Option Z} {Q : Z → Prop} (Inv : Nat → S → Prop) (QB : S → Prop) (QR : R → Prop)
    (h0 : Inv 0 s0) (h : ∀ i x s, xs[i]? = some x → Inv i s → Ok (body x i s) (SP (Inv (i + 1)) QB QR))
    (hr : ∀ r, QR r → Ok (emb r) Q) (hg : ∀ s, Inv xs.length s ∨ QB s → Ok (F s) Q) : Ok ((loopL body xs 0 s0).bind fun out => Out.el out emb F) Q := by
  obtain ⟨o, ho, hq⟩ := loopL_ok_from Inv QB QR xs 0 s0 (fun i x s hx hi => by simpa using h i x s hx (by simpa using hi)) h0
  rw [bind_eq ho]
  cases o with
  | go s => exact hg s (by simpa using hq)
  | ret r => exact hr r hq
/-- The same without 'break'. -/
theorem loopL_okc {body : α → Nat → S → Option (Step R S)} {xs : List α} {s0 : S} {emb : R → Option Z} {F : S → Option Z} {Q : Z → Prop} (Inv : Nat → S → Prop) (QR : R → Prop)
    (h0 : Inv 0 s0) (h : ∀ i x s, xs[i]? = some x → Inv i s → Ok (body x i s) (SP (Inv (i + 1)) (fun _ => False) QR))
    (hr : ∀ r, QR r → Ok (emb r) Q) (hg : ∀ s, Inv xs.length s → Ok (F s) Q) : Ok ((loopL body xs 0 s0).bind fun out => Out.el out emb F) Q :=
  loopL_ok Inv (fun _ => False) QR h0 h hr fun s hs => hg s (hs.resolve_right id)

/-- A loop that appends. -/
theorem loop_flat_from {β : Type} {body : α → Nat → List β → Option (Step R (List β))} (f : α → List β) : ∀ (xs : List α) (n : Nat) (s0 : List β), s0.length + (xs.flatMap f).length ≤ big →
    (∀ i x s, x ∈ xs → s.length + (f x).length ≤ big → body x i s = some (.cont (s ++ f x))) → loopL body xs n s0 = some (.go (s0 ++ xs.flatMap f))
  | [], n, s0, _, _ => by simp [loopL]
  | x :: xs, n, s0, hb, h => by
    simp only [List.flatMap_cons, List.length_append] at hb
    simp only [loopL, h n x s0 (by simp) (by omega)]
    rw [loop_flat_from f xs (n + 1) _ (by simp only [List.length_append]; omega) fun i y s hy => h i y s (by simp [hy])]
    simp
theorem loop_flat {β : Type} {body : α → Nat → List β → Option (Step R (List β))} (f : α → List β) {xs : List α} {s0 : List β} (hb : s0.length + (xs.flatMap f).length ≤ big)
    (h : ∀ i x s, x ∈ xs → s.length + (f x).length ≤ big → body x i s = some (.cont (s ++ f x))) {emb : R → Option Z} {F : List β → Option Z} : ((loopL body xs 0 s0).bind fun out => Out.el out emb F) = F (s0 ++ xs.flatMap f) := by
  rw [bind_eq (loop_flat_from f xs 0 s0 hb h)]; rfl

/-- A loop that looks for the first. -/
theorem loop_find_from {body : α → Nat → Unit → Option (Step R Unit)} (p : α → Bool) (g : α → Nat → R) : ∀ (xs : List α) (n : Nat),
    (∀ i x, x ∈ xs → body x i () = some (if p x then .ret (g x i) else .cont ())) → loopL body xs n () = some (match xs.findIdx? p with | some j => (match xs[j]? with | some x => .ret (g x (n + j)) | none => .go ()) | none => .go ())
  | [], n, _ => rfl
  | x :: xs, n, h => by
    simp only [loopL, h n x (by simp), List.findIdx?_cons]
    cases hp : p x with
    | true => simp
    | false =>
      simp only [if_false, Bool.false_eq_true]
      rw [loop_find_from p g xs (n + 1) fun i y hy => h i y (by simp [hy])]
      cases hf : xs.findIdx? p with
      | none => simp
      | some j => simp [Nat.add_assoc, Nat.add_comm 1 j]
theorem loop_find {body : α → Nat → Unit → Option (Step R Unit)} (p : α → Bool) (g : α → Nat → R) {xs : List α} (h : ∀ i x, x ∈ xs → body x i () = some (if p x then .ret (g x i) else .cont ())) {emb : R → Option Z} {F : Unit → Option Z} :
    ((loopL body xs 0 ()).bind fun out => Out.el out emb F) = match xs.findIdx? p with | some j => (match xs[j]? with | some x => emb (g x j) | none => F ()) | none => F () := by
  rw [bind_eq (loop_find_from p g xs 0 h)]
  cases xs.findIdx? p with
  | none => rfl
  | some j =>
    cases hj : xs[j]? with
    | none => simp [Out.el, hj]
    | some x => simp [Out.el, hj]
end
/-- The first place, or -1. -/
def findI {α : Type} (p : α → Bool) (xs : List α) : Int := match xs.findIdx? p with | some j => (j : Int) | none => -1
theorem findI_neg {α : Type} {p : α → Bool} {xs : List α} (h : findI p xs < 0) : ∀ x ∈ xs, p x = false := by
  unfold findI at h
  split at h
  · omega
  · rename_i hf; simpa using List.findIdx?_eq_none_iff.1 hf
theorem findI_pos {α : Type} {p : α → Bool} {xs : List α} (h : 0 ≤ findI p xs) : ∃ (j : Nat) (x : α), findI p xs = (j : Int) ∧ xs[j]? = some x ∧ p x = true ∧ j < xs.length := by
  cases hf : xs.findIdx? p with
  | none => simp [findI, hf] at h
  | some j =>
    obtain ⟨hl, hp, _⟩ := List.findIdx?_eq_some_iff_getElem.1 hf
    exact ⟨j, xs[j], by simp [findI, hf], by simp [hl], hp, hl⟩
theorem loop_findI {α : Type} {body : α → Nat → Unit → Option (Step Int Unit)} (p : α → Bool) {xs : List α} (h : ∀ i x, x ∈ xs → body x i () = some (if p x then .ret (i : Int) else .cont ())) :
    ((loopL body xs 0 ()).bind fun out => Out.el out (fun r0 => some r0) fun _ => (some (-1))) = some (findI p xs) := by
  rw [loop_find p (fun _ i => (i : Int)) h]
  unfold findI
  cases hf : xs.findIdx? p with
  | none => rfl
  | some j =>
    obtain ⟨hl, _⟩ := List.findIdx?_eq_some_iff_getElem.1 hf
    simp [hl]
end Go.Pl
