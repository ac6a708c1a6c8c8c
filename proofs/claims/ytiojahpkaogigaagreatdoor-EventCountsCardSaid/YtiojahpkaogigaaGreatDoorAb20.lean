/- What a simple operation leaves, and what an entry of a script makes of an operation. Conditions: none. -/
import Derived.Test.YtiojahpkaogigaaGreatDoorAb19
namespace Go.Ab

def opsP (Γ : Gl) (r : Regs) : List Operand → Option (List PV)
  | [] => some []
  | x :: xs => match opP Γ r x, opsP Γ r xs with
    | some p, some ps => some (p :: ps)
    | _, _ => none
theorem opsP_ok {Γ : Gl} {r : Regs} : ∀ {xs : List Operand} {ps : List PV}, opsP Γ r xs = some ps → InsOK Γ r (xs.zip ps) ∧ xs.length = ps.length
  | [], ps, h => by simp only [opsP, Option.some.injEq] at h; subst h; exact ⟨trivial, rfl⟩
  | x :: xs, ps, h => by
    simp only [opsP] at h
    split at h
    · rename_i p qs h1 h2
      cases h
      have ih := opsP_ok h2
      exact ⟨⟨⟨p, h1, Le.same⟩, ih.1⟩, by simp [ih.2]⟩
    · cases h

theorem zip_parts {α β : Type} : ∀ (l : List (α × β)), (l.map (·.1)).zip (l.map (·.2)) = l
  | [] => rfl
  | x :: l => by simp [zip_parts l]

/-- Simple operations. -/
def effS (T : Tb) (Γ : Gl) (o : Oper) (r : Regs) (m : MemL) (s : Nat) : Option Eff :=
  match o.op with
  | .binOp op t x y _ => match opP Γ r x, opP Γ r y with
    | some (.c (.raw v1)), some (.c (.raw v2)) => match binV T op t v1 v2 with
      | some v => some ⟨[(x, .c (.raw v1)), (y, .c (.raw v2))], [], some (.c (.raw v)), [], []⟩
      | none => match op, v1, v2, T.si t with
        | .eql, .slice none 0 0, .slice none 0 0, some _ => some ⟨[(x, .c (.raw (.slice none 0 0))), (y, .c (.raw (.slice none 0 0)))], [], some (.c (.raw (.bool true))), [], []⟩
        | .eql, .slice (some a) n c, .slice none 0 0, some _ => some ⟨[(x, .c (.raw (.slice (some a) n c))), (y, .c (.raw (.slice none 0 0)))], [], some (.c (.raw (.bool false))), [], []⟩
        | _, _, _, _ => none
    | _, _ => none
  | .unOp op _ x => match op, opP Γ r x with
    | .not, some (.c (.raw (.bool b))) => some ⟨[(x, .c (.raw (.bool b)))], [], some (.c (.raw (.bool (!b)))), [], []⟩
    | .neg, some (.c (.raw (.int k n))) => some ⟨[(x, .c (.raw (.int k n)))], [], some (.c (.raw (.int k (k.wrap (0 - n))))), [], []⟩
    | _, _ => none
  | .convert a t x => match T.ik a, T.ik t, opP Γ r x with
    | some _, some k, some (.c (.raw (.int j n))) => some ⟨[(x, .c (.raw (.int j n)))], [], some (.c (.raw (.int k (k.wrap n)))), [], []⟩
    | _, _, _ => none
  | .field t x f => match opP Γ r x, T.fg t f with
    | some (.agg ps), some (off, ft) => match T.t.ti ft with
      | some (true, n) => bif Nat.ble (off + n) ps.length then some ⟨[(x, .agg ps)], [], some (.agg ((ps.drop off).take n)), [], []⟩ else none
      | some (false, 1) => match ps[off]? with
        | some p => some ⟨[(x, .agg ps)], [], some p, [], []⟩
        | none => none
      | _ => none
    | _, _ => none
  | .build t l => match T.bi t, opsP Γ r (l.toList.map (·.2)) with
    | some (zs, pl), some ps => match ps.all PV.flat, fillP (fun i => pl[i]?) (zs.map fun v => .c (.raw v)) ((l.toList.map (·.1)).zip ps) with
      | true, some out => some ⟨(l.toList.map (·.2)).zip ps, [], some (.agg out), [], []⟩
      | _, _ => none
    | _, _ => none
  | .makeFunc (.func f) a l => match a.toList, opsP Γ r l.toList with
    | [], some ps => some ⟨l.toList.zip ps, [], some (.func f ps), [], []⟩
    | _, _ => none
  | .makeMap _ none => some ⟨[], [], some (.map s), [(s, some (.mp []))], [s]⟩
  | .nilCheck x => match opP Γ r x with
    | some (.ptr id off) => some ⟨[(x, .ptr id off)], [], some (.ptr id off), [], []⟩
    | some (.fptr c) => some ⟨[(x, .fptr c)], [], some (.fptr c), [], []⟩
    | some (.aptr id z i f) => some ⟨[(x, .aptr id z i f)], [], some (.aptr id z i f), [], []⟩
    | _ => none
  | .pick _ _ _ => none
  | .call c => match c.callee, c.args.toList, c.argTypes.toList with
    | .builtin .len, [x], [t] => match opP Γ r x with
      | some (.c (.raw (.string b))) => bif T.st t then some ⟨[(x, .c (.raw (.string b)))], [], some (.c (.raw (.int .i64 (strL b).length))), [], []⟩ else none
      | some (.c (.raw (.slice none 0 0))) => match T.si t with
        | some _ => some ⟨[(x, .c (.raw (.slice none 0 0)))], [], some (.c (.raw (.int .i64 0))), [], []⟩
        | none => none
      | _ => none
    | .builtin .min, [x, y], _ => match opP Γ r x, opP Γ r y with
      | some (.c (.raw (.int k a))), some (.c (.raw (.int k' b))) => bif sameK k k' then some ⟨[(x, .c (.raw (.int k a))), (y, .c (.raw (.int k b)))], [], some (.c (.raw (.int k (if b < a then b else a)))), [], []⟩ else none
      | _, _ => none
    | _, _, _ => none
  | _ => effA T.t Γ o r m s

theorem call_eq {c : Call} {x : Builtin} {a : List Operand} {t : List TypeId} (h1 : c.callee = .builtin x) (h2 : c.args.toList = a) (h3 : c.argTypes.toList = t) : Op.call c = .call { callee := .builtin x, args := a.toArray, argTypes := t.toArray } := by
  cases c; simp only at h1 h2 h3; subst h1; subst h2; subst h3; rfl

theorem effS_ok {P : Program} {T : Tb} (hT : TbOK P T) {Γ : Gl} {o : Oper} {r : Regs} {m : MemL} {s : Nat} {e : Eff} (h : effS T Γ o r m s = some e) : OpTG P Γ o e.ins e.mem e.pv e.upd e.new ∧ InsOK Γ r e.ins ∧ MemOK m e.mem := by
  unfold effS at h
  split at h
  · rename_i op t x y u ho
    split at h
    · rename_i v1 v2 h1 h2
      split at h
      · rename_i v hv
        cases h
        obtain ⟨g1, g2⟩ := binV_ok (x := x) (y := y) hT hv
        exact ⟨(OpT.bin ho g1 g2).g, ⟨⟨_, h1, Le.same⟩, ⟨_, h2, Le.same⟩, trivial⟩, trivial⟩
      · split at h
        · rename_i hsi _
          cases h
          exact ⟨(OpT.bin ho (bin_nilT (hT.si _ _ _ hsi).desc) rfl).g, ⟨⟨_, h1, Le.same⟩, ⟨_, h2, Le.same⟩, trivial⟩, trivial⟩
        · rename_i hsi _
          cases h
          exact ⟨(OpT.bin ho (bin_nilF _ _ _ (hT.si _ _ _ hsi).desc) rfl).g, ⟨⟨_, h1, Le.same⟩, ⟨_, h2, Le.same⟩, trivial⟩, trivial⟩
        · cases h
    · cases h
  · rename_i op t x ho
    split at h
    · rename_i b hx; cases h; exact ⟨(OpT.un ho (un_not b) rfl).g, ⟨⟨_, hx, Le.same⟩, trivial⟩, trivial⟩
    · rename_i k n hx; cases h; exact ⟨(OpT.un ho (un_neg k n) rfl).g, ⟨⟨_, hx, Le.same⟩, trivial⟩, trivial⟩
    · cases h
  · rename_i a t x ho
    split at h
    · rename_i k' k j n h1 h2 h3
      cases h
      exact ⟨(OpT.conv ho (conv_int j n (hT.ik _ _ h1) (hT.ik _ _ h2)) rfl).g, ⟨⟨_, h3, Le.same⟩, trivial⟩, trivial⟩
    · cases h
  · rename_i t x f ho
    split at h
    · rename_i ps off ft h1 h2
      split at h
      · rename_i n h3
        cases hb : Nat.ble (off + n) ps.length with
        | false => rw [hb] at h; cases h
        | true => rw [hb] at h; cases h; exact ⟨(OpT.fieldG ho (hT.fg _ _ _ _ h2) (hT.t.ti _ _ _ h3) rfl (Nat.le_of_ble_eq_true hb)).g, ⟨⟨_, h1, Le.same⟩, trivial⟩, trivial⟩
      · rename_i h3
        split at h
        · rename_i p h4; cases h; exact ⟨(OpT.field1 ho (hT.fg _ _ _ _ h2) (hT.t.ti _ _ _ h3) h4).g, ⟨⟨_, h1, Le.same⟩, trivial⟩, trivial⟩
        · cases h
      · cases h
    · cases h
  · rename_i t l ho
    split at h
    · rename_i zs pl ps h1 h2
      split at h
      · rename_i out h3 h4
        cases h
        obtain ⟨h5, h6⟩ := opsP_ok h2
        refine ⟨(OpT.build (is := l.toList.map (·.1)) (xs := l.toList.map (·.2)) ?_ (hT.bi _ _ _ h1) ?_ h6 h3 h4).g, h5, trivial⟩
        · rw [zip_parts]; exact ho
        · rw [← h6]; simp
      · cases h
    · cases h
  · rename_i f a l ho
    split at h
    · rename_i ps h1 h2
      cases h
      obtain ⟨h5, h6⟩ := opsP_ok h2
      refine ⟨(OpT.makeFunc (xs := l.toList) ?_ h6).g, h5, trivial⟩
      rw [ho]
      have : a = #[] := by cases a; simp only at h1; subst h1; rfl
      subst this; rfl
    · cases h
  · rename_i t ho; cases h; exact ⟨(OpT.makeMap ho).g, trivial, trivial⟩
  · rename_i x ho
    split at h
    · rename_i id off hx; cases h; exact ⟨(OpT.nilCheck ho rfl).g, ⟨⟨_, hx, Le.same⟩, trivial⟩, trivial⟩
    · rename_i c hx; cases h; exact ⟨(OpT.nilCheck ho rfl).g, ⟨⟨_, hx, Le.same⟩, trivial⟩, trivial⟩
    · rename_i c hx; cases h; exact ⟨(OpT.nilCheck ho rfl).g, ⟨⟨_, hx, Le.same⟩, trivial⟩, trivial⟩
    · cases h
  · cases h
  · rename_i c ho
    split at h
    · rename_i x t h1 h2 h3
      have ho' := ho.trans (call_eq h1 h2 h3)
      split at h
      · rename_i b hx
        cases hb : T.st t with
        | false => rw [hb] at h; cases h
        | true =>
          rw [hb] at h; cases h
          refine ⟨?_, ⟨⟨_, hx, Le.same⟩, trivial⟩, trivial⟩
          have := (OpT.lenS (P := P) (o := o) (x := x) (l := strL b) ho' (hT.st _ hb)).g (Γ := Γ)
          rw [mkS_strL] at this; exact this
      · rename_i hx
        split at h
        · rename_i sz hsi; cases h; exact ⟨(OpT.lenN ho' (hT.si _ _ _ hsi).desc).g, ⟨⟨_, hx, Le.same⟩, trivial⟩, trivial⟩
        · cases h
      · cases h
    · rename_i x y h1 h2
      have ho' := ho.trans (call_eq h1 h2 rfl)
      split at h
      · rename_i k a k' b h3 h4
        cases hk : sameK k k' with
        | false => rw [hk] at h; cases h
        | true =>
          have := sameK_eq hk
          subst this
          rw [hk] at h; cases h
          exact ⟨(OpT.min2 ho').g, ⟨⟨_, h3, Le.same⟩, ⟨_, h4, Le.same⟩, trivial⟩, trivial⟩
      · cases h
    · cases h
  · exact effA_ok hT.t h
end Go.Ab
