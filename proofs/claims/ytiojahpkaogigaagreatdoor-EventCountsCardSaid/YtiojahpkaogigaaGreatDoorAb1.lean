/- The abstract states: frozen values, owned blocks, and what they say of a world. Conditions: none. -/
import Derived.Tactics
import Derived.Orders
import Derived.Laws.AppendOwn
import Derived.Laws.OwnMore
import Derived.Laws.Rows
import Derived.Laws.CopyRow
import Derived.KernelRfl
namespace Go.Ab

/-- What one cell reads as, for good: a plain value, or a slice with what it holds. -/
inductive FV where
  | raw (v : Value)
  | sl (xs : List (List FV))

abbrev Fz := Nat → Nat → Option Value

mutual
/-- A value reads as a frozen value, over the cells that will not be written again. -/
def FR (F : Fz) (v : Value) : FV → Prop
  | .raw u => v = u ∧ u.oneCell' = true
  | .sl xs => ∃ a c, v = .slice a xs.length c ∧ xs.length ≤ c ∧ c ≤ maxLen ∧ (a = none → c = 0) ∧ (xs = [] ∨ ∃ b o sz, a = some ⟨b, o, none⟩ ∧ FRrows F b o sz xs)
def FRrows (F : Fz) (b o sz : Nat) : List (List FV) → Prop
  | [] => True
  | x :: xs => x.length = sz ∧ FRcells F b o x ∧ FRrows F b (o + sz) sz xs
def FRcells (F : Fz) (b o : Nat) : List FV → Prop
  | [] => True
  | x :: xs => (∃ u, F b o = some u ∧ FR F u x) ∧ FRcells F b (o + 1) xs
end

def Fz.le (F G : Fz) : Prop := ∀ b o v, F b o = some v → G b o = some v

theorem Fz.le_refl (F : Fz) : F.le F := fun _ _ _ h => h
theorem Fz.le_trans {F G H : Fz} (h : F.le G) (k : G.le H) : F.le H := fun b o v e => k b o v (h b o v e)

mutual
theorem FR.mono {F G : Fz} (h : F.le G) {v : Value} : ∀ {x : FV}, FR F v x → FR G v x
  | .raw _, hr => by simpa only [FR] using hr
  | .sl xs, hr => by
    simp only [FR] at hr ⊢
    obtain ⟨a, c, h1, h2, h3, h0, h4⟩ := hr
    refine ⟨a, c, h1, h2, h3, h0, ?_⟩
    rcases h4 with h4 | ⟨b, o, sz, h5, h6⟩
    · exact .inl h4
    · exact .inr ⟨b, o, sz, h5, FRrows.mono h h6⟩
theorem FRrows.mono {F G : Fz} (h : F.le G) {b o sz : Nat} : ∀ {xs : List (List FV)}, FRrows F b o sz xs → FRrows G b o sz xs
  | [], _ => by simp only [FRrows]
  | x :: xs, hr => by
    simp only [FRrows] at hr ⊢
    exact ⟨hr.1, FRcells.mono h hr.2.1, FRrows.mono h hr.2.2⟩
theorem FRcells.mono {F G : Fz} (h : F.le G) {b o : Nat} : ∀ {xs : List FV}, FRcells F b o xs → FRcells G b o xs
  | [], _ => by simp only [FRcells]
  | x :: xs, hr => by
    simp only [FRcells] at hr ⊢
    obtain ⟨⟨u, h1, h2⟩, h3⟩ := hr
    exact ⟨⟨u, h _ _ _ h1, FR.mono h h2⟩, FRcells.mono h h3⟩
end

theorem FR.oneCell {F : Fz} {v : Value} {x : FV} (h : FR F v x) : v.oneCell' = true := by
  cases x with
  | raw u => simp only [FR] at h; obtain ⟨rfl, h⟩ := h; exact h
  | sl xs => simp only [FR] at h; obtain ⟨a, c, rfl, _⟩ := h; rfl

theorem FRcells.get {F : Fz} {b o : Nat} {xs : List FV} (h : FRcells F b o xs) {k : Nat} {x : FV} (hk : xs[k]? = some x) : ∃ u, F b (o + k) = some u ∧ FR F u x := by
  induction xs generalizing o k with
  | nil => simp at hk
  | cons y ys ih =>
    simp only [FRcells] at h
    cases k with
    | zero => simp at hk; subst hk; simpa using h.1
    | succ k =>
      have := ih h.2 (k := k) (by simpa using hk)
      simpa [Nat.add_assoc, Nat.add_comm 1 k] using this

theorem FRcells.drop {F : Fz} {b o : Nat} {xs : List FV} (h : FRcells F b o xs) (k : Nat) : FRcells F b (o + k) (xs.drop k) := by
  induction xs generalizing o k with
  | nil => simp [FRcells]
  | cons y ys ih =>
    cases k with
    | zero => simpa using h
    | succ k =>
      simp only [FRcells] at h
      have := ih h.2 k
      simpa [Nat.add_assoc, Nat.add_comm 1 k] using this

theorem FRrows.get {F : Fz} {b o sz : Nat} {xs : List (List FV)} (h : FRrows F b o sz xs) {k : Nat} {x : List FV} (hk : xs[k]? = some x) : x.length = sz ∧ FRcells F b (o + k * sz) x := by
  induction xs generalizing o k with
  | nil => simp at hk
  | cons y ys ih =>
    simp only [FRrows] at h
    cases k with
    | zero => simp at hk; subst hk; simpa using ⟨h.1, h.2.1⟩
    | succ k =>
      have := ih h.2.2 (k := k) (by simpa using hk)
      rw [Nat.add_mul, Nat.one_mul, Nat.add_comm (k * sz) sz, ← Nat.add_assoc]
      exact this

theorem FRrows.of_get {F : Fz} {b sz : Nat} : ∀ {xs : List (List FV)} {o : Nat}, (∀ k x, xs[k]? = some x → x.length = sz ∧ FRcells F b (o + k * sz) x) → FRrows F b o sz xs
  | [], _, _ => by simp only [FRrows]
  | x :: xs, o, h => by
    simp only [FRrows]
    have h0 := h 0 x (by simp)
    refine ⟨h0.1, by simpa using h0.2, FRrows.of_get fun k y hk => ?_⟩
    have := h (k + 1) y (by simpa using hk)
    rw [Nat.add_mul, Nat.one_mul, Nat.add_comm (k * sz) sz, ← Nat.add_assoc] at this
    exact this

theorem FRcells.of_get {F : Fz} {b : Nat} : ∀ {xs : List FV} {o : Nat}, (∀ k x, xs[k]? = some x → ∃ u, F b (o + k) = some u ∧ FR F u x) → FRcells F b o xs
  | [], _, _ => by simp only [FRcells]
  | x :: xs, o, h => by
    simp only [FRcells]
    refine ⟨by simpa using h 0 x (by simp), FRcells.of_get fun k y hk => ?_⟩
    have := h (k + 1) y (by simpa using hk)
    rwa [show o + 1 + k = o + (k + 1) by omega]

/-- What a register holds. 'id': the number of a block of the call's own. -/
inductive PV where
  | c (x : FV)
  | agg (xs : List PV)
  | tup (xs : List PV)
  | ptr (id off : Nat)
  | fptr (cells : List FV)
  | osl (id : Nat)
  | aptr (id sz i off : Nat)
  | map (id : Nat)
  | func (f : FuncId) (cap : List PV)

abbrev Nu := Nat → Value

mutual
def VR (F : Fz) (ν : Nu) (v : Value) : PV → Prop
  | .c x => FR F v x
  | .agg xs => ∃ vs : List Value, v = .agg vs.toArray ∧ VRs F ν vs xs
  | .tup xs => ∃ vs : List Value, v = .tuple vs.toArray ∧ VRs F ν vs xs
  | .ptr id off => ∃ b, ν id = .pointer (some ⟨b, 0, none⟩) ∧ v = .pointer (some ⟨b, off, none⟩)
  | .fptr cells => ∃ b o, v = .pointer (some ⟨b, o, none⟩) ∧ FRcells F b o cells
  | .osl id => v = ν id ∧ v.oneCell' = true
  | .aptr id sz i off => ∃ b n cp, ν id = .slice (some ⟨b, 0, none⟩) n cp ∧ v = .pointer (some ⟨b, i * sz + off, none⟩)
  | .map id => v = ν id ∧ v.oneCell' = true
  | .func f cap => ∃ vs : List Value, v = .func (.func f) #[] vs.toArray ∧ VRs F ν vs cap
def VRs (F : Fz) (ν : Nu) (vs : List Value) : List PV → Prop
  | [] => vs = []
  | x :: xs => ∃ v r, vs = v :: r ∧ VR F ν v x ∧ VRs F ν r xs
end

mutual
/-- Does a register's value speak of the block 's'? -/
def PV.says (s : Nat) : PV → Bool
  | .c _ => false
  | .agg xs => PV.saysL s xs
  | .tup xs => PV.saysL s xs
  | .ptr id _ => id == s
  | .fptr _ => false
  | .osl id => id == s
  | .aptr id _ _ _ => id == s
  | .map id => id == s
  | .func _ cap => PV.saysL s cap
def PV.saysL (s : Nat) : List PV → Bool
  | [] => false
  | x :: xs => x.says s || PV.saysL s xs
end

mutual
theorem VR.mono {F G : Fz} {ν μ : Nu} {new : List Nat} (h : F.le G) (hν : ∀ s, ν s = μ s ∨ s ∈ new) {v : Value} : ∀ {x : PV}, (∀ s ∈ new, x.says s = false) → VR F ν v x → VR G μ v x
  | .c x, _, hr => by simp only [VR] at hr ⊢; exact hr.mono h
  | .agg xs, hs, hr => by
    simp only [VR] at hr ⊢
    obtain ⟨vs, h1, h2⟩ := hr
    exact ⟨vs, h1, VRs.mono h hν (fun s hm => by simpa only [PV.says] using hs s hm) h2⟩
  | .tup xs, hs, hr => by
    simp only [VR] at hr ⊢
    obtain ⟨vs, h1, h2⟩ := hr
    exact ⟨vs, h1, VRs.mono h hν (fun s hm => by simpa only [PV.says] using hs s hm) h2⟩
  | .ptr id off, hs, hr => by
    simp only [VR] at hr ⊢
    rcases hν id with e | e
    · rwa [← e]
    · have := hs id e; simp [PV.says] at this
  | .fptr cells, _, hr => by
    simp only [VR] at hr ⊢
    obtain ⟨b, o, h1, h2⟩ := hr
    exact ⟨b, o, h1, h2.mono h⟩
  | .osl id, hs, hr => by
    simp only [VR] at hr ⊢
    rcases hν id with e | e
    · rwa [← e]
    · have := hs id e; simp [PV.says] at this
  | .aptr id sz i off, hs, hr => by
    simp only [VR] at hr ⊢
    rcases hν id with e | e
    · rwa [← e]
    · have := hs id e; simp [PV.says] at this
  | .map id, hs, hr => by
    simp only [VR] at hr ⊢
    rcases hν id with e | e
    · rwa [← e]
    · have := hs id e; simp [PV.says] at this
  | .func f cap, hs, hr => by
    simp only [VR] at hr ⊢
    obtain ⟨vs, h1, h2⟩ := hr
    exact ⟨vs, h1, VRs.mono h hν (fun s hm => by simpa only [PV.says] using hs s hm) h2⟩
theorem VRs.mono {F G : Fz} {ν μ : Nu} {new : List Nat} (h : F.le G) (hν : ∀ s, ν s = μ s ∨ s ∈ new) {vs : List Value} : ∀ {xs : List PV}, (∀ s ∈ new, PV.saysL s xs = false) → VRs F ν vs xs → VRs G μ vs xs
  | [], _, hr => by simpa only [VRs] using hr
  | x :: xs, hs, hr => by
    simp only [VRs] at hr ⊢
    obtain ⟨v, r, h1, h2, h3⟩ := hr
    refine ⟨v, r, h1, VR.mono h hν (fun s hm => ?_) h2, VRs.mono h hν (fun s hm => ?_) h3⟩
    · have := hs s hm; simp only [PV.saysL, Bool.or_eq_false_iff] at this; exact this.1
    · have := hs s hm; simp only [PV.saysL, Bool.or_eq_false_iff] at this; exact this.2
end

theorem VRs.length {F : Fz} {ν : Nu} : ∀ {xs : List PV} {vs : List Value}, VRs F ν vs xs → vs.length = xs.length
  | [], vs, h => by simp only [VRs] at h; simp [h]
  | x :: xs, vs, h => by
    simp only [VRs] at h
    obtain ⟨v, r, rfl, _, h3⟩ := h
    simp [VRs.length h3]

theorem VRs.get {F : Fz} {ν : Nu} : ∀ {xs : List PV} {vs : List Value}, VRs F ν vs xs → ∀ {k : Nat} {x : PV}, xs[k]? = some x → ∃ v, vs[k]? = some v ∧ VR F ν v x
  | [], vs, h, k, x, hk => by simp at hk
  | y :: ys, vs, h, k, x, hk => by
    simp only [VRs] at h
    obtain ⟨v, r, rfl, h2, h3⟩ := h
    cases k with
    | zero => simp at hk; subst hk; exact ⟨v, by simp, h2⟩
    | succ k => simpa using VRs.get h3 (k := k) (x := x) (by simpa using hk)

theorem VRs.of_get {F : Fz} {ν : Nu} : ∀ {xs : List PV} {vs : List Value}, vs.length = xs.length → (∀ (k : Nat) (x : PV) (v : Value), xs[k]? = some x → vs[k]? = some v → VR F ν v x) → VRs F ν vs xs
  | [], vs, h, _ => by simp only [VRs]; exact List.eq_nil_of_length_eq_zero (by simpa using h)
  | y :: ys, [], h, _ => by simp at h
  | y :: ys, v :: r, h, hg => by
    simp only [VRs]
    exact ⟨v, r, rfl, hg 0 y v (by simp) (by simp), VRs.of_get (by simpa using h) fun k x u hx hu => hg (k + 1) x u (by simpa using hx) (by simpa using hu)⟩

theorem VRs.drop {F : Fz} {ν : Nu} {xs : List PV} {vs : List Value} (h : VRs F ν vs xs) (k : Nat) : VRs F ν (vs.drop k) (xs.drop k) :=
  VRs.of_get (by simp [h.length]) fun j x v hx hv => by
    rw [List.getElem?_drop] at hx hv
    obtain ⟨u, hu, hr⟩ := h.get hx
    rw [hu] at hv; simp at hv; exact hv ▸ hr
theorem VRs.take {F : Fz} {ν : Nu} {xs : List PV} {vs : List Value} (h : VRs F ν vs xs) (k : Nat) : VRs F ν (vs.take k) (xs.take k) :=
  VRs.of_get (by simp [h.length]) fun j x v hx hv => by
    rw [List.getElem?_take] at hx hv
    by_cases hj : j < k
    · simp only [hj, if_true] at hx hv
      obtain ⟨u, hu, hr⟩ := h.get hx
      rw [hu] at hv; simp at hv; exact hv ▸ hr
    · simp [hj] at hx
theorem VRs.append {F : Fz} {ν : Nu} {xs ys : List PV} {vs us : List Value} (h : VRs F ν vs xs) (k : VRs F ν us ys) : VRs F ν (vs ++ us) (xs ++ ys) := by
  induction xs generalizing vs with
  | nil => simp only [VRs] at h; subst h; simpa using k
  | cons x xs ih =>
    simp only [VRs] at h
    obtain ⟨v, r, rfl, h2, h3⟩ := h
    simp only [List.cons_append, VRs]
    exact ⟨v, r ++ us, rfl, h2, ih h3⟩

/-- A block of the call's own: a variable with its cells, or an array with its elements (what is behind them may be appended to). -/
inductive Ent where
  | var (cells : List PV)
  | arr (wr : Bool) (e sz : Nat) (xs : List (List FV))
  | mp (es : List (Value × Value))

def Ent.says (s : Nat) : Ent → Bool
  | .var cells => PV.saysL s cells
  | _ => false

def blk : Value → Option Nat
  | .pointer (some a) => some a.block
  | .slice (some a) _ _ => some a.block
  | .map (some r) => some r
  | _ => none

/-- Cells that hold a list of elements' cells. -/
def Rws (F : Fz) (sz : Nat) (xs : List (List FV)) (us : List Value) : Prop :=
  us.length = xs.length * sz ∧ (∀ (k : Nat) (x : List FV), xs[k]? = some x → x.length = sz) ∧ ∀ (k j : Nat) (x : List FV) (y : FV), xs[k]? = some x → x[j]? = some y → ∃ u, us[k * sz + j]? = some u ∧ FR F u y

def ER (F : Fz) (ν : Nu) (w : World) (h : Value) : Ent → Prop
  | .var cells => ∃ b cs ty, h = .pointer (some ⟨b, 0, none⟩) ∧ w.heap[b]? = some (.cells cs ty (0, 0)) ∧ (∀ u ∈ cs.toList, u.oneCell' = true) ∧ VRs F ν cs.toList cells ∧ ∀ o, F b o = none
  | .arr wr e sz xs => 0 < sz ∧ ∃ us, w.ownsRow 0 e sz h xs.length us ∧ Rws F sz xs us ∧ ∀ b, blk h = some b → ∀ o v, F b o = some v → wr = false ∧ us[o]? = some v
  | .mp es => ∃ r ms ck, h = .map (some r) ∧ w.heap[r]? = some (.map ms ck) ∧ ms.toList.map (fun m => (m.key, m.val)) = es

abbrev Mem := Nat → Option Ent

structure St (F : Fz) (ν : Nu) (M : Mem) (w : World) : Prop where
  fz : ∀ b o v, F b o = some v → w.cell? ⟨b, o, none⟩ = some v
  ents : ∀ id e, M id = some e → ER F ν w (ν id) e
  dist : ∀ i j d e b, M i = some d → M j = some e → blk (ν i) = some b → blk (ν j) = some b → i = j

/-- What has become of a world: the call's own blocks apart, all that lay there lies there as it lay. -/
structure Ext (F : Fz) (ν : Nu) (M : Mem) (w : World) (F' : Fz) (ν' : Nu) (M' : Mem) (w' : World) : Prop where
  os : w'.os = w.os
  tape : w'.tape = w.tape
  output : w'.output = w.output
  size : w.heap.size ≤ w'.heap.size
  mono : F.le F'
  keep : ∀ b, b < w.heap.size → (∀ id e, M id = some e → blk (ν id) ≠ some b) → w'.heap[b]? = w.heap[b]? ∧ ∀ o, F' b o = F b o
  blocks : ∀ id e b, M' id = some e → blk (ν' id) = some b → (∃ i d, M i = some d ∧ blk (ν i) = some b) ∨ w.heap.size ≤ b

theorem Ext.refl (F : Fz) (ν : Nu) (M : Mem) (w : World) : Ext F ν M w F ν M w :=
  ⟨rfl, rfl, rfl, Nat.le_refl _, F.le_refl, fun _ _ _ => ⟨rfl, fun _ => rfl⟩, fun id e _ h k => .inl ⟨id, e, h, k⟩⟩

theorem Ext.trans {F F' F'' : Fz} {ν ν' ν'' : Nu} {M M' M'' : Mem} {w w' w'' : World} (h : Ext F ν M w F' ν' M' w') (k : Ext F' ν' M' w' F'' ν'' M'' w'') : Ext F ν M w F'' ν'' M'' w'' := by
  refine ⟨k.os.trans h.os, k.tape.trans h.tape, k.output.trans h.output, Nat.le_trans h.size k.size, Fz.le_trans h.mono k.mono, fun b hb hn => ?_, fun id e b hm hb => ?_⟩
  · have h1 := h.keep b hb hn
    have h2 := k.keep b (Nat.lt_of_lt_of_le hb h.size) fun id e hm he => by
      rcases h.blocks id e b hm he with ⟨i, d, h3, h4⟩ | h3
      · exact hn i d h3 h4
      · omega
    exact ⟨h2.1.trans h1.1, fun o => (h2.2 o).trans (h1.2 o)⟩
  · rcases k.blocks id e b hm hb with ⟨i, d, h3, h4⟩ | h3
    · exact h.blocks i d b h3 h4
    · exact .inr (Nat.le_trans h.size h3)

/-- A smaller memory. -/
def Mem.le (M N : Mem) : Prop := ∀ id e, M id = some e → N id = some e

theorem St.less {F : Fz} {ν : Nu} {M N : Mem} {w : World} (h : St F ν N w) (hm : Mem.le M N) : St F ν M w :=
  ⟨h.fz, fun id e he => h.ents id e (hm id e he), fun i j d e b hi hj => h.dist i j d e b (hm i d hi) (hm j e hj)⟩
theorem Ext.less {F F' : Fz} {ν ν' : Nu} {M M' N' : Mem} {w w' : World} (h : Ext F ν M w F' ν' N' w') (hm : Mem.le M' N') : Ext F ν M w F' ν' M' w' :=
  ⟨h.os, h.tape, h.output, h.size, h.mono, h.keep, fun id e b he => h.blocks id e b (hm id e he)⟩

def updM (M : Mem) : List (Nat × Option Ent) → Mem
  | [] => M
  | (i, e) :: r => fun id => if id = i then e else updM M r id

/-- An operation, told without its surroundings: from what it looks at (registers' values, blocks of the call's own) to the value that it yields and what becomes of those blocks. -/
def OpT (P : Program) (o : Oper) (ins : List (Operand × PV)) (mem : List (Nat × Ent)) (pv : Option PV) (upd : List (Nat × Option Ent)) (new : List Nat) : Prop :=
  ∀ (a : Act) (w : World) (F : Fz) (ν : Nu) (M : Mem), St F ν M w → (∀ x ∈ ins, VR F ν (a.eval x.1) x.2) → (∀ x ∈ mem, M x.1 = some x.2) → (∀ s ∈ new, M s = none) →
    (∀ id e, M id = some e → ∀ s ∈ new, e.says s = false) →
    ∀ (K : Act → World → Prop) (Q : Exit → Act → World → Prop),
      (∀ v w' F' ν', (∀ p, pv = some p → VR F' ν' v p) → St F' ν' (updM M upd) w' → Ext F ν M w F' ν' (updM M upd) w' → (∀ id, id ∉ new → ν' id = ν id) → K (a.put o.dst v) w') → o.wp P a w K Q
end Go.Ab
