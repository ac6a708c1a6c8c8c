/- Facts on types as the printed texts bear them; how a body ends; small words. Conditions: none. -/
import Derived.Test.YtiojahpkaogigaaGreatDoorAb11
namespace Go.Ab
variable {wr wr2 : Bool}

section
variable {P : Program}
theorem FI.mk' {s f off n : Nat} {fs : Array Field} {fd : Field} (h1 : P.underlying s = some (.struct fs)) (h2 : fs[f]? = some fd) (h3 : fd.offset = off) (h4 : (P.info? fd.type).map (·.size) = some (n + 1)) : FI P s f off := by
  cases hq : P.info? fd.type with
  | none => simp [hq] at h4
  | some i => simp [hq] at h4; exact ⟨⟨fs, fd, i, h1, h2, h3, hq, by omega⟩⟩
theorem AT.mk' {t e sz bytes : Nat} (h1 : P.underlying t = some (.slice e)) (h2 : (P.info? e).map (fun i => (i.size, i.bytes, i.zero.map fun z => z.cells.size)) = some (sz, bytes, some sz)) (h3 : 0 < sz) : AT P t e sz bytes := by
  cases hq : P.info? e with
  | none => simp [hq] at h2
  | some i =>
    simp [hq] at h2
    obtain ⟨h4, h5, z, h6, h7⟩ := h2
    exact ⟨h1, ⟨i, z, hq, h4, h5, h6, h7⟩, h3⟩
/-- A type's zero cells. -/
structure ZI (P : Program) (t : TypeId) (zs : List Value) : Prop where
  zero : ∃ i z, P.info? t = some i ∧ i.zero = some z ∧ z.cells = zs.toArray ∧ i.size = zs.length
  one : zs.all (·.oneCell') = true
theorem ZI.mk' {t : Nat} {zs : List Value} (h : (P.info? t).map (fun i => (i.size, i.zero.map fun z => z.cells)) = some (zs.length, some zs.toArray)) (h1 : zs.all (·.oneCell') = true) : ZI P t zs := by
  cases hq : P.info? t with
  | none => simp [hq] at h
  | some i =>
    simp [hq] at h
    obtain ⟨h2, z, h3, h4⟩ := h
    exact ⟨⟨i, z, hq, h3, h4, h2⟩, h1⟩
theorem BI.mk' {t : Nat} {zs : List Value} {fs : Array Field} {places : List (Nat × Nat)} (hz : ZI P t zs) (h1 : P.underlying t = some (.struct fs)) (h2 : ∀ w, (fs.mapM fun f => do pure (f.offset, ← sizeOf f.type) : Sem (Array (Nat × Nat))).run P w = .ok places.toArray w) : BI P t zs places := by
  obtain ⟨i, z, a, b, c, _⟩ := hz.zero
  exact ⟨⟨i, z, a, b, c⟩, hz.one, fs, h1, h2⟩
end

theorem liveL_once : ∀ {m : MemL}, once m = true → ∀ i ∈ liveL m, look m i ≠ none
  | [], _, i, h => by simp [liveL] at h
  | (k, some e) :: m, ho, i, h => by
    simp only [once, Bool.and_eq_true] at ho
    simp only [liveL, List.mem_cons] at h
    simp only [look, updM]
    split
    · simp
    · rename_i hne
      rcases h with h | h
      · exact absurd h hne
      · exact liveL_once ho.2 i h
  | (k, none) :: m, ho, i, h => by
    simp only [once, Bool.and_eq_true, Bool.not_eq_true', List.any_eq_false, beq_iff_eq] at ho
    simp only [liveL] at h
    simp only [look, updM]
    split
    · rename_i hk
      subst hk
      exfalso
      have := liveL_once ho.2 i h
      cases hl : look m i with
      | none => exact this hl
      | some e =>
        obtain ⟨y, hy, hyi⟩ := entL.key ((look_of_entL ho.2).1 hl)
        exact ho.1 y hy hyi
    · exact liveL_once ho.2 i h

theorem Post.body_of {ty : Tys} {fn : Func} {m0 m m' : MemL} {pv : PV} {new : List Nat} {r : Regs} {e : Exit} (ps : List PV) (he : e = .ret ∨ e = .normal) (hps : fn.results.toList.mapM (resP ty m r) = some ps) (hpv : oneP ps = pv) (hk : keepM m m')
    (h1 : pv.inn (liveL m') = true) (h2 : allM (fun e => e.inn (liveL m')) m' = true) (h3 : (once m0 && (liveL m').all fun i => new.contains i || (liveL m0).contains i) = true) : Post.body ty fn m0 pv m' new e r m := by
  refine ⟨he, ⟨ps, hps, hpv⟩, hk, h1, h2, fun i hi => ?_⟩
  simp only [Bool.and_eq_true, List.all_eq_true, Bool.or_eq_true, List.contains_iff_mem] at h3
  rcases h3.2 i hi with h | h
  · exact .inl h
  · exact .inr (liveL_once h3.1 i h)

theorem notT {b : Bool} (h : b = true) : (!b) = false := by rw [h]; rfl
theorem notF {b : Bool} (h : b = false) : (!b) = true := by rw [h]; rfl
theorem len_map {α β : Type} (f : α → β) (xs : List α) : (xs.map f).length = xs.length := by simp
theorem map_app {α β : Type} (f : α → β) (xs ys : List α) : xs.map f ++ ys.map f = (xs ++ ys).map f := by simp

theorem drop_idx {α : Type} {f : α → FV} {xs : List α} {n : Nat} {x : α} (h : xs[n]? = some x) : (xs.map f).drop (n * 1) = f x :: (xs.map f).drop (n + 1) := by
  have hn : n < xs.length := lt_of_idx h
  rw [Nat.mul_one, List.drop_eq_getElem_cons (by simpa using hn)]
  congr 1
  rw [List.getElem?_eq_getElem hn] at h
  simp at h
  simp [h]

section
variable {C : Cx} {ops : Array Oper} {o : Oper} {r : Regs} {m : MemL}
namespace L
theorem allocZ {t : TypeId} {zs : List Value} (s : Nat) (hz : ZI C.P t zs) (ho : o.op = .alloc t := by rfl) (hf : fresh C.M m r [s] = true := by kernel_rfl)
    (hw : wants ops r o true := by exact rfl) (hd : dstOK C o.dst = true := by kernel_rfl) : SO C ops o r m [] [] (some (.ptr s 0)) [(s, some (.var (zs.map fun v => .c (.raw v))))] [s] := by
  obtain ⟨i, z, h1, h2, h3, _⟩ := hz.zero
  exact L.alloc s h1 h2 h3 hz.one ho hf hw hd
theorem buildSliceZ {t e : TypeId} {len sz : Nat} {is : List Nat} {xs : List Operand} {zs : List Value} (s : Nat) (ps : List PV) (rows rows' : List (List FV)) (ht : SI C.P t e sz) (hz : ZI C.P e zs) (hin : InsOK C.Γ r (xs.zip ps)) (ho : o.op = .buildSlice t len (is.zip xs).toArray) (hrr : rows = rows') (hz0 : zs.length = sz := by kernel_rfl) (hz1 : Nat.blt 0 sz = true := by kernel_rfl)
    (hone : (zeroL zs (len * sz)).all (·.oneCell') = true := by kernel_rfl) (hsmall : Nat.ble (len * sz) 16777216 = true := by kernel_rfl) (hl : is.length = ps.length := by kernel_rfl) (hl2 : xs.length = ps.length := by kernel_rfl) (hfl : ps.all PV.flat = true := by kernel_rfl)
    (hout : fillP (fun i => some (i * sz, sz)) ((zeroL zs (len * sz)).map fun v => .c (.raw v)) (is.zip ps) = some (rows.flatten.map .c) := by kernel_rfl) (hrl : rows.length = len := by kernel_rfl) (hrow : rows.all (fun r => r.length == sz) = true := by kernel_rfl) (hf : fresh C.M m r [s] = true := by kernel_rfl)
    (hw : wants ops r o true := by exact rfl) (hd : dstOK C o.dst = true := by kernel_rfl) : SO C ops o r m (xs.zip ps) [] (some (.osl s)) [(s, some (.arr wr e sz rows'))] [s] := by
  obtain ⟨i, z, h1, h2, h3, h4⟩ := hz.zero
  subst hrr
  have h0 : 0 < sz := Nat.lt_of_lt_of_le (Nat.zero_lt_one) (Nat.le_of_ble_eq_true hz1)
  exact L.buildSlice s ps rows ht.desc h1 (h4.trans hz0) h0 h2 h3 hin ho hone hsmall hl hl2 hfl hout hrl hrow hf hw hd
theorem slice {t e : TypeId} {sz : Nat} {x : Operand} {lo hi : Option Operand} {ins : List (Operand × PV)} (l h : Nat) (xs zs : List (List FV)) (hs : SI C.P t e sz) (hall : xs.all (fun r => r.length == sz) = true) (hin : InsOK C.Γ r ins)
    (hlo : (lo = none ∧ l = 0) ∨ ∃ (q : Operand) (k : IntKind), lo = some q ∧ (q, .c (.raw (.int k l))) ∈ ins) (hhi : (hi = none ∧ h = xs.length) ∨ ∃ (q : Operand) (k : IntKind), hi = some q ∧ (q, .c (.raw (.int k h))) ∈ ins) (hl : l ≤ h) (hh : h ≤ xs.length) (hz : (xs.take h).drop l = zs)
    (ho : o.op = .slice t x lo hi none := by rfl) (hx : OpIs C r x (.c (.sl xs)) := by exact ⟨_, by kernel_rfl, Le.same⟩) (hw : wants ops r o true := by exact rfl) (hd : dstOK C o.dst = true := by kernel_rfl) : SO C ops o r m ((x, .c (.sl xs)) :: ins) [] (some (.c (.sl zs))) [] [] :=
  ⟨(OpT.sliceF ho hs hall hlo hhi hl hh hz).g, hw, ⟨hx, hin⟩, trivial, rfl, hd⟩
end L
end
end Go.Ab
