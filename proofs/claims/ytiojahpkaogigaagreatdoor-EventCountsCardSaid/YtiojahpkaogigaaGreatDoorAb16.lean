/- A row that may be written: an element is stored. Conditions: none. -/
import Derived.Test.YtiojahpkaogigaaGreatDoorAb15
namespace Go.Ab

theorem spl_get {α : Type} {us news : List α} {p : Nat} (h : p + news.length ≤ us.length) (q : Nat) : (us.take p ++ news ++ us.drop (p + news.length))[q]? = if q < p then us[q]? else if q < p + news.length then news[q - p]? else us[q]? := by
  have hp : (us.take p).length = p := by simp; omega
  by_cases h1 : q < p
  · rw [if_pos h1, List.append_assoc, List.getElem?_append_left (by omega), List.getElem?_take, if_pos h1]
  · rw [if_neg h1, List.append_assoc, List.getElem?_append_right (by omega), hp]
    by_cases h2 : q < p + news.length
    · rw [if_pos h2, List.getElem?_append_left (by omega)]
    · rw [if_neg h2, List.getElem?_append_right (by omega), List.getElem?_drop]
      congr 1; omega

def spl {α : Type} (us news : List α) (p : Nat) : List α := us.take p ++ news ++ us.drop (p + news.length)
theorem spl_len {α : Type} {us news : List α} {p : Nat} (h : p + news.length ≤ us.length) : (spl us news p).length = us.length := by
  simp [spl]; omega
theorem spl_take {α : Type} {us news : List α} {p N : Nat} (h : p + news.length ≤ N) (hN : N ≤ us.length) : (spl us news p).take N = spl (us.take N) news p := by
  have hl : (us.take N).length = N := by simp; omega
  refine List.ext_getElem? fun q => ?_
  rw [List.getElem?_take]
  unfold spl
  rw [spl_get (by omega), spl_get (by rw [hl]; exact h), List.getElem?_take]
  by_cases hq : q < N
  · simp [hq]
  · have h1 : ¬ q < p := by omega
    have h2 : ¬ q < p + news.length := by omega
    simp [hq, h1, h2]

theorem Rws.store {F : Fz} {sz : Nat} {xs : List (List FV)} {us news : List Value} {i off : Nat} {cs ys : List FV} (h : Rws F sz xs us) (hx : xs[i]? = some cs) (hl : news.length = ys.length) (hoff : off + ys.length ≤ sz)
    (hr : ∀ (j : Nat) (y : FV), ys[j]? = some y → ∃ u, news[j]? = some u ∧ FR F u y) : Rws F sz (xs.set i (spl cs ys off)) (spl us news (i * sz + off)) := by
  have hcs := h.2.1 i cs hx
  have hi : i < xs.length := lt_of_idx hx
  have hle : (i + 1) * sz ≤ xs.length * sz := Nat.mul_le_mul_right _ hi
  rw [Nat.add_mul, Nat.one_mul] at hle
  have hfit : i * sz + off + news.length ≤ us.length := by rw [h.1]; omega
  have hfit2 : off + ys.length ≤ cs.length := by rw [hcs]; exact hoff
  refine ⟨by rw [spl_len hfit, h.1, List.length_set], fun k x hk => ?_, fun k j x y hk hj => ?_⟩
  · by_cases hki : i = k
    · subst hki
      rw [List.getElem?_set_self hi] at hk; cases hk
      rw [spl_len hfit2]; exact hcs
    · rw [List.getElem?_set_ne hki] at hk; exact h.2.1 k x hk
  · unfold spl
    rw [spl_get hfit]
    by_cases hki : i = k
    · subst hki
      rw [List.getElem?_set_self hi] at hk; cases hk
      unfold spl at hj
      rw [spl_get hfit2] at hj
      by_cases h1 : j < off
      · rw [if_pos h1] at hj; rw [if_pos (by omega)]; exact h.2.2 i j cs y hx hj
      · rw [if_neg h1] at hj; rw [if_neg (by omega)]
        by_cases h2 : j < off + ys.length
        · rw [if_pos h2] at hj; rw [if_pos (by omega)]
          obtain ⟨u, hu, hru⟩ := hr _ y hj
          exact ⟨u, by rw [show i * sz + j - (i * sz + off) = j - off by omega]; exact hu, hru⟩
        · rw [if_neg h2] at hj; rw [if_neg (by omega)]; exact h.2.2 i j cs y hx hj
    · rw [List.getElem?_set_ne hki] at hk
      obtain ⟨u, hu, hru⟩ := h.2.2 k j x y hk hj
      have hjs : j < sz := by rw [← h.2.1 k x hk]; exact lt_of_idx hj
      have : ¬ (i * sz + off ≤ k * sz + j ∧ k * sz + j < i * sz + off + news.length) := by
        rintro ⟨h1, h2⟩
        rcases Nat.lt_or_ge k i with h3 | h3
        · have : (k + 1) * sz ≤ i * sz := Nat.mul_le_mul_right _ h3
          rw [Nat.add_mul, Nat.one_mul] at this; omega
        · have h4 : i + 1 ≤ k := by omega
          have : (i + 1) * sz ≤ k * sz := Nat.mul_le_mul_right _ h4
          rw [Nat.add_mul, Nat.one_mul] at this; omega
      refine ⟨u, ?_, hru⟩
      by_cases h1 : k * sz + j < i * sz + off
      · rw [if_pos h1]; exact hu
      · rw [if_neg h1, if_neg (by omega)]; exact hu

section
variable {P : Program} {o : Oper}
theorem OpT.storeA {t e : TypeId} {ad x : Operand} {id sz i off n : Nat} {xs xs' : List (List FV)} {cs ys : List FV} {p : PV} (ho : o.op = .store t ad x) (ht : (P.info? t).map (·.size) = some n) (hp : p.cells = ys.map .c) (hn : ys.length = n) (hf : p.flat = true) (hx : xs[i]? = some cs)
    (hoff : off + n ≤ sz) (hres : xs.set i (spl cs ys off) = xs') : OpT P o [(ad, .aptr id sz i off), (x, p)] [(id, .arr true e sz xs)] none [(id, some (.arr true e sz xs'))] [] := by
  intro a w F ν M hst hi hm _ _ K Q hK
  have h1 := hi (ad, .aptr id sz i off) (by simp)
  simp only [VR] at h1
  obtain ⟨b, n0, cp, hν, hv⟩ := h1
  have hxv := (hi (x, p) (by simp)).cells hf
  have hM : M id = some (.arr true e sz xs) := hm (id, .arr true e sz xs) (by simp)
  obtain ⟨hz, us, e1, e2, e3⟩ := hst.ents id _ hM
  have hil : i < xs.length := lt_of_idx hx
  have hle : (i + 1) * sz ≤ xs.length * sz := Nat.mul_le_mul_right _ hil
  rw [Nat.add_mul, Nat.one_mul] at hle
  have hlen := e1.1
  rcases e1.2 with ⟨hn0, _⟩ | ⟨g, cap, cur, hv', hb0, hg, hnc, hcm, hcs, htake⟩
  · rw [hn0] at hν; cases hν
  rw [hv'] at hν
  have hgb : g = b := by injection hν with h1; injection h1 with h1; injection h1
  subst hgb
  have hln : (a.eval x).cells.toList.length = n := by rw [hxv.1.length, hp, List.length_map, hn]
  have hcap : xs.length * sz ≤ cur.size := by rw [hcs]; exact Nat.mul_le_mul_right _ hnc
  have hst' := run_storeCells_at P g (i * sz + off) e (a.eval x).cells.toList 0 cur w hg (by simp only [Array.length_toList] at hln ⊢; omega) hxv.2
  have hsz : ∀ w, (Go.sizeOf t).run P w = .ok n w := by
    intro w
    cases hq : P.info? t with
    | none => simp [hq] at ht
    | some i => simp [hq] at ht; simp [Go.sizeOf, typeInfo, hq, ht]
  have hl1' : (a.eval x).cells.size = n := by simpa using hln
  have hrun : (execOp a.eval o).run P w = .ok .skip (w.setRow g (spl cur.toList (a.eval x).cells.toList (i * sz + off)).toArray) := by
    simp only [Nat.add_zero] at hst'
    simp [execOp, ho, hv, Instr.storeAt, Instr.sureAddr, storeVar, hsz, hl1', hst', spl]
  unfold Oper.wp
  rw [hrun]
  simp only [Oper.upon]
  have hbk : blk (ν id) = some g := by rw [hv']; rfl
  have hF : ∀ o, F g o = none := fun o => by
    cases hq : F g o with
    | none => rfl
    | some v => have := (e3 g hbk o v hq).1; cases this
  have hrw : Rws F sz xs' (spl us (a.eval x).cells.toList (i * sz + off)) := by
    rw [← hres]
    refine Rws.store e2 hx (by rw [hln, hn]) (by omega) fun j y hj => ?_
    obtain ⟨u, hu, hr⟩ := hxv.1.get (k := j) (x := .c y) (by rw [hp, List.getElem?_map, hj]; rfl)
    exact ⟨u, hu, by simpa only [VR] using hr⟩
  have hl' : xs'.length = xs.length := by rw [← hres, List.length_set]
  have her : ER F ν (w.setRow g (spl cur.toList (a.eval x).cells.toList (i * sz + off)).toArray) (ν id) (.arr true e sz xs') := by
    refine ⟨hz, _, ⟨hrw.1, .inr ⟨g, cap, _, by rw [hl']; exact hv', hb0, setRow_heap w g cur _ e _ hg, by rw [hl']; exact hnc, hcm, ?_, ?_⟩⟩, hrw, fun b hb o v hv => ?_⟩
    · rw [List.size_toArray, spl_len (by simp only [Array.length_toList] at hln ⊢; omega)]; simpa using hcs
    · rw [hl', List.toList_toArray, spl_take (by rw [hln]; omega) (by simpa using hcap), htake]
    · rw [hbk] at hb; cases hb; rw [hF] at hv; cases hv
  exact hK undef _ F ν (by simp) (hst.write id _ _ g hM hbk hF (fun k hk => setRow_other w g k _ hk) her)
    (Ext.write id _ _ g hM hbk (fun k hk => setRow_other w g k _ hk) (by simp) rfl rfl rfl) (fun _ _ => rfl)

theorem LeE.read {e : TypeId} {sz : Nat} {xs : List (List FV)} : LeE (.arr true e sz xs) (.arr false e sz xs) := fun F ν w h hr => by
  obtain ⟨h0, us, h1, h2, h3⟩ := hr
  exact ⟨h0, us, h1, h2, fun b hb o v hv => by have := (h3 b hb o v hv).1; cases this⟩
end

section
variable {C : Cx} {ops : Array Oper} {o : Oper} {r : Regs} {m : MemL}
namespace L
theorem storeA {t : TypeId} {ad x : Operand} {n : Nat} (e : TypeId) (id sz i off : Nat) (xs xs' : List (List FV)) (cs ys : List FV) (p : PV) (ht : (C.P.info? t).map (·.size) = some n) (hi : xs[i]? = some cs) (hres : xs.set i (spl cs ys off) = xs') (ho : o.op = .store t ad x := by rfl) (ha : OpIs C r ad (.aptr id sz i off) := by exact ⟨_, by kernel_rfl, Le.same⟩) (hx : OpIs C r x p := by exact ⟨_, by kernel_rfl, Le.same⟩)
    (hm : look m id = some (.arr true e sz xs) := by kernel_rfl) (hp : p.cells = ys.map .c := by kernel_rfl) (hn : ys.length = n := by kernel_rfl) (hf : p.flat = true := by kernel_rfl) (hoff : Nat.ble (off + n) sz = true := by kernel_rfl)
    (hw : wants ops r o true := by exact rfl) (hd : dstOK C o.dst = true := by kernel_rfl) : SO C ops o r m [(ad, .aptr id sz i off), (x, p)] [(id, .arr true e sz xs)] none [(id, some (.arr true e sz xs'))] [] := ⟨(OpT.storeA ho ht hp hn hf hi (Nat.le_of_ble_eq_true hoff) hres).g, hw, ⟨ha, hx, trivial⟩, ⟨hm, trivial⟩, rfl, hd⟩
end L
end
end Go.Ab

namespace Go.Ab
section
variable {C : Cx} {ops : Array Oper} {l : List Oper} {r : Regs} {m : MemL} {Q : Post} {c : Code}
theorem Sub.read {id : Nat} {e : TypeId} {sz : Nat} {xs : List (List FV)} (hid : look m id = some (.arr true e sz xs)) : Sub r r m ((id, some (.arr false e sz xs)) :: m) :=
  ⟨fun t p h => ⟨p, h, Le.same⟩, fun i d h => by
    simp only [look, updM] at h hid ⊢
    split at h
    · rename_i hi; subst hi; cases h; exact ⟨_, hid, LeE.read⟩
    · exact ⟨d, h, LeE.same⟩⟩
/-- A row that may be written is from now on only read, and grown. -/
theorem AOps.read {id : Nat} {e : TypeId} {sz : Nat} {xs : List (List FV)} (hid : look m id = some (.arr true e sz xs)) (h : AOps C ops l r ((id, some (.arr false e sz xs)) :: m) Q) : AOps C ops l r m Q := AOps.sub (Sub.read hid) h
theorem ACode.read {id : Nat} {e : TypeId} {sz : Nat} {xs : List (List FV)} (hid : look m id = some (.arr true e sz xs)) (h : ACode C c r ((id, some (.arr false e sz xs)) :: m) Q) : ACode C c r m Q := ACode.sub (Sub.read hid) h
end
theorem set_row {α : Type} {f : α → List FV} {xs : List α} {i n : Nat} {x v : α} (hl : ∀ x, (f x).length = n) : (xs.map f).set i (spl (f x) (f v) 0) = (xs.set i v).map f := by
  have : spl (f x) (f v) 0 = f v := by simp [spl, hl]
  rw [this, List.map_set]
end Go.Ab
