/- From a call told by abstract states to a row's contract: a law that returns true. Conditions: none. -/
import Derived.Test.YtiojahpkaogigaaGreatDoorAb27
import Derived.WalkKit
import Derived.ProofKit
import Derived.OpenShut
import Derived.Carry
import Derived.SliceStrings
import Derived.LaidLaws
import Derived.Lib.LaidTab
namespace Go.Ab
open Go.ChangeShapes Go.WideShapes Go.ChangeAt Go.RowKit

/-- All cells of a world, as they are. -/
def allF (W : World) : Fz := fun b o => W.cell? ⟨b, o, none⟩

theorem law_calls {P : Program} {Γ : Gl} {f : FuncId} {args : List PV} (h : ACalls P Γ f args [] (.c (.raw (.bool true))) [] []) (W : World) (ν : Nu) (vs : List Value) (hv : VRs (allF W) ν vs args) (hg : GOK Γ (allF W)) :
    Calls P f vs.toArray W fun e W' => e = .returned (.bool true) ∧ Below W.heap.size W W' := by
  refine (h W (allF W) ν vs ⟨fun _ _ _ h => h, fun _ _ h => by simp [look, updM] at h, fun _ _ _ _ _ h => by simp [look, updM] at h⟩ hv hg).mono fun e W' hq => ?_
  obtain ⟨v, F', ν', rfl, hv, _, hx, _⟩ := hq
  exact ⟨by rw [VR.bool hv], hx.os, hx.tape, hx.output, hx.size, fun k hk => (hx.keep k hk fun id e h => by simp [look, updM] at h).1⟩

/-- The cells of a variable that holds an array of strings. -/
theorem cells_of_strs {H : Type} {enc : TypeId × Value → H} {P : Program} {w : World} {base : Nat} {sp : Nat → Bool} {held : Bool} {fuel : Nat} {t e : TypeId} {n : Nat} {cs : List Value} {ss : List (List UInt8)} {p : List MemPlace}
    (ht : P.underlying t = some (.array n e)) (he : P.underlying e = some .string) (hce : P.cellsOf e = 1) (hct : P.cellsOf t = n)
    (h : DataW.trod enc P w base sp held fuel t cs = some (.agg (ss.map fun s => .lit (.string s)), p)) : cs = ss.map fun s => Value.string (mkS s) := by
  cases fuel with
  | zero => simp [DataW.trod] at h
  | succ fuel =>
    simp only [DataW.trod, ht, hce, hct, Nat.mul_one] at h
    split at h
    · rename_i hl
      obtain ⟨xs, hm, hx⟩ := Option.map_eq_some_iff.1 h
      have hxs : xs.map (·.1) = ss.map fun s => (DataW.lit (.string s) : DataW H) := by
        have := congrArg Prod.fst hx
        simpa using this
      have hxl : xs.length = n := by simpa using Lib.mapM_length hm
      have hzl : ss.length = n := by
        have := congrArg List.length hxs
        simp at this
        omega
      apply List.ext_getElem?
      intro i
      by_cases hi : i < n
      · obtain ⟨b, hb, hf⟩ := Lib.mapM_at hm i i (by simp [hi])
        obtain ⟨s, hc, rfl, _⟩ := DataW.trod_string he hf
        have h1 : cs[i]? = some (.string s) := by
          have := congrArg (·[0]?) hc
          simpa [List.getElem?_take, List.getElem?_drop] using this
        have h2 : (xs.map (·.1))[i]? = some (DataW.lit (.string s.data.toList) : DataW H) := by simp [hb]
        rw [hxs] at h2
        simp only [List.getElem?_map, Option.map_eq_some_iff, DataW.lit.injEq, Lit.string.injEq] at h2
        obtain ⟨z', hz', rfl⟩ := h2
        have : mkS s.data.toList = s := mkS_strL s
        simp [h1, hz', this]
      · rw [List.getElem?_eq_none (by omega), List.getElem?_eq_none (by simp; omega)]
    · cases h

theorem frcells_strs {W : World} {b : Nat} : ∀ {ss : List (List UInt8)} {o : Nat}, (∀ i s, ss[i]? = some s → W.cell? ⟨b, o + i, none⟩ = some (.string (mkS s))) → FRcells (allF W) b o (ss.map fun s => .raw (.string (mkS s)))
  | [], _, _ => trivial
  | s :: ss, o, h => by
    simp only [List.map_cons, FRcells]
    refine ⟨⟨_, by simpa [allF] using h 0 s (by simp), ?_⟩, frcells_strs fun i t hi => ?_⟩
    · simp [FR, Value.oneCell']
    · have := h (i + 1) t (by simpa using hi)
      rwa [show o + (i + 1) = o + 1 + i by omega] at this

/-- A table of strings among the listed variables. -/
theorem strs_of_met {P : Program} {W : World} {name : String} {ss : List (List UInt8)} {l : List (String × DataW Unit)} {g : Nat} {t e : TypeId} {n : Nat}
    (hg : P.globalNamed name = some g) (hty : (P.globals[g]?).map (·.type) = some t) (ht : P.underlying t = some (.array n e)) (he : P.underlying e = some .string) (hce : P.cellsOf e = 1) (hct : P.cellsOf t = n)
    (h : laidMet P l W) (hm : (name, DataW.agg (ss.map fun s => .lit (.string s))) ∈ l) : FRcells (allF W) g 0 (ss.map fun s => .raw (.string (mkS s))) := by
  have hv : W.var? P name = some (ss.map fun s => Value.string (mkS s)).toArray := by
    obtain ⟨ps, h, hx⟩ := h
    clear hx
    induction l generalizing ps with
    | nil => cases hm
    | cons x l ih =>
      obtain ⟨nm, d⟩ := x
      obtain ⟨g', t', cs, fuel, p, q, hg', ht', hvar, hd, hrest, _⟩ := h
      rcases List.mem_cons.1 hm with hx | hx
      · cases hx
        obtain rfl := Option.some.inj (hg.symm.trans hg')
        obtain rfl := Option.some.inj (hty.symm.trans ht')
        rw [hvar, ← cells_of_strs ht he hce hct hd]
      · exact ih hx _ hrest
  refine frcells_strs fun i s hi => ?_
  have := World.var?_cell hg hv i
  have hlt : i < ss.length := by
    rcases Nat.lt_or_ge i ss.length with h' | h'
    · exact h'
    · rw [List.getElem?_eq_none h'] at hi; cases hi
  rw [Nat.zero_add, this]
  simp [hi]

/-- A slice of integers, as a frozen one. -/
theorem fr_ints {W : World} {a : Addr} {len cap : Nat} {zs : List Int} (hl : len ≤ cap) (hm : cap ≤ maxLen) (hz : zs.length = cap) (hc : ∀ i, i < zs.length → W.cell? (a.add i) = some (.int .i64 (zs.getD i 0))) :
    FR (allF W) (.slice (some a) len cap) (.sl ((zs.take len).map fun z => [.raw (.int .i64 z)])) := by
  simp only [FR]
  have hlen : ((zs.take len).map fun z => [FV.raw (.int .i64 z)]).length = len := by simp; omega
  refine ⟨some a, cap, by rw [hlen], by rw [hlen]; exact hl, hm, by simp, ?_⟩
  by_cases h0 : len = 0
  · left; subst h0; simp
  · right
    obtain ⟨b, o, spot⟩ := a
    have hspot : spot = none := by simpa [Addr.add] using World.cell?_spot (hc 0 (by omega))
    subst hspot
    refine ⟨b, o, 1, rfl, FRrows.of_get fun k x hk => ?_⟩
    simp only [List.getElem?_map, Option.map_eq_some_iff] at hk
    obtain ⟨z, hz', rfl⟩ := hk
    rw [List.getElem?_take] at hz'
    split at hz'
    · rename_i hkl
      refine ⟨rfl, ?_⟩
      simp only [FRcells, and_true]
      refine ⟨.int .i64 z, ?_, by simp [FR, Value.oneCell']⟩
      have hk' : k < zs.length := by omega
      have := hc k hk'
      rw [add_flat] at this
      have hg : zs.getD k 0 = z := by simp [List.getD, hz']
      rw [hg] at this
      simpa [allF] using this
    · cases hz'
theorem fr_nil {F : Fz} : FR F (.slice none 0 0) (.sl []) := by
  simp only [FR]; exact ⟨none, 0, rfl, by simp, by simp [maxLen], fun _ => rfl, .inl trivial⟩
end Go.Ab
