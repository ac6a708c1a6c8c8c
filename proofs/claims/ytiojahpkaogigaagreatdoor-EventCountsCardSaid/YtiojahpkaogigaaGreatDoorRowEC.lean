/- EventCounts returns true for every tape, out of the plain law. Conditions: none. -/
import Derived.Test.YtiojahpkaogigaaGreatDoorCards
import Derived.Test.YtiojahpkaogigaaGreatDoorTie
import Derived.Test.YtiojahpkaogigaaGreatDoorAb28
import Derived.Test.YtiojahpkaogigaaGreatDoorGf2
import Derived.Deep.DeepHandedRow
set_option maxRecDepth 100000
namespace Go.Proofs.YtiojahpkaogigaaGreatDoor
open Go Go.Ab Go.ChangeShapes Go.WideShapes Go.ChangeAt Go.RowKit

theorem own : ownKnob Tryz.prog.godebug = none := by kernel_rfl
theorem gTab0 : Tryz.prog.globalNamed "triggerstore/triggerstoreworld.triggerNames" = some 0 := by kernel_rfl
theorem gTab1 : Tryz.prog.globalNamed "triggerstore/triggerstoreworld.words" = some 1 := by kernel_rfl

theorem gok_laid {W : World} (h : laidMetH Tryz.prog Rows.eventCountsRow.laid W) : GOK gl (allF W) := by
  have hm : laidMet Tryz.prog Rows.eventCountsRow.laid W := h
  intro g cells hg
  unfold gl at hg
  split at hg
  · rename_i e; subst e; cases hg
    exact strs_of_met (ss := G0l) gTab0 (by kernel_rfl) Tryz.underlying60 Tryz.underlying9 (by kernel_rfl) (by kernel_rfl) hm (by simp [Rows.eventCountsRow, Rows.laid_triggerstore_triggerstoreworld_triggerNames, G0l])
  · split at hg
    · rename_i e; subst e; cases hg
      exact strs_of_met (ss := G1l) gTab1 (by kernel_rfl) Tryz.underlying187 Tryz.underlying9 (by kernel_rfl) (by kernel_rfl) hm (by simp [Rows.eventCountsRow, Rows.laid_triggerstore_triggerstoreworld_words, G1l])
    · cases hg

/-- The plain law. -/
def Law : Prop := ∀ t : List Int, t.length ≤ maxLen → ∃ k, Flaw22_EventCounts k t = some true

theorem contract (hlaw : Law) (H : Type) (enc : TypeId × Value → H) (W : World) (base : Nat) (args : Array Value) (ds gs : List (DataW H)) (before : List MemPlace)
    (hval : ∀ (j : Nat) t v, Tryz.f3.params[j]? = some t → args[j]? = some v → Value.okWide Tryz.prog W .any base t v)
    (hW : DataW.Whole enc Tryz.prog Tryz.f3.params.toList Rows.eventCountsSpec.vars false W args.toList ds gs before) (hL : laidMetH Tryz.prog Rows.eventCountsRow.laid W) :
    Calls Tryz.prog 3 args W fun e W' => ∃ v, e = .returned v ∧ Rows.eventCountsSpec.post enc Tryz.prog Tryz.f3 false true false false W args v W' := by
  have hW' := hW
  have hlt0 := hW.lt
  obtain ⟨p, q, hA0, hV, rfl, hfz, hnd⟩ := hW
  have hA : DataW.TrodAll enc Tryz.prog W 0 (fun _ => true) true Tryz.f3.params.toList args.toList ds p := hA0
  rw [Tryz.params3] at hA hval
  obtain ⟨v0, vs0, d0, ds0, p0, q0, hargs, rfl, rfl, h0, r0⟩ := trodAll_cons hA
  obtain ⟨rfl, rfl, rfl⟩ := trodAll_nil r0
  obtain rfl : args = #[v0] := by cases args; simp_all
  obtain ⟨rfl, rfl⟩ := trodVars_none hV
  clear hA0
  simp only [List.append_nil] at hW' hlt0
  have hv : ∃ zs : List Int, zs.length ≤ maxLen ∧ FR (allF W) v0 (.sl (zs.map cI)) := by
    obtain ⟨a0, len, cap, rfl⟩ := okWide_slice Tryz.underlying22 (hval 0 22 v0 rfl rfl)
    obtain ⟨fuel, hf⟩ := h0
    rcases open_ints Tryz.underlying22 Tryz.underlying3 (by kernel_rfl) hf with ⟨hcs, _⟩ | ⟨a, len', cap', zs, hcs, _, hl, hm, hz, _, hcell, _⟩
    · simp [Value.cells] at hcs
      obtain ⟨rfl, rfl, rfl⟩ := hcs
      exact ⟨[], by simp, fr_nil⟩
    · simp [Value.cells] at hcs
      obtain ⟨rfl, rfl, rfl⟩ := hcs
      simp only [if_true] at hz
      exact ⟨zs.take len, by simp; omega, fr_ints hl hm hz hcell⟩
  obtain ⟨zs, hzl, hfr⟩ := hv
  obtain ⟨k, hk⟩ := hlaw zs hzl
  have hC := flaw22_EventCounts_ok hk
  have hrun := law_calls hC W (fun _ => undef) [v0] (by simp only [VRs]; exact ⟨v0, [], rfl, hfr, rfl⟩) (gok_laid hL)
  refine hrun.mono fun e W' ⟨he, hb⟩ => ?_
  subst he
  have h1 : DataW.Trod enc Tryz.prog W' 0 (fun b => decide (b < W.heap.size)) true 22 v0 d0 p0 :=
    RowKit.Below.trod (by kernel_rfl) (by kernel_rfl) (of_decide_eq_true (by kernel_rfl)) h0 hb hlt0
  have h2 := trodAll_cons_mk h1 trodAll_mk0
  rw [List.append_nil] at h2
  exact ⟨_, rfl, _, _, _, [], p0, [], hW', trodAll_cons_mk (shut_bool Tryz.underlying4 _) trodAll_mk0, h2, rfl, hb.frame _, fun h => by cases h⟩

def layS (ss : List (List UInt8)) : Obj → Obj
  | .cells _ t frozen => .cells (ss.map fun s => Value.string (mkS s)).toArray t frozen
  | o => o
/-- A world for the witness: the settled one, the two tables (blocks 0 and 1) holding what their initialisers lay. -/
noncomputable def laidWorld (os : Os) : World :=
  { World.holding Tryz.prog os ⟨#[], #[], []⟩ with heap := ((World.holding Tryz.prog os ⟨#[], #[], []⟩).heap.modify 0 (layS G0l)).modify 1 (layS G1l) }
theorem laid_met (os : Os) : laidMet Tryz.prog Rows.eventCountsRow.laid ((laidWorld os).forCall (fun _ _ => 0) ⟨#[], #[.slice none 0 0], []⟩).memory :=
  laidMet_of_run' 8 (by kernel_rfl) (by kernel_rfl)
theorem reads (os : Os) {H : Type} (enc : TypeId × Value → H) : ∃ places, DataW.whole enc Tryz.prog ((laidWorld os).forCall (fun _ _ => 0) ⟨#[], #[.slice none 0 0], []⟩).memory Tryz.f3.params.toList Rows.eventCountsSpec.vars false #[Value.slice none 0 0].toList 8 = some ([.nil], [], places) :=
  ⟨[], by kernel_rfl⟩

theorem lifted (hlaw : Law) (os : Os) (started : os.Started) (H : Type) (enc : TypeId × Value → H) (F : Stop.Interp) :
    ReturnsInHanded {} Tryz.checked os 3 .any ((OpenSpec.ofChange Rows.eventCountsSpec).preRow enc Tryz.prog Tryz.f3 Rows.eventCountsRow.domain false Rows.eventCountsRow.laid) (((OpenSpec.ofChange Rows.eventCountsSpec).at F).post enc Tryz.prog Tryz.f3 false true false false) := by
  obtain ⟨places, hx⟩ := reads os enc
  refine returnsInHanded_of_row (C := Tryz.checked) (s := OpenSpec.ofChange Rows.eventCountsSpec) own started (by kernel_rfl) Tryz.func3
    (witness_row_at (enc := enc) (C := Tryz.checked) false (laidWorld os) #[.slice none 0 0] rfl (by kernel_rfl) (by kernel_rfl) (by kernel_rfl)
      (OpenSpec.preRow_of_cond 8 hx (by kernel_rfl) (fun k hk => by cases hk) (by kernel_rfl) (laid_met os))) ?_
  intro W base args ds gs before hval hW _ _ _ hL _ _
  exact contract hlaw H enc W base args ds gs before hval hW hL

theorem said (hlaw : Law) : Rows.EventCountsSaid :=
  OpenClaim.holds_of_cond 3 Tryz.f3 rfl rfl rfl rfl rfl rfl rfl ⟨rfl, rfl, rfl, rfl, rfl⟩ rfl rfl rfl rfl rfl (by kernel_rfl) Tryz.func3 (by kernel_rfl)
    (of_decide_eq_true (by kernel_rfl)) (by unfold Func.isWrapper; first | (rw [if_pos (by decide +kernel)]; kernel_rfl) | (rw [if_neg (by decide +kernel)]; exact ⟨rfl, rfl⟩))
    (fun os started H enc _ F => by rw [OpenClaim.pre_eq_preRow]; exact lifted hlaw os started H enc F)

theorem plain (f : FuncId) (fn : Func) (hf : Tryz.pinned.checked.prog.funcNamed "triggerstore/triggerstorelaw22.EventCounts" = some f) (hfn : Tryz.pinned.checked.prog.funcs[f]? = some fn) :
    false = Tryz.pinned.checked.prog.looks [] ∧ ∀ (j : Nat) t, fn.params[j]? = some t → Tryz.pinned.checked.prog.wantsStandIn t = false := by
  obtain rfl : f = 3 := Option.some.inj ((show Tryz.prog.funcNamed "triggerstore/triggerstorelaw22.EventCounts" = some 3 by kernel_rfl).symm.trans hf) |>.symm
  obtain rfl : fn = Tryz.f3 := (Option.some.inj (Tryz.func3.symm.trans hfn)).symm
  refine ⟨by kernel_rfl, fun j t ht => ?_⟩
  rw [Tryz.params3] at ht
  obtain rfl : t = 22 := by simpa using Array.mem_of_getElem? ht
  exact (show Tryz.prog.wantsStandIn 22 = false by kernel_rfl)

theorem card (hlaw : Law) : Rows.EventCountsCardSaid :=
  Claim7.holds_tied_plain_at .later [] _ _ _ _ (said hlaw) (fun _ h => by cases h) (by kernel_rfl) (fun _ h => by cases h) eventCounts_row_tie rfl ⟨rfl, rfl⟩ (by kernel_rfl) rfl plain (by kernel_rfl)
end Go.Proofs.YtiojahpkaogigaaGreatDoor
