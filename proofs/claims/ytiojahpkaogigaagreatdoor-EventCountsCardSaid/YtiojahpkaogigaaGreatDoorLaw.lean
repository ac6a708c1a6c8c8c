/- EventCounts holds. Conditions: none. -/
import Derived.Test.YtiojahpkaogigaaGreatDoorRowEC
import Derived.Test.YtiojahpkaogigaaGreatDoorP13
namespace Go.Proofs.YtiojahpkaogigaaGreatDoor
theorem law : Law := fun t ht => by
  obtain ⟨r, h, hr⟩ := EventCounts_ok (k := 1000) (Nat.le_refl _) ht
  exact ⟨1000, by rw [h, hr]⟩
theorem eventCounts_holds : Rows.EventCountsCardSaid := card law
end Go.Proofs.YtiojahpkaogigaaGreatDoor
