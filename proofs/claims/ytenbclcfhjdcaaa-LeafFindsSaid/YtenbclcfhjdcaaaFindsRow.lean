/- LeafFinds at the arguments as they read. -/
import Derived.Test.YtenbclcfhjdcaaaArgs9
import Derived.Test.YtenbclcfhjdcaaaLawLeafFinds
namespace Go.Proofs.Ytenbclcfhjdcaaa
open Go Go.RowKit B
theorem leafFinds_row {H : Type} {enc : TypeId × Value → H} (cs0 cs1 : Array Value) (w : World) (h0 : Rd enc Try.prog w 37 cs0.toList) (h1 : Rd enc Try.prog w 39 cs1.toList) :
    Calls Try.prog 4 #[.agg cs0, .agg cs1] w fun e w' => e = .returned (.bool true) ∧ Below w.heap.size w w' := by
  obtain ⟨lf, v, l, rfl, hr⟩ := rd_node h0
  obtain ⟨s, n, rfl⟩ := rd_keyA h1
  exact leafFinds_walk lf v l ⟨s, n, 0⟩ w hr
end Go.Proofs.Ytenbclcfhjdcaaa
