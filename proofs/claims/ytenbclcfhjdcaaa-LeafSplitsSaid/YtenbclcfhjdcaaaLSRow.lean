/- LeafSplits at the arguments as they read. -/
import Derived.Test.YtenbclcfhjdcaaaVArg
import Derived.Test.YtenbclcfhjdcaaaV7
namespace Go.Proofs.Ytenbclcfhjdcaaa
open Go Go.RowKit AM VM B
theorem leafSplits_row {H : Type} {enc : TypeId × Value → H} (cs0 cs1 : Array Value) (w : World) (h0 : Rd enc Try.prog w 37 cs0.toList) (h1 : Rd enc Try.prog w 37 cs1.toList) :
    Calls Try.prog 6 #[.agg cs0, .agg cs1] w fun e w' => e = .returned (.bool true) ∧ Below w.heap.size w w' := by
  obtain ⟨a, kk, l, hl, ha⟩ := arg_node h0
  obtain ⟨b, km, m, hm, hb⟩ := arg_node h1
  exact (v_LeafSplits hl hm).law mixed prims_ok ⟨_, _, rfl, ha, _, _, rfl, hb, rfl⟩
end Go.Proofs.Ytenbclcfhjdcaaa
