/- DocsNil: a nil list has nothing, whatever number is asked. -/
import Derived.Test.YtenbclcfhjdcaaaDocsKnown
namespace Go.Proofs.Ytenbclcfhjdcaaa
open Go.RowKit B
set_option maxRecDepth 100000 in
theorem docsNil_walk (n : Int) (w : World) :
    Calls Try.prog 5 #[.int .i64 n] w fun e w' => e = .returned (.bool true) ∧ Below w.heap.size w w' := by
  have S1 := Keep.mk (docs_size_nil n w)
  have S2 := Keep.mk (docs_start_nil n w)
  have S3 := Keep.mk (docs_find_nil n w)
  have S4 := Keep.mk (docs_place_nil n n w)
  have S5 := Keep.mk (docs_known w)
  go_enter Try.func5, Try.ntmps5
  go_wp2_with (first | (go_at_call 30; refine S1.out.mono ?_; rintro e w1 ⟨rfl, rfl⟩) | (go_at_call 31; refine S2.out.mono ?_; rintro e w1 ⟨rfl, rfl⟩) | (go_at_call 16; refine S3.out.mono ?_; rintro e w1 ⟨rfl, rfl⟩) | (go_at_call 15; refine S4.out.mono ?_; rintro e w1 ⟨rfl, rfl⟩) | (go_at_call 18; refine S5.out.mono ?_; rintro e w1 ⟨rfl, hb⟩; have HB := Keep.mk hb; clear hb; have T1 := Keep.mk (docs_count_nil w1); have T2 := Keep.mk (docs_total_nil w1); have T3 := Keep.mk (docs_symbols_nil w1); have T4 := Keep.mk (docs_bytes_nil w1)) | (go_at_call 32; refine T1.out.mono ?_; rintro e w2 ⟨rfl, rfl⟩) | (go_at_call 19; refine T2.out.mono ?_; rintro e w2 ⟨rfl, rfl⟩) | (go_at_call 17; refine T3.out.mono ?_; rintro e w2 ⟨rfl, rfl⟩) | (go_at_call 33; refine T4.out.mono ?_; rintro e w2 ⟨rfl, rfl⟩))
  go_ret
  exact ⟨rfl, HB.out⟩

theorem docsNil_row {H : Type} {enc : TypeId × Value → H} (n : Int) (w : World) (_h : (Lit.int .i64 n).wf = true) :
    Calls Try.prog 5 #[.int .i64 n] w fun e w' => e = .returned (.bool true) ∧ Below w.heap.size w w' := by
  have _ := enc
  exact docsNil_walk n w
end Go.Proofs.Ytenbclcfhjdcaaa
