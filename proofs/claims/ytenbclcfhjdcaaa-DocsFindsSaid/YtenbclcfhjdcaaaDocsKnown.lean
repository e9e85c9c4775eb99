/- The law's own example. -/
import Derived.Test.YtenbclcfhjdcaaaDocsOf
import Derived.Lib.SlBytesConst
namespace Go.Proofs.Ytenbclcfhjdcaaa
open Go.RowKit B
theorem conv_bytes (w : World) (C : Array Value) (s n c : Nat) (h : w.heap.size = s) : (convert 23 23 (.slice (some ⟨s, 0, none⟩) n c)).run Try.prog (w.alloc (.cells C 5)) = .ok (.slice (some ⟨s, 0, none⟩) n c) (w.alloc (.cells C 5 (C.size, C.size + 1))) := by
  subst h
  exact Lib.run_convert_bytes_const (P := Try.prog) w 23 5 C n c Try.underlying23 Try.underlying5
theorem lens_known (w : World) (b : Nat) (A1 A2 A3 : Option Addr) (c1 c2 c3 : Nat) (h : w.heap[b]? = some (.cells #[.slice A1 2 c1, .slice A2 0 c2, .slice A3 1 c3] 23 (0, 0))) :
    Lens w (.slice (some ⟨b, 0, none⟩) 3 3) [2, 0, 1] := by
  refine ⟨[.slice A1 2 c1, .slice A2 0 c2, .slice A3 1 c3], ⟨_, 3, rfl, by simp, by simp [maxLen], fun _ => ⟨b, 0, rfl, fun j u hu => ?_⟩⟩, fun i hi => ?_⟩
  · rw [cell_of_row w _ _ _ _ _ h, Nat.zero_add]
    simpa using hu
  · simp at hi
    match i, hi with
    | 0, _ => exact ⟨A1, c1, 2, rfl, rfl⟩
    | 1, _ => exact ⟨A2, c2, 0, rfl, rfl⟩
    | 2, _ => exact ⟨A3, c3, 1, rfl, rfl⟩
theorem right_known : Docs.Right [2, 0, 1] := ⟨by simp, fun k hk => by
  simp at hk
  match k, hk with
  | 0, _ => exact ⟨by decide, by decide⟩
  | 1, _ => exact ⟨by decide, by decide⟩
  | 2, _ => exact ⟨by decide, by decide⟩⟩
set_option maxRecDepth 100000 in
theorem docs_known (w : World) : Calls Try.prog 18 #[] w fun e w' => e = .returned (.bool true) ∧ Below w.heap.size w w' := by
  have cv := conv_bytes
  have R : Keep (Below w.heap.size w w) := ⟨Below.refl _ _⟩
  go_enter Try.func18, Try.ntmps18
  go_wp2_with fail
  refine (docs_of _ [2, 0, 1] _ ?hl right_known).mono ?_
  case hl => exact lens_known _ _ _ _ _ _ _ _ (new_blk (by simp))
  rintro e w1 ⟨p, rfl, hd, hb⟩
  have HB : Keep (Below w.heap.size w w1) := ⟨(balloc (balloc (balloc (Below.refl _ _) _) _) _).trans (hb.mono (by simp; omega))⟩
  have S1 := Keep.mk (docs_start_in p [2, 0, 1] 1 w1 hd right_known (by simp))
  have S2 := Keep.mk (docs_start_in p [2, 0, 1] 2 w1 hd right_known (by simp))
  have S3 := Keep.mk (docs_find p [2, 0, 1] 4 w1 hd right_known)
  have HD := Keep.mk hd
  rw [show Docs.st [2, 0, 1] 1 = 3 by decide] at S1
  rw [show Docs.st [2, 0, 1] 2 = 4 by decide] at S2
  rw [show Docs.find [2, 0, 1] 4 = (2, 0, 0) by decide] at S3
  clear hb hd R
  go_wp2_with fail
  refine S1.out.mono ?_
  rintro e w2 ⟨rfl, rfl⟩
  go_wp2_with fail
  refine S2.out.mono ?_
  rintro e w2 ⟨rfl, rfl⟩
  go_wp2_with fail
  refine S3.out.mono ?_
  rintro e w2 ⟨rfl, hb⟩
  have S4 := Keep.mk (docs_symbols p [2, 0, 1] w2 (HD.out.below hb) right_known)
  rw [show Docs.fin [2, 0, 1] + 1 = 7 by decide] at S4
  have HB2 : Keep (Below w.heap.size w w2) := ⟨bnext HB.out HB.out.size hb⟩
  clear hb
  go_wp2_with (go_at_call 17; refine S4.out.mono ?_; rintro e w3 ⟨rfl, rfl⟩)
  go_ret
  exact ⟨rfl, HB2.out⟩

end Go.Proofs.Ytenbclcfhjdcaaa
