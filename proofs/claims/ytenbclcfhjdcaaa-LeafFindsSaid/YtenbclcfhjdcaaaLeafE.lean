/- Same of the reference: are two slices the same bytes? And the leaf law's own example. -/
import Derived.Test.YtenbclcfhjdcaaaLeafD
namespace Go.Proofs.Ytenbclcfhjdcaaa
open Go.RowKit B
theorem list_ext_el {xs ys : List Int} (hl : xs.length = ys.length) (h : ∀ i, i < xs.length → el xs i = el ys i) : xs = ys := by
  apply List.ext_getElem hl
  intro i h1 h2
  have := h i h1
  rw [el_eq xs i h1, el_eq ys i h2] at this
  exact this
set_option maxRecDepth 100000 in
theorem ref01_Same (a b : Value) (xs ys : List Int) (w : World) (ha : Row w a xs.length (u8s xs)) (hb : Row w b ys.length (u8s ys)) (hm : xs.length ≤ 1000000000) :
    Calls Try.prog 41 #[a, b] w fun e w' => e = .returned (.bool (decide (xs = ys))) ∧ Below w.heap.size w w' := by
  have R := Keep.mk (Below.refl w.heap.size w)
  have HA := Keep.mk ha
  have HBb := Keep.mk hb
  obtain ⟨A, c, rfl, a1, a2, _⟩ := ha
  obtain ⟨B, d, rfl, b1, b2, _⟩ := hb
  by_cases hl : xs.length = ys.length
  · have hl1 : ((xs.length : Int) != (ys.length : Int)) = false := by simp [hl]
    have HL := Keep.mk hl
    clear hl
    go_enter Try.func41, Try.ntmps41
    go_wp2_with fail
    go_loopw [5] (fun i wr => ∃ k : Nat, i = .int .i64 k ∧ k ≤ xs.length ∧ Keep ((∀ j, j < k → el xs j = el ys j) ∧ Below w.heap.size w wr)) (fun i _ => xs.length - (intOf i).toNat)
    case atStart => exact ⟨0, rfl, Nat.zero_le _, ⟨fun j hj => absurd hj (Nat.not_lt_zero _), R.out⟩⟩
    case round =>
      obtain ⟨k, rfl, hk, I⟩ := hrel
      by_cases hlt : k < xs.length
      · have hlt2 : k < ys.length := by have := HL.out; omega
        rcases HA.out.open_ with ⟨h0, _⟩ | ⟨g1, o1, c1, e, _, _, hc1⟩
        · omega
        cases e
        rcases HBb.out.open_ with ⟨h0, _⟩ | ⟨g2, o2, c2, e, _, _, hc2⟩
        · omega
        cases e
        have e1 := kc I.out.2 (hc1 k _ (u8s_get xs k hlt))
        have e2 := kc I.out.2 (hc2 k _ (u8s_get ys k hlt2))
        clear hc1 hc2
        have i0 : (0 : Int) ≤ (k : Int) := by omega
        have i1 : (k : Int) < (xs.length : Int) := by omega
        have i2 : (k : Int) < (ys.length : Int) := by omega
        by_cases heq : el xs k = el ys k
        · have hd : (el xs k != el ys k) = false := by simp [heq]
          have HQ := Keep.mk heq
          clear heq
          go_wp2_with fail
          go_quiet (fail)
          go_wp2
          go_roundw
          case rel => exact ⟨k + 1, by go_num, by omega, ⟨fun j hj => by rcases Nat.lt_or_ge j k with h | h; exact I.out.1 j h; exact (show j = k by omega) ▸ HQ.out, bdraw I.out.2 _⟩⟩
          case measure => simp [intOf]; omega
        · have hd : (el xs k != el ys k) = true := by simp [heq]
          have HQ := Keep.mk heq
          clear heq
          go_wp2_with fail
          go_quiet (fail)
          go_wp2
          go_ret
          exact ⟨retB (by symm; rw [decide_eq_false_iff_not]; intro e; exact HQ.out (by rw [e])), bdraw I.out.2 _⟩
      · obtain rfl : k = xs.length := by omega
        go_wp2
        go_ret
        exact ⟨retB (by symm; rw [decide_eq_true_iff]; exact list_ext_el HL.out I.out.1), I.out.2⟩
  · have hl1 : ((xs.length : Int) != (ys.length : Int)) = true := by simp; omega
    have HL := Keep.mk hl
    clear hl
    go_enter Try.func41, Try.ntmps41
    go_wp2
    go_ret
    exact ⟨retB (by symm; rw [decide_eq_false_iff_not]; intro e; exact HL.out (by rw [e])), R.out⟩
theorem leaf_known_enc : encR true [⟨1, 5, 9⟩] = [1, 1, 1, 5, 9] := by decide
theorem leaf_known_chk : chk true [⟨1, 5, 9⟩] = 0 := by decide
set_option maxRecDepth 100000 in
theorem leaf_known (w : World) : Calls Try.prog 25 #[] w fun e w' => e = .returned (.bool true) ∧ Below w.heap.size w w' := by
  have R := Keep.mk (Below.refl w.heap.size w)
  have HE := leaf_Encode true (.slice (some ⟨w.heap.size, 0, none⟩) 1 1) [⟨1, 5, 9⟩] (w.alloc (.cells #[.int .i64 1, .int .i64 5, .int .i64 9] 54)) (row_blk (new_blk rfl) (by simp [maxLen])) (by simp)
  rw [leaf_known_enc, leaf_known_chk] at HE
  have HE := Keep.mk HE
  go_enter Try.func25, Try.ntmps25
  go_wp2_with fail
  refine HE.out.mono ?_
  rintro e w1 ⟨v, rfl, o1, hb1⟩
  have B1 := Keep.mk (bnext (balloc R.out _) (by simp) hb1)
  have R1 := Keep.mk (Row.of_own o1)
  clear o1 hb1
  have HS := Keep.mk (ref01_Same v (.slice (some ⟨w1.heap.size, 0, none⟩) 5 5) [1, 1, 1, 5, 9] [1, 1, 1, 5, 9] (w1.alloc (.cells #[.int .u8 1, .int .u8 1, .int .u8 1, .int .u8 5, .int .u8 9] 5)) (R1.out.below (balloc (Below.refl _ _) _)) (row_blk (new_blk rfl) (by simp [maxLen])) (by simp))
  go_wp2_with (go_at_call 41; refine HS.out.mono ?_; rintro e w2 ⟨rfl, hb2⟩; have B2 := Keep.mk hb2; clear hb2)
  go_ret
  exact ⟨retB (by decide), bnext (balloc B1.out _) (by simp; exact Nat.le_succ_of_le B1.out.size) B2.out⟩
end Go.Proofs.Ytenbclcfhjdcaaa
