/- leaf: small functions. -/
import Derived.Test.YtenbclcfhjdcaaaV0
import Derived.Test.YtenbclcfhjdcaaaLeafQ
namespace Go.Proofs.Ytenbclcfhjdcaaa.VM
open Go Go.Proofs AM B
theorem v_Less (a b c d : Int) : A 27 [.agg [i6 a, i6 b], .agg [i6 c, i6 d]] (bo (lessK a b c d)) := by
  intro H
  refine v_enter hC [] (fun _ _ => kn_none rfl) Try.func27 rfl ok27 (Nat.le_of_ble_eq_true rfl) fun hcl hbl => ?_
  simp
  by_cases h1 : a < c <;> by_cases h2 : a = c <;> simp [h1, h2, Try.results27] <;> first | (refine GV.ans hcl ?_; simp [lessK, h1, h2]; done) | (refine GV.ans0 ?_; simp [lessK, h1, h2]; done)
theorem v_Right (a b : Int) : A 22 [.agg [i6 a, i6 b]] (bo (rightK a b)) := by
  intro H
  refine v_enter hC [] (fun _ _ => kn_none rfl) Try.func22 rfl ok22 (Nat.le_of_ble_eq_true rfl) fun hcl hbl => ?_
  simp
  by_cases h1 : 0 ≤ a <;> by_cases h2 : a ≤ 15 <;> by_cases h3 : 0 ≤ b <;> simp [h1, h2, h3, Try.results22] <;> first | (refine GV.ans hcl ?_; simp [rightK, h1, h2, h3]; done) | (refine GV.ans0 ?_; simp [rightK, h1, h2, h3]; done)
theorem v_right (a b p : Int) : A 88 [.agg [i6 a, i6 b, i6 p]] (bo (rightE a b p)) := by
  intro H
  refine v_enter hC [] (fun _ _ => kn_none rfl) Try.func88 rfl ok88 (Nat.le_of_ble_eq_true rfl) fun hcl hbl => ?_
  simp
  refine (v_Right a b).call ?_
  have hr : rightE a b p = (rightK a b && decide (2 ≤ p) && decide (p < 2048)) := by rw [Bool.eq_iff_iff]; simp [rightE, rightK]; omega
  rw [hr]
  cases rightK a b
  · simp [Try.results88]
    first | (refine GV.ans hcl ?_; simp []; done) | (refine GV.ans0 ?_; simp []; done)
  · simp
    by_cases h1 : 2 ≤ p <;> simp [h1, Try.results88] <;> first | (refine GV.ans hcl ?_; simp [h1]; done) | (refine GV.ans0 ?_; simp [h1]; done)
theorem v_sound1 (a b p : Int) : A 108 [.agg [i6 a, i6 b, i6 p]] (bo (!rightE a b p)) := by
  intro H
  refine v_enter hC [] (fun _ _ => kn_none rfl) Try.func108 rfl ok108 (Nat.le_of_ble_eq_true rfl) fun hcl hbl => ?_
  simp
  refine (v_right a b p).call ?_
  simp [Try.results108]
  first | (refine GV.ans hcl ?_; simp []; done) | (refine GV.ans0 ?_; simp []; done)
theorem v_key (a b : Int) : A 23 [.agg [i6 a, i6 b]] (.agg [i6 a, i6 b]) := by
  intro H
  refine v_enter hC [] (fun _ _ => kn_none rfl) Try.func23 rfl ok23 (Nat.le_of_ble_eq_true rfl) fun hcl hbl => ?_
  simp [Try.results23]
  first | (refine GV.ans hcl ?_; simp []; done) | (refine GV.ans0 ?_; simp []; done)
theorem v_entry (a b p : Int) : A 45 [.agg [i6 a, i6 b, i6 p]] (.agg [i6 a, i6 b, i6 p]) := by
  intro H
  refine v_enter hC [] (fun _ _ => kn_none rfl) Try.func45 rfl ok45 (Nat.le_of_ble_eq_true rfl) fun hcl hbl => ?_
  simp
  refine v_draw (ord := [0, 1, 2, 3, 4, 5, 6]) (m := 5) (by decide +kernel) ?_
  simp
  refine (v_key a b).call ?_
  simp [Try.results45]
  first | (refine GV.ans hcl ?_; simp []; done) | (refine GV.ans0 ?_; simp []; done)
theorem v_Place (a b : Int) : A 26 [.agg [i6 a, i6 b]] (i6 (IntKind.i64.wrap (IntKind.i64.wrap (65536 * a) + b))) := by
  intro H
  refine v_enter hC [] (fun _ _ => kn_none rfl) Try.func26 rfl ok26 (Nat.le_of_ble_eq_true rfl) fun hcl hbl => ?_
  simp [Try.results26]
  first | (refine GV.ans hcl ?_; simp []; done) | (refine GV.ans0 ?_; simp []; done)
theorem v_rRight (a b p : Int) : A 47 [.agg [i6 a, i6 b, i6 p]] (bo (rightE a b p)) := by
  intro H
  refine v_enter hC [] (fun _ _ => kn_none rfl) Try.func47 rfl ok47 (Nat.le_of_ble_eq_true rfl) fun hcl hbl => ?_
  simp
  have hr : rightE a b p = (decide (0 ≤ a) && (decide (a < 16) && (decide (0 ≤ b) && (decide (b < 65536) && (decide (1 < p) && decide (p < 2048)))))) := by rw [Bool.eq_iff_iff]; simp [rightE]; omega
  rw [hr]
  by_cases h1 : 0 ≤ a <;> by_cases h2 : a < 16 <;> by_cases h3 : 0 ≤ b <;> by_cases h4 : b < 65536 <;> by_cases h5 : 1 < p <;> simp [h1, h2, h3, h4, h5, Try.results47] <;> first | (refine GV.ans hcl ?_; simp [h1, h2, h3, h4, h5]; done) | (refine GV.ans0 ?_; simp [h1, h2, h3, h4, h5]; done)
end Go.Proofs.Ytenbclcfhjdcaaa.VM
