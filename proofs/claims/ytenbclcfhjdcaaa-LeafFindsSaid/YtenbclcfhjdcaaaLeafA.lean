/- Small functions of leaf and of its reference. -/
import Derived.Test.YtenbclcfhjdcaaaProg
import Derived.Test.YtenbclcfhjdcaaaEnt
import Derived.Test.YtenbclcfhjdcaaaSearch
namespace Go.Proofs.Ytenbclcfhjdcaaa
open Go.RowKit B
/-- Is a key less than another one? -/
def lessK (a b c d : Int) : Bool := decide (a < c ∨ a = c ∧ b < d)
/-- Is it a key? -/
def rightK (a b : Int) : Bool := decide (0 ≤ a ∧ a ≤ 15 ∧ 0 ≤ b ∧ b ≤ 65535)
/-- Is an entry as it must be? -/
def rightE (a b p : Int) : Bool := decide ((0 ≤ a ∧ a ≤ 15 ∧ 0 ≤ b ∧ b ≤ 65535) ∧ 2 ≤ p ∧ p < 2048)
theorem leaf_less (a b c d : Int) (w : World) :
    Calls Try.prog 27 #[.agg #[.int .i64 a, .int .i64 b], .agg #[.int .i64 c, .int .i64 d]] w fun e w' => e = .returned (.bool (lessK a b c d)) ∧ Below w.heap.size w w' := by
  have R := Keep.mk (Below.refl w.heap.size w)
  go_enter Try.func27, Try.ntmps27
  go_wp2
  all_goals
    go_ret
    exact ⟨retB (by rw [Bool.eq_iff_iff]; simp [lessK] at *; omega), balloc (balloc R.out _) _⟩
theorem leaf_Right (a b : Int) (w : World) :
    Calls Try.prog 22 #[.agg #[.int .i64 a, .int .i64 b]] w fun e w' => e = .returned (.bool (rightK a b)) ∧ Below w.heap.size w w' := by
  have R := Keep.mk (Below.refl w.heap.size w)
  go_enter Try.func22, Try.ntmps22
  go_wp2
  all_goals
    go_ret
    exact ⟨retB (by rw [Bool.eq_iff_iff]; simp [rightK]; omega), balloc R.out _⟩
theorem leaf_right (a b p : Int) (w : World) :
    Calls Try.prog 88 #[.agg #[.int .i64 a, .int .i64 b, .int .i64 p]] w fun e w' => e = .returned (.bool (rightE a b p)) ∧ Below w.heap.size w w' := by
  have R := Keep.mk (Below.refl w.heap.size w)
  have S := Keep.mk (fun w => leaf_Right a b w)
  cases hk : rightK a b
  all_goals
    rw [hk] at S
    have HK := Keep.mk hk
    clear hk
    go_enter Try.func88, Try.ntmps88
    go_wp2_with (go_at_call 22; refine (S.out _).mono ?_; rintro e w' ⟨rfl, hb⟩; have HB := Keep.mk hb; obtain ⟨cc, cf⟩ := bcell hb; clear hb)
    all_goals
      go_ret
      have hk := HK.out
      simp [rightK] at hk
      exact ⟨retB (by rw [Bool.eq_iff_iff]; simp [rightE]; omega), bnext (balloc R.out _) (by simp) HB.out⟩
theorem law09_key (a b : Int) (w : World) :
    Calls Try.prog 23 #[.agg #[.int .i64 a, .int .i64 b]] w fun e w' => e = .returned (.agg #[.int .i64 a, .int .i64 b]) ∧ Below w.heap.size w w' := by
  have R := Keep.mk (Below.refl w.heap.size w)
  go_enter Try.func23, Try.ntmps23
  go_wp2
  refine bodyPost_ret (v := .agg #[.int .i64 a, .int .i64 b]) (by simp [results, Try.results23, go_sem]) rfl ⟨rfl, ?_⟩
  exact balloc (balloc R.out _) _
theorem law09_entry (a b p : Int) (w : World) :
    Calls Try.prog 45 #[.agg #[.int .i64 a, .int .i64 b, .int .i64 p]] w fun e w' => e = .returned (.agg #[.int .i64 a, .int .i64 b, .int .i64 p]) ∧ Below w.heap.size w w' := by
  have R := Keep.mk (Below.refl w.heap.size w)
  have S := Keep.mk (fun w => law09_key a b w)
  go_enter Try.func45, Try.ntmps45
  go_wp2_with fail
  go_region_with (go_at_call 23; refine (S.out _).mono ?_; rintro e w' ⟨rfl, hb⟩; have HB := Keep.mk hb; obtain ⟨cc, cf⟩ := bcell hb; clear hb)
  all_goals
    go_wp2
    refine bodyPost_ret (v := .agg #[.int .i64 a, .int .i64 b, .int .i64 p]) (by simp [results, Try.results45, go_sem, cc]) rfl ⟨rfl, ?_⟩
    (repeat refine Below.setCell ?_ (by simp) _)
    exact bnext ((balloc (balloc R.out _) _).drew) (by simp <;> omega) HB.out
theorem ref09_Place (a b : Int) (w : World) :
    Calls Try.prog 26 #[.agg #[.int .i64 a, .int .i64 b]] w fun e w' => e = .returned (.int .i64 (wrap64 (wrap64 (65536 * a) + b))) ∧ Below w.heap.size w w' := by
  have R := Keep.mk (Below.refl w.heap.size w)
  go_enter Try.func26, Try.ntmps26
  go_wp2
  go_ret
  exact ⟨rfl, balloc R.out _⟩
theorem ref09_Right (a b p : Int) (w : World) :
    Calls Try.prog 47 #[.agg #[.int .i64 a, .int .i64 b, .int .i64 p]] w fun e w' => e = .returned (.bool (rightE a b p)) ∧ Below w.heap.size w w' := by
  have R := Keep.mk (Below.refl w.heap.size w)
  go_enter Try.func47, Try.ntmps47
  go_wp2
  all_goals
    go_ret
    exact ⟨retB (by rw [Bool.eq_iff_iff]; simp [rightE]; omega), balloc R.out _⟩
theorem leaf_sound1 (a b p : Int) (w : World) :
    Calls Try.prog 108 #[.agg #[.int .i64 a, .int .i64 b, .int .i64 p]] w fun e w' => e = .returned (.bool (!rightE a b p)) ∧ Below w.heap.size w w' := by
  have R := Keep.mk (Below.refl w.heap.size w)
  have S := Keep.mk (fun w => leaf_right a b p w)
  generalize rightE a b p = r at *
  go_enter Try.func108, Try.ntmps108
  go_wp2_with (go_at_call 88; refine (S.out _).mono ?_; rintro e w' ⟨rfl, hb⟩; have HB := Keep.mk hb; clear hb)
  go_ret
  exact ⟨rfl, bnext (balloc R.out _) (by simp) HB.out⟩
end Go.Proofs.Ytenbclcfhjdcaaa
