/- sort.Search over a function value that keeps what was there. -/
import Derived.Test.YtenbclcfhjdcaaaProg
import Derived.Test.YtenbclcfhjdcaaaBase
namespace Go.Proofs.Ytenbclcfhjdcaaa
open Go.RowKit B

theorem sort_search (g : Nat) (cb : Array Value) (n : Nat) (p : Nat → Bool) (w : World) (eg : ∀ args w, (callFunc g args).run Try.prog w = .ok (.enter g args) w) (hsz : n < 4611686018427387904)
    (hf : ∀ (i : Nat) (W : World), i < n → Below w.heap.size w W → Calls Try.prog g (#[.int .i64 i] ++ cb) W fun e w' => e = .returned (.bool (p i)) ∧ Below W.heap.size W w')
    (hmono : ∀ a b, a ≤ b → b < n → p a = true → p b = true) :
    Calls Try.prog 74 #[.int .i64 n, .func (.func g) #[] cb] w fun e w' => ∃ r : Nat, e = .returned (.int .i64 r) ∧ (r ≤ n ∧ (∀ t, t < r → p t = false) ∧ (∀ t, r ≤ t → t < n → p t = true)) ∧ Below w.heap.size w w' := by
  have HF : Keep _ := ⟨hf⟩
  have M : Keep _ := ⟨hmono⟩
  clear hf hmono
  generalize hB : w.heap.size = B at *
  have HB : Keep (w.heap.size = B) := ⟨hB⟩
  clear hB
  have R : Keep (Below B w w) := ⟨Below.refl _ _⟩
  go_enter Try.func74, Try.ntmps74
  go_wp2
  go_loopg [5, 6] n (fun kx s5 s6 wr => ∃ (lo hi : Nat), s5 = .int .i64 lo ∧ s6 = .int .i64 hi ∧ lo ≤ hi ∧ hi ≤ n ∧ hi - lo ≤ kx ∧
    Keep ((∀ t, t < lo → p t = false) ∧ (∀ t, hi ≤ t → t < n → p t = true) ∧ Below B w wr))
  case atStart => exact ⟨0, n, rfl, rfl, Nat.zero_le _, Nat.le_refl _, by omega, ⟨fun t ht => absurd ht (Nat.not_lt_zero _), fun t h1 h2 => by omega, R.out⟩⟩
  case round =>
    obtain ⟨lo, hi, rfl, rfl, hlh, hin, hg, I⟩ := hrel
    by_cases hlt : lo < hi
    · have hc := HF.out ((lo + hi) / 2) wr (by omega) I.out.2.2
      rw [show (((lo + hi) / 2 : Nat) : Int) = ((lo : Int) + (hi : Int)) / 2 by omega] at hc
      cases hp : p ((lo + hi) / 2) <;> rw [hp] at hc
      · have HP : Keep (p ((lo + hi) / 2) = false) := ⟨hp⟩
        clear hp
        go_wp2_with (go_at_fn g; refine hc.mono ?_; rintro e w' ⟨rfl, hb'⟩; have HB' := Keep.mk hb'; clear hb')
        go_roundg (hi - ((lo + hi) / 2 + 1))
        case measure => omega
        case rel =>
          refine ⟨(lo + hi) / 2 + 1, hi, by rw [show ((lo : Int) + (hi : Int)) / 2 + 1 = (((lo + hi) / 2 + 1 : Nat) : Int) by omega], rfl, by omega, hin, Nat.le_refl _, ⟨fun t ht => ?_, I.out.2.1, bnext I.out.2.2 (HB.out ▸ I.out.2.2.size) HB'.out⟩⟩
          cases h : p t with
          | false => rfl
          | true => have := M.out t ((lo + hi) / 2) (by omega) (by omega) h; rw [HP.out] at this; cases this
      · have HP : Keep (p ((lo + hi) / 2) = true) := ⟨hp⟩
        clear hp
        go_wp2_with (go_at_fn g; refine hc.mono ?_; rintro e w' ⟨rfl, hb'⟩; have HB' := Keep.mk hb'; clear hb')
        go_roundg ((lo + hi) / 2 - lo)
        case measure => omega
        case rel =>
          exact ⟨lo, (lo + hi) / 2, rfl, by rw [show ((lo : Int) + (hi : Int)) / 2 = (((lo + hi) / 2 : Nat) : Int) by omega], by omega, by omega, Nat.le_refl _, ⟨I.out.1, fun t ht htn => M.out ((lo + hi) / 2) t ht htn HP.out, bnext I.out.2.2 (HB.out ▸ I.out.2.2.size) HB'.out⟩⟩
    · obtain rfl : hi = lo := by omega
      go_wp2
      go_ret
      exact ⟨hi, rfl, ⟨hin, I.out.1, I.out.2.1⟩, I.out.2.2⟩
end Go.Proofs.Ytenbclcfhjdcaaa
