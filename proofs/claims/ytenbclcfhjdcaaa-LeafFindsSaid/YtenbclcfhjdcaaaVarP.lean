/- Numbers as bytes, seven bits a byte: plain. -/
import Derived.Test.YtenbclcfhjdcaaaBase
namespace Go.Proofs.Ytenbclcfhjdcaaa
open B
def vencF : Nat → Nat → List Int
  | 0, _ => []
  | k + 1, n => if n < 128 then [(n : Int)] else ((n % 128 + 128 : Nat) : Int) :: vencF k (n / 128)
/-- A number's bytes. -/
def venc (n : Nat) : List Int := vencF 10 n
theorem vencF_more : ∀ (k n : Nat), n < 128 ^ k → 0 < k → vencF (k + 1) n = vencF k n := by
  intro k
  induction k with
  | zero => intro n _ h; omega
  | succ k ih =>
    intro n hn _
    by_cases h : n < 128
    · simp [vencF, h]
    · have e1 : ∀ j, vencF (j + 1) n = ((n % 128 + 128 : Nat) : Int) :: vencF j (n / 128) := fun j => by rw [vencF, if_neg h]
      rw [e1, e1]
      congr 1
      rcases Nat.eq_zero_or_pos k with h0 | h0
      · subst h0; omega
      · exact ih (n / 128) (by rw [Nat.pow_succ] at hn; omega) h0
theorem venc_lt (n : Nat) (h : n < 128) : venc n = [(n : Int)] := by simp [venc, vencF, h]
theorem venc_ge (n : Nat) (h : 128 ≤ n) (h2 : n < 18446744073709551616) : venc n = ((n % 128 + 128 : Nat) : Int) :: venc (n / 128) := by
  have e : vencF 10 n = ((n % 128 + 128 : Nat) : Int) :: vencF 9 (n / 128) := by rw [vencF, if_neg (by omega)]
  unfold venc
  rw [e, vencF_more 9 (n / 128) (by omega) (by omega)]
theorem vencF_length : ∀ k n, (vencF k n).length ≤ k := by
  intro k
  induction k with
  | zero => intro n; simp [vencF]
  | succ k ih => intro n; unfold vencF; split <;> simp [ih]
theorem venc_length (n : Nat) : (venc n).length ≤ 10 := vencF_length 10 n
theorem venc_pos (n : Nat) : 0 < (venc n).length := by unfold venc vencF; split <;> simp
theorem vencF_byte : ∀ k n x, x ∈ vencF k n → 0 ≤ x ∧ x ≤ 255 := by
  intro k
  induction k with
  | zero => intro n x h; simp [vencF] at h
  | succ k ih =>
    intro n x h
    unfold vencF at h
    split at h
    · simp at h; omega
    · rcases List.mem_cons.1 h with rfl | h
      · omega
      · exact ih _ x h
theorem venc_byte (n : Nat) (x : Int) (h : x ∈ venc n) : 0 ≤ x ∧ x ≤ 255 := vencF_byte 10 n x h
/-- Numbers' bytes, one behind the other. -/
def vencs (l : List Int) : List Int := l.flatMap fun n => venc n.toNat
theorem vencs_append (a b : List Int) : vencs (a ++ b) = vencs a ++ vencs b := by simp [vencs]
theorem vencs_length (l : List Int) : (vencs l).length ≤ 10 * l.length := by
  induction l with
  | nil => simp [vencs]
  | cons a l ih =>
    have := venc_length a.toNat
    simp only [vencs, List.flatMap_cons, List.length_append, List.length_cons] at *
    omega
theorem vencs_pos (l : List Int) : l.length ≤ (vencs l).length := by
  induction l with
  | nil => simp [vencs]
  | cons a l ih =>
    have := venc_pos a.toNat
    simp only [vencs, List.flatMap_cons, List.length_append, List.length_cons] at *
    omega
end Go.Proofs.Ytenbclcfhjdcaaa
