/- Plain facts on where documents begin. -/
import Derived.Test.YtenbclcfhjdcaaaBase
namespace Go.Proofs.Ytenbclcfhjdcaaa.Docs
open B

/-- Where document k begins. -/
def st (sz : List Int) (k : Nat) : Int := (sz.take k).sum + k
def sts (sz : List Int) : List Int := (List.range (sz.length + 1)).map (st sz)
/-- The place of the end. -/
def fin (sz : List Int) : Int := sz.sum + sz.length
theorem sts_length (sz : List Int) : (sts sz).length = sz.length + 1 := by simp [sts]
theorem el_sts (sz : List Int) (k : Nat) (h : k ≤ sz.length) : el (sts sz) k = st sz k := by
  rw [el_eq _ _ (by rw [sts_length]; omega)]
  simp [sts]
theorem st_end (sz : List Int) : st sz sz.length = fin sz := by simp [st, fin]
theorem st_zero (sz : List Int) : st sz 0 = 0 := by simp [st]
theorem sum_snoc (l : List Int) (n : Int) : (l ++ [n]).sum = l.sum + n := by
  induction l with
  | nil => simp
  | cons a l ih => simp only [List.cons_append, List.sum_cons, ih]; omega
theorem st_succ (sz : List Int) (k : Nat) (h : k < sz.length) : st sz (k + 1) = st sz k + el sz k + 1 := by
  unfold st
  rw [List.take_succ_eq_append_getElem h, sum_snoc, el_eq _ _ h]
  omega
theorem sts_nil : sts [] = [0] := by simp [sts, st]
theorem fin_snoc (l : List Int) (n : Int) : fin (l ++ [n]) = fin l + n + 1 := by unfold fin; rw [sum_snoc]; simp; omega
theorem sts_snoc (l : List Int) (n : Int) : sts (l ++ [n]) = sts l ++ [fin l + n + 1] := by
  unfold sts
  rw [List.length_append, List.length_singleton, List.range_succ, List.map_append, List.map_singleton]
  congr 1
  · apply List.map_congr_left
    intro k hk
    have : k ≤ l.length := by simp at hk; omega
    unfold st
    rw [List.take_append_of_le_length this]
  · have e : l.length + 1 = (l ++ [n]).length := by simp
    rw [e, st_end, fin_snoc]
/-- Right sizes. -/
def Right (sz : List Int) : Prop := sz.length ≤ 64 ∧ ∀ k, k < sz.length → 0 ≤ el sz k ∧ el sz k ≤ 1024
theorem st_mono (sz : List Int) (h : ∀ k, k < sz.length → 0 ≤ el sz k) : ∀ a b, a ≤ b → b ≤ sz.length → st sz a ≤ st sz b := by
  intro a b hab hb
  induction b with
  | zero => have : a = 0 := by omega
            rw [this]; exact Int.le_refl _
  | succ b ih =>
    rcases Nat.lt_or_ge b a with h1 | h1
    · have : a = b + 1 := by omega
      rw [this]; exact Int.le_refl _
    · have := ih h1 (by omega)
      have h2 := st_succ sz b (by omega)
      have h3 := h b (by omega)
      omega
theorem st_bound (sz : List Int) (h : Right sz) : ∀ k, k ≤ sz.length → 0 ≤ st sz k ∧ st sz k ≤ 1025 * k := by
  intro k hk
  induction k with
  | zero => simp [st]
  | succ k ih =>
    have := ih (by omega)
    have h2 := st_succ sz k (by omega)
    have h3 := h.2 k (by omega)
    omega
theorem fin_bound (sz : List Int) (h : Right sz) : 0 ≤ fin sz ∧ fin sz ≤ 65600 := by
  have := st_bound sz h sz.length (Nat.le_refl _)
  rw [st_end] at this
  have := h.1
  omega
theorem el_take (sz : List Int) (k j : Nat) (h : j < k) : el (sz.take k) j = el sz j := by
  unfold el
  simp [List.getD, List.getElem?_take, h]
theorem right_take {sz : List Int} (h : Right sz) (k : Nat) : Right (sz.take k) := by
  refine ⟨by have := h.1; simp; omega, fun j hj => ?_⟩
  simp at hj
  rw [el_take sz k j (by omega)]
  exact h.2 j (by omega)
/-- Which document, which byte a place is: what Find answers. -/
def find (sz : List Int) (p : Int) : Int × Int × Int :=
  if p < 0 ∨ fin sz < p then (0, 0, 10) else if p = fin sz then (0, 0, 7) else
  match (List.range sz.length).find? fun d => decide (st sz d ≤ p) && decide (p < st sz (d + 1)) with
  | some d => if p - st sz d = el sz d then (0, 0, 7) else (d, p - st sz d, 0)
  | none => (0, 0, 0)
theorem find_at (sz : List Int) (h : Right sz) (p : Int) (d : Nat) (hd : d < sz.length) (h1 : st sz d ≤ p) (h2 : p < st sz (d + 1)) :
    find sz p = if p - st sz d = el sz d then (0, 0, 7) else ((d : Int), p - st sz d, 0) := by
  have hb := st_bound sz h d (by omega)
  have hm := st_mono sz (fun k hk => (h.2 k hk).1) (d + 1) sz.length (by omega) (Nat.le_refl _)
  rw [st_end] at hm
  unfold find
  rw [if_neg (by omega), if_neg (by omega)]
  have hf : (List.range sz.length).find? (fun d => decide (st sz d ≤ p) && decide (p < st sz (d + 1))) = some d := by
    rw [List.find?_range_eq_some]
    refine ⟨by simp [h1, h2], by simpa using hd, fun j hj => ?_⟩
    have := st_mono sz (fun k hk => (h.2 k hk).1) (j + 1) d (by omega) (by omega)
    simp; omega
  rw [hf]
/-- How many places below n are no byte. -/
def cnt (sz : List Int) (n : Nat) : Nat := ((List.range n).filter fun (p : Nat) => decide ((find sz (p : Int)).2.2 ≠ 0)).length
theorem cnt_succ (sz : List Int) (n : Nat) : cnt sz (n + 1) = cnt sz n + if (find sz (n : Int)).2.2 ≠ 0 then 1 else 0 := by
  unfold cnt
  rw [List.range_succ, List.filter_append, List.length_append]
  by_cases h : (find sz (n : Int)).2.2 ≠ 0 <;> simp [h]
theorem cnt_le (sz : List Int) (n : Nat) : cnt sz n ≤ n := by
  unfold cnt
  exact Nat.le_trans (List.length_filter_le _ _) (by simp)
theorem cnt_in (sz : List Int) (h : Right sz) (d : Nat) (hd : d < sz.length) (a : Nat) (ha : (a : Int) = st sz d) : ∀ j : Nat, (j : Int) ≤ el sz d → cnt sz (a + j) = cnt sz a := by
  intro j
  induction j with
  | zero => intro _; rfl
  | succ j ih =>
    intro hj
    have hs := st_succ sz d hd
    rw [← Nat.add_assoc, cnt_succ, ih (by omega), find_at sz h ((a + j : Nat) : Int) d hd (by omega) (by omega), if_neg (show ¬ ((a + j : Nat) : Int) - st sz d = el sz d by omega)]
    simp
theorem cnt_st (sz : List Int) (h : Right sz) : ∀ d, d ≤ sz.length → ∀ a : Nat, (a : Int) = st sz d → cnt sz a = d := by
  intro d
  induction d with
  | zero => intro _ a ha; rw [st_zero] at ha; have : a = 0 := by omega
            subst this; rfl
  | succ d ih =>
    intro hd a ha
    have hs := st_succ sz d (by omega)
    have hb := st_bound sz h d (by omega)
    have he := (h.2 d (by omega)).1
    obtain ⟨b, hb'⟩ : ∃ b : Nat, (b : Int) = st sz d := ⟨(st sz d).toNat, by omega⟩
    obtain ⟨e, he'⟩ : ∃ e : Nat, (e : Int) = el sz d := ⟨(el sz d).toNat, by omega⟩
    have e1 := cnt_in sz h d (by omega) b hb' e (by omega)
    have ha' : a = b + e + 1 := by omega
    rw [ha', cnt_succ, e1, ih (by omega) b hb', find_at sz h ((b + e : Nat) : Int) d (by omega) (by omega) (by omega), if_pos (show ((b + e : Nat) : Int) - st sz d = el sz d by omega)]
    simp
/-- The places that are no byte are as many as documents, and one. -/
theorem cnt_all (sz : List Int) (h : Right sz) (n : Nat) (hn : (n : Int) = fin sz + 1) : cnt sz n = sz.length + 1 := by
  have hb := fin_bound sz h
  obtain ⟨a, ha⟩ : ∃ a : Nat, (a : Int) = fin sz := ⟨(fin sz).toNat, by omega⟩
  have e : n = a + 1 := by omega
  rw [e, cnt_succ, cnt_st sz h sz.length (Nat.le_refl _) a (by rw [st_end]; exact ha)]
  have : find sz (a : Int) = (0, 0, 7) := by unfold find; rw [if_neg (by omega), if_pos ha]
  rw [this]
  simp
theorem place_in (sz : List Int) (_h : Right sz) (d o : Nat) (hd : d < sz.length) (ho : (o : Int) ≤ el sz d) : st sz d + o < st sz (d + 1) := by
  have := st_succ sz d hd
  omega
end Go.Proofs.Ytenbclcfhjdcaaa.Docs
