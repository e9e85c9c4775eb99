/- What the proof of SampleOrders rests on, part 7 of 7. -/
import Derived.Test.YtibejcomfjddfaaSampleOrdersP6
import Derived.Test.YtibejcomfjddfaaSampleOrdersS
section
set_option maxHeartbeats 8000000
set_option linter.unusedVariables false
set_option linter.unusedSimpArgs false

/- The document's packed numbers: layer 12; fit. -/
namespace Go.Proofs.Ytibejcomfjddfaa.VM
open Go Go.Proofs AM
set_option maxRecDepth 100000
def bi (b : Bool) : List V := [i6 b.toNat]
attribute [simp] bi
theorem bitsN_succ (w x : Nat) : bitsN (w + 1) x = bitsN w x ++ [x.testBit w] := by simp [bitsN, List.range_succ]
theorem bit_mod (x j : Nat) : x / 2 ^ j % 2 = (x.testBit j).toNat := by
  rw [Nat.testBit_eq_decide_div_mod_eq]
  rcases Nat.mod_two_eq_zero_or_one (x / 2 ^ j) with h | h <;> simp [h]
theorem v_r12Bytes {w : Nat} {kk : Bool} {l : List Int} (hw0 : 1 ≤ w) (hw : w ≤ 31) (hl : l.length ≤ 65536) (hin : ∀ x ∈ l, 0 ≤ x ∧ x < (2 ^ w : Nat)) : A 52 [i6 w, IS kk l] (BS true ((w : Int) :: (venc l.length ++ bytesB (packL w l)))) := by
  intro H
  have hP31 : (2 : Nat) ^ w ≤ 2 ^ 31 := Nat.pow_le_pow_right (by omega) hw
  have hmb : w * l.length ≤ 31 * 65536 := Nat.mul_le_mul hw hl
  have hvl := venc_length l.length
  have f0 : IntKind.u64.wrap (l.length : Int) = (l.length : Int) := wrap64 (by omega)
  have f1 : IntKind.u8.wrap (w : Int) = (w : Int) := by simp [IntKind.wrap, IntKind.bits, IntKind.signed]; omega
  obtain ⟨m, hm⟩ : ∃ m, packL w l = m := ⟨_, rfl⟩
  have hml : m.length = w * l.length := by rw [← hm, packL_len]
  have hyl := bytesB_len m
  rw [hm]
  refine v_enter hC [37] (fun _ _ => kn_none rfl) Try.func52 rfl ok52 (Nat.le_of_ble_eq_true rfl) fun hcl hbl => ?_
  simp
  refine v_loopX hC (fun (k : Nat) e T => (∃ v t, T = H ++ [.vec v ((packL w (l.take k)).map bi) 1 true t] ∧ e 5 = .own H.length v) ∧ e 0 = i6 w ∧ e 1 = IS kk l ∧ e 6 = i6 k ∧ k ≤ l.length) (fun k => l.length - k) 0 ?_ ?_
  · refine G.nilT0 (s := 1) 5 hcl (Nat.le_refl _) (by omega) (by simp) ?_
    exact ⟨⟨0, true, by simp [packL], by simp⟩, by simp, by simp, by simp, by omega⟩
  · rintro k e T ⟨⟨v, t, rfl, h5⟩, h0, h1, h6, hk⟩
    simp [h1, h6]
    refine CondV.dec (fun hlt => ?_) (fun hge => ?_)
    · have hlt : k < l.length := by omega
      obtain ⟨x, hx⟩ : ∃ x, l[k]? = some x := ⟨_, List.getElem?_eq_getElem hlt⟩
      obtain ⟨q1, q2⟩ := hin x (List.mem_of_getElem? hx)
      obtain ⟨n, rfl⟩ : ∃ n : Nat, x = n := ⟨x.toNat, by omega⟩
      have htk : l.take (k + 1) = l.take k ++ [(n : Int)] := by rw [List.take_add_one, hx]; rfl
      have hpl : (packL w (l.take k)).length = w * k := by rw [packL_len]; congr 1; simp; omega
      have hwk : w * k ≤ w * l.length := Nat.mul_le_mul_left _ hk
      simp [h0, h1, h5, h6, hx]
      refine v_loopX hC (fun (j : Nat) e' T' => (∃ v t, T' = H ++ [.vec v ((packL w (l.take k) ++ bitsN j n).map bi) 1 true t] ∧ e' 5 = .own H.length v) ∧ j ≤ w ∧ e' 0 = i6 w ∧ e' 1 = IS kk l ∧ e' 6 = i6 k ∧ e' 7 = i6 (n / 2 ^ j : Nat) ∧ e' 8 = i6 j) (fun j => w - j) 0 (G.refl ?_) ?_
      · exact ⟨⟨v, t, by simp [bitsN], by simp [h5]⟩, by omega, by simp [h0], by simp [h1], by simp [h6], by simp, by simp⟩
      · rintro j e' T' ⟨⟨v', t', rfl, g5⟩, hjw, g0, g1, g6, g7, g8⟩
        simp [g0, g8]
        refine CondV.dec (fun hj => ?_) (fun hj => ?_)
        · have hj : j < w := by omega
          obtain ⟨y, hy⟩ : ∃ y, n / 2 ^ j = y := ⟨_, rfl⟩
          have hyn : y ≤ n := by rw [← hy]; exact Nat.div_le_self _ _
          have hbm := bit_mod n j
          rw [hy] at g7 hbm
          have hd2 : n / 2 ^ (j + 1) = y / 2 := by rw [Nat.pow_succ, ← Nat.div_div_eq_div_mul, hy]
          have hbl2 : (bitsN j n).length = j := bitsN_len ..
          have u1 : ((y : Int)).tmod 2 = (((n.testBit j).toNat : Nat) : Int) := by rw [Int.tmod_eq_emod_of_nonneg (by omega), ← hbm]; omega
          have u2 : IntKind.i64.wrap ((y : Int) / 2) = ((n / 2 ^ (j + 1) : Nat) : Int) := by rw [w64 (by omega), hd2]; omega
          have u3 : ((n / 2 ^ (j + 1) : Nat) : Int) = ((y / 2 : Nat) : Int) := by rw [hd2]
          simp [g0, g1, g5, g6, g7, g8, u1, u2, w64 (n := (j : Int) + 1) (by omega)]
          refine ⟨by simp [hpl, hbl2]; omega, GH.refl ⟨j + 1, ⟨⟨v' + 1, t', ?_, ?_⟩, by omega, by simp [g0], by simp [g1], by simp [g6], by simp, by simp⟩, by omega⟩⟩
          · simp [bitsN_succ]
          · simp
        · have hjw' : j = w := by omega
          subst hjw'
          simp [g0, g1, g5, g6, w64 (n := (k : Int) + 1) (by omega)]
          refine GH.refl ⟨k + 1, ⟨⟨v', t', ?_, ?_⟩, by simp [g0], by simp [g1], by simp, by omega⟩, by omega⟩
          · rw [htk, packL_snoc]; simp
          · simp [g5]
    · have hkl : k = l.length := by omega
      subst hkl
      simp [h0, h1, f0, f1]
      refine (v_rPut (n := l.length) (by omega)).call ?_
      rw [hm]
      simp
      refine ⟨by omega, ?_⟩
      refine v_loopX hC (fun (k : Nat) e T => (∃ v2 t2, T = H ++ [.vec v (m.map bi) 1 true t, .vec v2 (((w : Int) :: (venc l.length ++ (bytesB m).take k)).map bc) 1 true t2] ∧ e 9 = .own (H.length + 1) v2) ∧ e 5 = .own H.length v ∧ e 10 = i6 ((8 * k : Nat) : Int) ∧ k ≤ (bytesB m).length) (fun k => (bytesB m).length - k) 0 (G.refl ?_) ?_
      · exact ⟨⟨_, _, by simp; exact ⟨rfl, rfl⟩, by simp⟩, by simp [h5], by simp, by omega⟩
      · rintro k e T ⟨⟨v2, t2, rfl, h9⟩, h5, h10, hk⟩
        obtain ⟨i, hi⟩ : ∃ i, 8 * k = i := ⟨_, rfl⟩
        rw [hi] at h10
        simp [h5, h10]
        refine CondV.dec (fun hlt => ?_) (fun hge => ?_)
        · have hlt : k < (m.length + 7) / 8 := by omega
          have htk := bytesB_take m hlt
          rw [hi] at htk
          simp
          refine v_loopX hC (fun (j : Nat) e' T' => T' = H ++ [.vec v (m.map bi) 1 true t, .vec v2 (((w : Int) :: (venc l.length ++ (bytesB m).take k)).map bc) 1 true t2] ∧ j ≤ 8 ∧ e' 5 = .own H.length v ∧ e' 9 = .own (H.length + 1) v2 ∧ e' 10 = i6 i ∧ e' 11 = i6 (getN m (i + (8 - j)) j : Nat) ∧ e' 12 = i6 (7 - (j : Int))) (fun j => 8 - j) 0 (G.refl ?_) ?_
          · simp [h5, h9, h10, getN_zero]
          · rintro j e' T' ⟨rfl, hj8, g5, g9, g10, g11, g12⟩
            have hgl := getN_lt m (i + (8 - j)) j
            have hpow : 2 ^ j ≤ 2 ^ 8 := Nat.pow_le_pow_right (by omega) hj8
            simp [g12]
            refine CondV.dec (fun hj => ?_) (fun hj => ?_)
            · have hj : j < 8 := by omega
              obtain ⟨c, hc⟩ : ∃ c, getN m (i + (8 - j)) j = c := ⟨_, rfl⟩
              have hcn : getN m (i + (8 - (j + 1))) (j + 1) = (m.getD (i + 7 - j) false).toNat + 2 * c := by
                rw [getN_succ, ← hc]; congr 3 <;> omega
              rw [hc] at g11 hgl
              have w1 : IntKind.i64.wrap (2 * (c : Int)) = ((2 * c : Nat) : Int) := by rw [w64 (by omega)]; omega
              obtain ⟨p, hp⟩ : ∃ p, i + 7 - j = p := ⟨_, rfl⟩
              rw [hp] at hcn
              have w2 : IntKind.i64.wrap ((i : Int) + (7 - (j : Int))) = (p : Int) := by rw [w64 (by omega)]; omega
              have w3 : IntKind.i64.wrap (7 - (j : Int) - 1) = 7 - ((j + 1 : Nat) : Int) := by rw [w64 (by omega)]; omega
              simp [g5, g9, g10, g11, g12, w1, w2]
              refine CondV.dec (fun hpl => ?_) (fun hpl => ?_)
              · have hb1 := Bool.toNat_le (m.getD p false)
                have w4 : IntKind.i64.wrap (((2 * c : Nat) : Int) + ((m.getD p false).toNat : Nat)) = ((getN m (i + (8 - (j + 1))) (j + 1) : Nat) : Int) := by rw [hcn, w64 (by omega)]; omega
                rw [show m.getD p false = m[p] by simp [hpl]] at w4
                simp at w4
                simp [g5, g9, g10, g11, g12, w1, w2, hpl, w3, w4]
                refine GH.refl ⟨j + 1, ⟨by simp, by omega, by simp [g5], by simp [g9], by simp [g10], by simp, by simp⟩, by omega⟩
              · rw [getD_ge (by omega)] at hcn
                have w4 : ((2 * c : Nat) : Int) = ((getN m (i + (8 - (j + 1))) (j + 1) : Nat) : Int) := by rw [hcn]; simp
                simp at w4
                simp [g5, g9, g10, g11, g12, w1, w2, hpl, w3, w4]
                refine GH.refl ⟨j + 1, ⟨by simp, by omega, by simp [g5], by simp [g9], by simp [g10], by simp, by simp⟩, by omega⟩
            · have hj8' : j = 8 := by omega
              subst hj8'
              have w5 : IntKind.u8.wrap ((getN m i 8 : Nat) : Int) = ((getN m i 8 : Nat) : Int) := by
                simp at hgl
                simp [IntKind.wrap, IntKind.bits, IntKind.signed]; omega
              have w6 : IntKind.i64.wrap ((i : Int) + 8) = ((8 * (k + 1) : Nat) : Int) := by rw [w64 (by omega)]; omega
              simp [g5, g9, g10, g11, w5, w6]
              refine ⟨by omega, GH.refl ⟨k + 1, ⟨⟨v2 + 1, t2, ?_, ?_⟩, by simp [g5], by simp, by omega⟩, by omega⟩⟩
              · simp [htk]
              · simp
        · have hkl : k = (bytesB m).length := by omega
          subst hkl
          simp [h9, Try.results52]
          refine GV.ans hcl ?_
          simp
theorem v_r12Width {n : Nat} (hn : n < 2147483648) : A 51 [i6 n] (i6 (wid n)) := by
  intro H
  refine v_enter hC [] (fun _ _ => kn_none rfl) Try.func51 rfl ok51 (Nat.le_of_ble_eq_true rfl) fun hcl hbl => ?_
  simp [show ¬ (n : Int) < 0 by omega, show ¬ (2147483647 : Int) < n by omega]
  refine v_loopX hC (fun (k : Nat) e T => T = H ∧ e 0 = i6 (n / 2 ^ k : Nat) ∧ e 3 = i6 ((k + 1 : Nat) : Int) ∧ k ≤ 31 ∧ wid n = k + wid (n / 2 ^ k)) (fun k => n / 2 ^ k) 0 (G.refl ?_) ?_
  · simp
  · rintro k e T ⟨rfl, h0, h3, hk, hw⟩
    obtain ⟨y, hy⟩ : ∃ y, n / 2 ^ k = y := ⟨_, rfl⟩
    have hyn : y ≤ n := by rw [← hy]; exact Nat.div_le_self _ _
    have hd2 : n / 2 ^ (k + 1) = y / 2 := by rw [Nat.pow_succ, ← Nat.div_div_eq_div_mul, hy]
    rw [hy] at h0 hw
    simp [h0]
    refine CondV.dec (fun hlt => ?_) (fun hge => ?_)
    · have hlt : 2 ≤ y := by omega
      have hk31 : k < 31 := by
        rcases Nat.lt_or_ge k 31 with h | h
        · exact h
        · exfalso
          have : n / 2 ^ k ≤ n / 2 ^ 31 := Nat.div_le_div_left (Nat.pow_le_pow_right (by omega) h) (by omega)
          have h0 : n / 2 ^ 31 = 0 := Nat.div_eq_of_lt hn
          omega
      have u2 : IntKind.i64.wrap ((y : Int) / 2) = ((n / 2 ^ (k + 1) : Nat) : Int) := by rw [w64 (by omega), hd2]; omega
      have hs := blen_shift (x := y) (k := 1) (by omega)
      have hb1 : ¬ blen (y / 2 ^ 1) ≤ 0 := by rw [blen_le]; omega
      have hws : wid y = 1 + wid (y / 2) := by unfold wid; rw [hs]; simp only [Nat.pow_one] at hb1 ⊢; omega
      have w1 : IntKind.i64.wrap ((k : Int) + 1 + 1) = (k : Int) + 1 + 1 := w64 (by omega)
      simp [h0, h3, u2, w1]
      refine GH.refl ⟨k + 1, ⟨rfl, by simp, by simp, by omega, by rw [hd2]; omega⟩, by rw [hd2, hy]; omega⟩
    · have hy1 : y < 2 := by omega
      have hw1 : wid y = 1 := by
        have := (wid_le (n := y) (k := 1) (by omega)).2 (by omega)
        have := (wid_le (n := y) (k := 1) (by omega)).1
        unfold wid at *; omega
      simp [h3, Try.results51]
      refine GV.ans0 ?_
      simp [hw, hw1]
end Go.Proofs.Ytibejcomfjddfaa.VM
end
section
set_option maxHeartbeats 8000000
set_option linter.unusedVariables false
set_option linter.unusedSimpArgs false

/- Orders, and what samples of them are: plain. -/
namespace Go.Proofs.Ytibejcomfjddfaa.VM
open Go Go.Proofs AM
set_option maxRecDepth 100000
theorem sub_len {α : Type} [BEq α] [LawfulBEq α] : ∀ {l r : List α}, l.Nodup → (∀ x ∈ l, x ∈ r) → l.length ≤ r.length
  | [], r, _, _ => Nat.zero_le _
  | a :: l, r, hn, hs => by
    obtain ⟨h1, h2⟩ := List.nodup_cons.1 hn
    have ha : a ∈ r := hs a (by simp)
    have := sub_len (r := r.erase a) h2 fun x hx => by
      have hne : x ≠ a := fun e => h1 (e ▸ hx)
      exact (List.mem_erase_of_ne hne).2 (hs x (by simp [hx]))
    rw [List.length_erase_of_mem ha] at this
    have := List.length_pos_of_mem ha
    simp only [List.length_cons]
    omega
/-- All of 0 .. n - 1, each one once. -/
def isP (l : List Int) : Bool := l.all (fun x => decide (0 ≤ x ∧ x < l.length)) && decide l.Nodup
theorem isP_iff {l : List Int} : isP l = true ↔ (∀ x ∈ l, 0 ≤ x ∧ x < l.length) ∧ l.Nodup := by simp [isP]
def rngI (n : Nat) : List Int := (List.range n).map fun (i : Nat) => (i : Int)
theorem rngI_mem {n : Nat} {x : Int} : x ∈ rngI n ↔ 0 ≤ x ∧ x < n := by
  simp only [rngI, List.mem_map, List.mem_range]
  constructor
  · rintro ⟨i, h, rfl⟩; omega
  · intro h; exact ⟨x.toNat, by omega, by omega⟩
theorem rngI_nodup (n : Nat) : (rngI n).Nodup := by
  unfold rngI
  rw [List.Nodup, List.pairwise_map]
  refine List.nodup_range.imp fun h => ?_
  intro e; exact h (by omega)
theorem rngI_len (n : Nat) : (rngI n).length = n := by simp [rngI]
theorem isP_all {l : List Int} (h : isP l = true) {v : Int} (h0 : 0 ≤ v) (hv : v < l.length) : v ∈ l := by
  obtain ⟨h1, h2⟩ := isP_iff.1 h
  rcases Decidable.em (v ∈ l) with hm | hm
  · exact hm
  · exfalso
    have hvr : v ∈ rngI l.length := rngI_mem.2 ⟨h0, hv⟩
    have := sub_len (r := (rngI l.length).erase v) h2 fun x hx => by
      have hne : x ≠ v := fun e => hm (e ▸ hx)
      exact (List.mem_erase_of_ne hne).2 (rngI_mem.2 (h1 x hx))
    rw [List.length_erase_of_mem hvr, rngI_len] at this
    omega
theorem isP_of_all {l : List Int} (h : ∀ v : Nat, v < l.length → (v : Int) ∈ l) : isP l = true := by
  have hall : ∀ x ∈ rngI l.length, x ∈ l := fun x hx => by
    obtain ⟨h1, h2⟩ := rngI_mem.1 hx
    have := h x.toNat (by omega)
    rwa [show ((x.toNat : Nat) : Int) = x by omega] at this
  rw [isP_iff]
  constructor
  · intro x hx
    rcases Decidable.em (x ∈ rngI l.length) with hr | hr
    · exact rngI_mem.1 hr
    · exfalso
      have := sub_len (r := l.erase x) (rngI_nodup l.length) fun y hy => by
        have hne : y ≠ x := fun e => hr (e ▸ hy)
        exact (List.mem_erase_of_ne hne).2 (hall y hy)
      rw [List.length_erase_of_mem hx, rngI_len] at this
      have := List.length_pos_of_mem hx
      omega
  · rcases Decidable.em l.Nodup with hn | hn
    · exact hn
    · exfalso
      obtain ⟨x, hx⟩ : ∃ x, 2 ≤ l.count x := by
        rcases Decidable.em (∃ x ∈ l, 2 ≤ l.count x) with h | h
        · obtain ⟨x, _, h⟩ := h; exact ⟨x, h⟩
        · exfalso
          apply hn
          rw [List.nodup_iff_count]
          intro a
          rcases Decidable.em (a ∈ l) with ha | ha
          · rcases Nat.lt_or_ge (l.count a) 2 with h2 | h2
            · omega
            · exact absurd ⟨a, ha, h2⟩ h
          · rw [List.count_eq_zero.2 ha]; omega
      have hxl : x ∈ l := List.count_pos_iff.1 (by omega)
      have hxe : x ∈ l.erase x := List.count_pos_iff.1 (by rw [List.count_erase_self]; omega)
      have := sub_len (r := l.erase x) (rngI_nodup l.length) fun y hy => by
        by_cases hyx : y = x
        · subst hyx; exact hxe
        · exact (List.mem_erase_of_ne hyx).2 (hall y hy)
      rw [List.length_erase_of_mem hxl, rngI_len] at this
      have := List.length_pos_of_mem hxl
      omega
/-- Where each number stands. -/
def invL (l : List Int) : List Int := (List.range l.length).map fun (v : Nat) => (l.idxOf (v : Int) : Int)
def outK (l : List Int) (k : Nat) : List Int := (List.range l.length).map fun (v : Nat) => if (v : Int) ∈ l.take k then ((l.idxOf (v : Int) : Nat) : Int) else -1
theorem invL_len (l : List Int) : (invL l).length = l.length := by simp [invL]
theorem invL_at {l : List Int} {v : Nat} (h : v < l.length) : (invL l)[v]? = some (l.idxOf (v : Int) : Int) := by
  unfold invL
  rw [List.getElem?_map, List.getElem?_range h]; rfl
theorem outK_len (l : List Int) (k : Nat) : (outK l k).length = l.length := by simp [outK]
theorem outK_at {l : List Int} {k v : Nat} (h : v < l.length) : (outK l k)[v]? = some (if (v : Int) ∈ l.take k then ((l.idxOf (v : Int) : Nat) : Int) else -1) := by
  unfold outK
  rw [List.getElem?_map, List.getElem?_range h]; rfl
theorem outK_zero (l : List Int) : outK l 0 = List.replicate l.length (-1) := by
  apply List.ext_getElem?
  intro i
  by_cases h : i < l.length
  · rw [outK_at h]; simp [h]
  · rw [List.getElem?_eq_none (by rw [outK_len]; omega), List.getElem?_eq_none (by simp; omega)]
theorem outK_end {l : List Int} (h : isP l = true) : outK l l.length = invL l := by
  apply List.ext_getElem?
  intro i
  by_cases hi : i < l.length
  · rw [outK_at hi, invL_at hi, if_pos]
    rw [List.take_length]
    exact isP_all h (by omega) (by omega)
  · rw [List.getElem?_eq_none (by rw [outK_len]; omega), List.getElem?_eq_none (by rw [invL_len]; omega)]
theorem idxOf_le : ∀ {l : List Int} {k : Nat} (h : k < l.length), l.idxOf l[k] ≤ k
  | [], k, h => by simp at h
  | a :: l, 0, h => by simp
  | a :: l, k + 1, h => by
    have hk : k < l.length := by simpa using h
    have := idxOf_le hk
    simp only [List.getElem_cons_succ, List.idxOf_cons]
    cases a == l[k]'hk <;> simp <;> omega
theorem idx_new {l : List Int} {k v : Nat} (hk : l[k]? = some (v : Int)) (hno : (v : Int) ∉ l.take k) : l.idxOf (v : Int) = k := by
  obtain ⟨hkl, hkv⟩ := List.getElem?_eq_some_iff.1 hk
  have h1 : (v : Int) ∈ l := List.mem_of_getElem? hk
  have h2 := List.idxOf_lt_length_of_mem h1
  have h3 : l[l.idxOf (v : Int)]'h2 = (v : Int) := List.getElem_idxOf h2
  rcases Nat.lt_trichotomy (l.idxOf (v : Int)) k with h | h | h
  · exfalso
    apply hno
    rw [List.mem_take_iff_getElem]
    exact ⟨_, by omega, h3⟩
  · exact h
  · exfalso
    have : l.idxOf (v : Int) ≤ k := by
      rw [← hkv]
      exact idxOf_le hkl
    omega
theorem outK_step {l : List Int} {k v : Nat} (hk : l[k]? = some (v : Int)) (hv : v < l.length) (hno : (v : Int) ∉ l.take k) : outK l (k + 1) = (outK l k).set v (k : Int) := by
  have hi := idx_new hk hno
  apply List.ext_getElem?
  intro i
  by_cases h : i < l.length
  · rw [outK_at h, List.take_add_one, hk]
    by_cases e : i = v
    · subst e
      rw [List.getElem?_set_self (by rw [outK_len]; exact h), if_pos (by simp), hi]
    · rw [List.getElem?_set_ne (fun x => e x.symm), outK_at h]
      congr 1
      have : ((i : Int) ∈ l.take k ++ [(v : Int)]) ↔ (i : Int) ∈ l.take k := by
        simp only [List.mem_append, List.mem_singleton]
        constructor
        · rintro (h | h)
          · exact h
          · omega
        · exact .inl
      simp only [Option.toList_some, this]
  · rw [List.getElem?_eq_none (by rw [outK_len]; omega), List.getElem?_eq_none (by rw [List.length_set, outK_len]; omega)]
end Go.Proofs.Ytibejcomfjddfaa.VM
end
section
set_option maxHeartbeats 8000000
set_option linter.unusedVariables false
set_option linter.unusedSimpArgs false

/- suffix.Turned, and the document's. -/
namespace Go.Proofs.Ytibejcomfjddfaa.VM
open Go Go.Proofs AM
set_option maxRecDepth 100000
def turnV (l : List Int) : V := if isP l = true then .tup [IS true (invL l), i6 0] else .tup [IS true [], i6 3]
theorem not_isP_range {l : List Int} {x : Int} (hx : x ∈ l) (h : ¬ (0 ≤ x ∧ x < l.length)) : isP l = false := by
  rcases hb : isP l with _ | _
  · rfl
  · exact absurd ((isP_iff.1 hb).1 x hx) h
theorem not_isP_twice {l : List Int} {k : Nat} {x : Int} (hk : l[k]? = some x) (h : x ∈ l.take k) : isP l = false := by
  rcases hb : isP l with _ | _
  · rfl
  · exfalso
    have hn := (isP_iff.1 hb).2
    have hd : l = l.take k ++ l.drop k := (List.take_append_drop k l).symm
    rw [hd] at hn
    have := (List.nodup_append.1 hn).2.2
    refine this x h x ?_ rfl
    rw [List.mem_drop_iff_getElem]
    obtain ⟨h1, h2⟩ := List.getElem?_eq_some_iff.1 hk
    exact ⟨0, by omega, by simpa using h2⟩
theorem v_sTurned {kk : Bool} {l : List Int} (hl : l.length ≤ 1000000) : A 11 [IS kk l] (turnV l) := by
  intro H
  refine v_enter hC [] (fun _ _ => kn_none rfl) Try.func11 rfl ok11 (Nat.le_of_ble_eq_true rfl) fun hcl hbl => ?_
  simp
  refine ⟨by omega, ?_⟩
  refine v_loopX hC (fun (k : Nat) e T => T = H ++ [.vec 0 ((List.replicate k (-1 : Int) ++ List.replicate (l.length - k) 0).map ic) 1 true true] ∧ e 0 = IS kk l ∧ e 4 = .own H.length 0 ∧ e 11 = .own H.length 0 ∧ e 12 = i6 l.length ∧ e 13 = i6 k ∧ k ≤ l.length) (fun k => l.length - k) 0 (G.refl ?_) ?_
  · simp
  · rintro k e T ⟨rfl, h0, h4, h11, h12, h13, hk⟩
    simp [h12, h13]
    refine CondV.dec (fun hlt => ?_) (fun hge => ?_)
    · have hlt : k < l.length := by omega
      simp [h0, h4, h11, h12, h13, show k + (l.length - k) = l.length by omega, hlt, w64 (n := (k : Int) + 1) (by omega)]
      refine GH.refl ⟨k + 1, ⟨?_, by simp [h0], by simp [h4], by simp [h11], by simp [h12], by simp, hlt⟩, by omega⟩
      have e1 : List.replicate (l.length - k) [V.lit (Value.int IntKind.i64 0)] = [V.lit (Value.int IntKind.i64 0)] :: List.replicate (l.length - (k + 1)) [V.lit (Value.int IntKind.i64 0)] := by
        rw [show l.length - k = (l.length - (k + 1)) + 1 by omega, List.replicate_succ]
      have e2 : List.replicate (k + 1) [V.lit (Value.int IntKind.i64 (-1))] = List.replicate k [V.lit (Value.int IntKind.i64 (-1))] ++ [[V.lit (Value.int IntKind.i64 (-1))]] := List.replicate_succ'
      simp [e1, e2]
    · have hkl : k = l.length := by omega
      subst hkl
      simp [h0, h4]
      refine v_loopX hC (fun (k : Nat) e T => T = H ++ [.vec 0 ((outK l k).map ic) 1 true true] ∧ e 0 = IS kk l ∧ e 4 = .own H.length 0 ∧ e 20 = IS kk l ∧ e 21 = i6 l.length ∧ e 22 = i6 k ∧ k ≤ l.length ∧ (∀ x ∈ l.take k, 0 ≤ x ∧ x < l.length) ∧ (l.take k).Nodup) (fun k => l.length - k) 0 (G.refl ?_) ?_
      · simp [outK_zero, h0, h4]
      · rintro k e T ⟨rfl, h0, h4, h20, h21, h22, hk, hin, hnd⟩
        simp [h21, h22]
        refine CondV.dec (fun hlt => ?_) (fun hge => ?_)
        · have hlt : k < l.length := by omega
          obtain ⟨x, hx⟩ : ∃ x, l[k]? = some x := ⟨_, List.getElem?_eq_getElem hlt⟩
          have hxm := List.mem_of_getElem? hx
          have htk : l.take (k + 1) = l.take k ++ [x] := by rw [List.take_add_one, hx]; rfl
          by_cases hx0 : x < 0
          · simp [h0, h4, h20, h21, h22, hx, hx0, Try.results11]
            have := not_isP_range hxm (by omega)
            refine GV.ans hcl ?_
            simp [turnV, this]
          · by_cases hx1 : x < l.length
            · obtain ⟨v, rfl⟩ : ∃ v : Nat, x = v := ⟨x.toNat, by omega⟩
              have hv : v < l.length := by omega
              have ho := outK_at (k := k) hv
              have hvo : v < (outK l k).length := by rw [outK_len]; exact hv
              have hge : (outK l k)[v] = if (v : Int) ∈ l.take k then ((l.idxOf (v : Int) : Nat) : Int) else -1 := by
                rw [List.getElem?_eq_getElem hvo] at ho; exact Option.some.inj ho
              by_cases hm : (v : Int) ∈ l.take k
              · rw [if_pos hm] at hge
                simp [h0, h4, h20, h21, h22, hx, show ¬ (v : Int) < 0 by omega, show ¬ l.length ≤ v by omega, hvo, hge, Try.results11]
                have := not_isP_twice hx hm
                refine GV.ans hcl ?_
                simp [turnV, this]
              · rw [if_neg hm] at hge
                have hstep := outK_step hx hv hm
                simp [h0, h4, h20, h21, h22, hx, show ¬ (v : Int) < 0 by omega, show ¬ l.length ≤ v by omega, hvo, hge, w64 (n := (k : Int) + 1) (by omega)]
                refine GH.refl ⟨k + 1, ⟨?_, by simp [h0], by simp [h4], by simp [h20], by simp [h21], by simp, hlt, ?_, ?_⟩, by omega⟩
                · rw [hstep]; simp
                · intro y hy
                  rw [htk] at hy
                  rcases List.mem_append.1 hy with h | h
                  · exact hin y h
                  · simp at h; subst h; omega
                · rw [htk, List.nodup_append]
                  exact ⟨hnd, by simp, fun a ha b hb e => by simp at hb; subst e; subst hb; exact hm ha⟩
            · simp [h0, h4, h20, h21, h22, hx, hx0, show (l.length : Int) ≤ x by omega, Try.results11]
              have := not_isP_range hxm (by omega)
              refine GV.ans hcl ?_
              simp [turnV, this]
        · have hkl : k = l.length := by omega
          subst hkl
          rw [List.take_length] at hin hnd
          have hp : isP l = true := isP_iff.2 ⟨hin, hnd⟩
          simp [h4, outK_end hp, Try.results11]
          refine GV.ans hcl ?_
          simp [turnV, hp]
def lastK (l : List Int) (v : Int) : Nat → Int
  | 0 => -1
  | i + 1 => if l[i]? = some v then (i : Int) else lastK l v i
theorem lastK_spec (l : List Int) (v : Int) : ∀ i, (lastK l v i = -1 ∧ v ∉ l.take i) ∨ ∃ j : Nat, j < i ∧ lastK l v i = (j : Int) ∧ l[j]? = some v
  | 0 => .inl ⟨rfl, by simp⟩
  | i + 1 => by
    unfold lastK
    split
    · rename_i h; exact .inr ⟨i, by omega, rfl, h⟩
    · rename_i h
      rcases lastK_spec l v i with ⟨h1, h2⟩ | ⟨j, h1, h2, h3⟩
      · refine .inl ⟨h1, ?_⟩
        rw [List.take_add_one]
        intro hm
        rcases List.mem_append.1 hm with hm | hm
        · exact h2 hm
        · cases hx : l[i]? with
          | none => rw [hx] at hm; simp at hm
          | some y => rw [hx] at hm; simp at hm; subst hm; exact h hx
      · exact .inr ⟨j, by omega, h2, h3⟩
def lastL (l : List Int) (n : Nat) : List Int := (List.range n).map fun (v : Nat) => lastK l v l.length
theorem lastL_succ (l : List Int) (n : Nat) : lastL l (n + 1) = lastL l n ++ [lastK l n l.length] := by simp [lastL, List.range_succ]
theorem lastL_inv {l : List Int} (h : isP l = true) : lastL l l.length = invL l := by
  unfold lastL invL
  refine List.map_congr_left fun v hv => ?_
  have hv := List.mem_range.1 hv
  have hm := isP_all h (v := (v : Int)) (by omega) (by omega)
  rcases lastK_spec l v l.length with ⟨_, h2⟩ | ⟨j, h1, h2, h3⟩
  · rw [List.take_length] at h2; exact absurd hm h2
  · rw [h2, idx_new h3]
    intro hmm
    have := not_isP_twice h3 hmm
    rw [h] at this; cases this
def turnR (l : List Int) : V := if isP l = true then .tup [IS true (invL l), bo true] else .tup [IS true [], bo false]
theorem v_rTurned {kk : Bool} {l : List Int} (hl : l.length ≤ 1000000) : A 9 [IS kk l] (turnR l) := by
  intro H
  refine v_enter hC [] (fun _ _ => kn_none rfl) Try.func9 rfl ok9 (Nat.le_of_ble_eq_true rfl) fun hcl hbl => ?_
  simp
  refine v_loopX hC (fun (n : Nat) e T => (∃ w t, T = H ++ [.vec w ((lastL l n).map ic) 1 true t] ∧ e 4 = .own H.length w) ∧ e 0 = IS kk l ∧ e 5 = i6 n ∧ n ≤ l.length ∧ ∀ v : Nat, v < n → (v : Int) ∈ l) (fun n => l.length - n) 0 ?_ ?_
  · refine G.nilT0 (s := 1) 4 hcl (Nat.le_refl _) (by omega) (by simp) ?_
    exact ⟨⟨0, true, by simp [lastL], by simp⟩, by simp, by simp, by omega, fun v hv => by omega⟩
  · rintro n e T ⟨⟨w, t, rfl, h4⟩, h0, h5, hn, hall⟩
    simp [h0, h5]
    refine CondV.dec (fun hlt => ?_) (fun hge => ?_)
    · have hlt : n < l.length := by omega
      simp
      refine v_loopX hC (fun (i : Nat) e' T' => T' = H ++ [.vec w ((lastL l n).map ic) 1 true t] ∧ i ≤ l.length ∧ e' 0 = IS kk l ∧ e' 4 = .own H.length w ∧ e' 5 = i6 n ∧ e' 6 = i6 (lastK l n i) ∧ e' 7 = i6 i) (fun i => l.length - i) 0 (G.refl ?_) ?_
      · simp [h0, h4, h5, lastK]
      · rintro i e' T' ⟨rfl, hi, g0, g4, g5, g6, g7⟩
        simp [g0, g7]
        refine CondV.dec (fun hil => ?_) (fun hil => ?_)
        · have hil : i < l.length := by omega
          obtain ⟨x, hx⟩ : ∃ x, l[i]? = some x := ⟨_, List.getElem?_eq_getElem hil⟩
          simp [g0, g5, g7, hx]
          refine CondV.dec (fun hxn => ?_) (fun hxn => ?_)
          · have hk : lastK l n (i + 1) = (i : Int) := by show (if l[i]? = some (n : Int) then (i : Int) else lastK l n i) = _; rw [if_pos (by rw [hx, hxn])]
            simp [g0, g4, g5, g6, g7, w64 (n := (i : Int) + 1) (by omega)]
            refine GH.refl ⟨i + 1, ⟨by simp, by omega, by simp [g0], by simp [g4], by simp [g5], by simp [hk], by simp⟩, by omega⟩
          · have hk : lastK l n (i + 1) = lastK l n i := by show (if l[i]? = some (n : Int) then (i : Int) else lastK l n i) = _; rw [if_neg (by rw [hx]; simpa using hxn)]
            simp [g0, g4, g5, g6, g7, w64 (n := (i : Int) + 1) (by omega)]
            refine GH.refl ⟨i + 1, ⟨by simp, by omega, by simp [g0], by simp [g4], by simp [g5], by simp [hk, g6], by simp⟩, by omega⟩
        · have hil' : i = l.length := by omega
          subst hil'
          rcases lastK_spec l n l.length with ⟨h1, h2⟩ | ⟨j, h1, h2, h3⟩
          · rw [List.take_length] at h2
            have hnp : isP l = false := by
              rcases hb : isP l with _ | _
              · rfl
              · exact absurd (isP_all hb (by omega) (by omega)) h2
            simp [g6, h1, Try.results9]
            refine GV.ans hcl ?_
            simp [turnR, hnp]
          · have hmem : (n : Int) ∈ l := List.mem_of_getElem? h3
            have hll : (lastL l n).length = n := by simp [lastL]
            rw [h2] at g6
            simp [g0, g4, g5, g6, show ¬ (j : Int) < 0 by omega, w64 (n := (n : Int) + 1) (by omega)]
            refine ⟨by omega, GH.refl ⟨n + 1, ⟨⟨w + 1, t, ?_, ?_⟩, by simp [g0], by simp, by omega, fun v hv => ?_⟩, by omega⟩⟩
            · rw [lastL_succ, h2]; simp
            · simp
            · by_cases hvn : v = n
              · subst hvn; exact hmem
              · exact hall v (by omega)
    · have hnl : n = l.length := by omega
      subst hnl
      have hp := isP_of_all hall
      simp [h4, lastL_inv hp, Try.results9]
      refine GV.ans hcl ?_
      simp [turnR, hp]
end Go.Proofs.Ytibejcomfjddfaa.VM
end
section
set_option maxHeartbeats 8000000
set_option linter.unusedVariables false
set_option linter.unusedSimpArgs false

/- Samples of an order: plain. -/
namespace Go.Proofs.Ytibejcomfjddfaa.VM
open Go Go.Proofs AM
set_option maxRecDepth 100000
/-- Is the place that a row has a multiple? -/
def sel (o : List Int) (e : Nat) (i : Nat) : Bool := decide (o.getD i 0 % (e : Int) = 0)
def marksK (o : List Int) (e k : Nat) : List Int := ((List.range k).filter (sel o e)).map fun (i : Nat) => (i : Int)
def plcK (o : List Int) (e k : Nat) : List Int := ((List.range k).filter (sel o e)).map fun i => o.getD i 0 / (e : Int)
def rowK (o : List Int) (e j : Nat) : List Int := (List.range j).map fun i => (invL o).getD (e * i) 0
def markB (o : List Int) (e : Nat) : List Bool := (List.range o.length).map (sel o e)
def ceilD (k e : Nat) : Nat := (k + e - 1) / e
theorem ceil_yes {k e : Nat} (he : 0 < e) (h : k % e = 0) : ceilD (k + 1) e = ceilD k e + 1 ∧ e * ceilD k e = k := by
  obtain ⟨q, rfl⟩ : ∃ q, k = e * q := ⟨k / e, by have := Nat.div_add_mod k e; omega⟩
  unfold ceilD
  have e1 : (e * q + e - 1) / e = q := by
    rw [show e * q + e - 1 = (e - 1) + e * q by omega, Nat.add_mul_div_left _ _ he, Nat.div_eq_of_lt (by omega)]; omega
  have e2 : (e * q + 1 + e - 1) / e = q + 1 := by
    rw [show e * q + 1 + e - 1 = 0 + e * (q + 1) by rw [Nat.mul_add]; omega, Nat.add_mul_div_left _ _ he]; simp
  rw [e1, e2]
  exact ⟨rfl, rfl⟩
theorem ceil_no {k e : Nat} (he : 0 < e) (h : ¬ k % e = 0) : ceilD (k + 1) e = ceilD k e := by
  obtain ⟨q, r, hr0, hr, rfl⟩ : ∃ q r, 0 < r ∧ r < e ∧ k = e * q + r := ⟨k / e, k % e, by omega, Nat.mod_lt _ he, (Nat.div_add_mod k e).symm⟩
  unfold ceilD
  have e1 : (e * q + r + e - 1) / e = q + 1 := by
    rw [show e * q + r + e - 1 = (r - 1) + e * (q + 1) by rw [Nat.mul_add]; omega, Nat.add_mul_div_left _ _ he, Nat.div_eq_of_lt (by omega)]; omega
  have e2 : (e * q + r + 1 + e - 1) / e = q + 1 := by
    rw [show e * q + r + 1 + e - 1 = r + e * (q + 1) by rw [Nat.mul_add]; omega, Nat.add_mul_div_left _ _ he, Nat.div_eq_of_lt (by omega)]; omega
  rw [e1, e2]
theorem ceil_lt {n e j : Nat} (he : 0 < e) : e * j < n ↔ j < ceilD n e := by
  unfold ceilD
  rw [Nat.lt_div_iff_mul_lt he]
  rw [Nat.mul_comm]
  omega
theorem rowK_len (o : List Int) (e j : Nat) : (rowK o e j).length = j := by simp [rowK]
theorem rowK_succ (o : List Int) (e j : Nat) : rowK o e (j + 1) = rowK o e j ++ [(invL o).getD (e * j) 0] := by simp [rowK, List.range_succ]
theorem marksK_yes {o : List Int} {e k : Nat} (h : sel o e k = true) : marksK o e (k + 1) = marksK o e k ++ [(k : Int)] := by simp [marksK, List.range_succ, h]
theorem marksK_no {o : List Int} {e k : Nat} (h : sel o e k = false) : marksK o e (k + 1) = marksK o e k := by simp [marksK, List.range_succ, h]
theorem plcK_yes {o : List Int} {e k : Nat} (h : sel o e k = true) : plcK o e (k + 1) = plcK o e k ++ [o.getD k 0 / (e : Int)] := by simp [plcK, List.range_succ, h]
theorem plcK_no {o : List Int} {e k : Nat} (h : sel o e k = false) : plcK o e (k + 1) = plcK o e k := by simp [plcK, List.range_succ, h]
theorem marksK_len (o : List Int) (e k : Nat) : (marksK o e k).length ≤ k := by simp only [marksK, List.length_map]; exact Nat.le_trans (List.length_filter_le ..) (by simp)
theorem plcK_len (o : List Int) (e k : Nat) : (plcK o e k).length = (marksK o e k).length := by simp [plcK, marksK]
theorem markB_len (o : List Int) (e : Nat) : (markB o e).length = o.length := by simp [markB]
theorem markB_at (o : List Int) (e i : Nat) : (markB o e).getD i false = (decide (i < o.length) && sel o e i) := by
  unfold markB
  rw [List.getD_eq_getElem?_getD, List.getElem?_map]
  by_cases h : i < o.length
  · rw [List.getElem?_range h]; simp [h]
  · rw [List.getElem?_eq_none (by simp; omega)]; simp [h]
theorem onB_bit : ∀ (l : List Int) (m : List Bool) (j : Nat), (onB m l).getD j false = (m.getD j false || (decide (j < m.length) && l.any fun i => i.toNat == j))
  | [], m, j => by simp [onB]
  | i :: l, m, j => by
    show (onB (m.set i.toNat true) l).getD j false = _
    rw [onB_bit l, List.length_set]
    by_cases h : i.toNat = j
    · subst h
      by_cases hl : i.toNat < m.length
      · simp [List.getD_eq_getElem?_getD, hl]
      · simp [List.getD_eq_getElem?_getD, hl]
    · have : (i.toNat == j) = false := by simpa using h
      simp [List.getD_eq_getElem?_getD, List.getElem?_set_ne h, this]
theorem bits_ext {m m' : List Bool} (hl : m.length = m'.length) (h : ∀ j, j < m.length → m.getD j false = m'.getD j false) : m = m' := by
  apply List.ext_getElem?
  intro i
  by_cases hi : i < m.length
  · rw [getD_lt hi, getD_lt (by omega : i < m'.length), h i hi]
  · rw [List.getElem?_eq_none (by omega), List.getElem?_eq_none (by omega)]
theorem onB_marks (o : List Int) (e : Nat) : onB (List.replicate o.length false) (marksK o e o.length) = markB o e := by
  refine bits_ext (by rw [onB_len, markB_len]; simp) fun j hj => ?_
  rw [onB_len] at hj
  simp at hj
  rw [onB_bit, markB_at]
  have h1 : (List.replicate o.length false).getD j false = false := by rw [List.getD_eq_getElem?_getD, List.getElem?_replicate]; split <;> rfl
  rw [h1]
  simp only [List.length_replicate, hj, decide_true, Bool.true_and, Bool.false_or]
  unfold marksK
  rw [List.any_map]
  rcases hb : sel o e j with _ | _
  · rw [List.any_eq_false]
    intro i hi
    have := (List.mem_filter.1 hi).2
    simp only [Function.comp, Int.toNat_natCast]
    intro he
    have : i = j := by simpa using he
    subst this
    rw [hb] at this; simp_all
  · rw [List.any_eq_true]
    exact ⟨j, List.mem_filter.2 ⟨List.mem_range.2 hj, hb⟩, by simp⟩
theorem cnt_mark (o : List Int) (e : Nat) {i : Nat} (hi : i ≤ o.length) : cnt (markB o e) i = ((List.range i).filter (sel o e)).length := by
  unfold cnt
  congr 1
  refine List.filter_congr fun j hj => ?_
  have := List.mem_range.1 hj
  rw [markB_at]
  simp [show j < o.length by omega]
theorem filter_at {p : Nat → Bool} {n i : Nat} (hi : i < n) (hp : p i = true) : ((List.range n).filter p)[((List.range i).filter p).length]? = some i := by
  obtain ⟨d, rfl⟩ : ∃ d, n = i + (1 + d) := ⟨n - i - 1, by omega⟩
  rw [List.range_add, List.filter_append, List.getElem?_append_right (Nat.le_refl _), Nat.sub_self, List.range_add, List.map_append, List.filter_append]
  simp [List.range_succ, hp]
theorem plc_at {o : List Int} {e i : Nat} (hi : i < o.length) (hs : sel o e i = true) : (plcK o e o.length)[cnt (markB o e) i]? = some (o.getD i 0 / (e : Int)) := by
  rw [cnt_mark o e (by omega)]
  unfold plcK
  rw [List.getElem?_map, filter_at hi hs]; rfl
theorem row_at {o : List Int} {e p : Nat} (he : 0 < e) (hp : p < o.length) (hm : p % e = 0) : (rowK o e (ceilD o.length e))[p / e]? = some (o.idxOf (p : Int) : Int) := by
  have hpe : e * (p / e) = p := by have := Nat.div_add_mod p e; omega
  have hlt : p / e < ceilD o.length e := (ceil_lt he).1 (by rw [hpe]; exact hp)
  unfold rowK
  rw [List.getElem?_map, List.getElem?_range hlt]
  simp only [Option.map_some, hpe]
  rw [List.getD_eq_getElem?_getD, invL_at hp]; rfl
/-- A number in its place. -/
theorem getN_pack {w : Nat} : ∀ {l : List Int} {k : Nat} {x : Int}, l[k]? = some x → 0 ≤ x → x < (2 ^ w : Nat) → (getN (packL w l) (w * k) w : Int) = x
  | [], k, x, h, _, _ => by simp at h
  | y :: l, 0, x, h, h0, h1 => by
    simp at h; subst h
    have e : getN (packL w (y :: l)) (w * 0) w = y.toNat := by
      apply Nat.eq_of_testBit_eq
      intro i
      rw [getN_bit]
      simp only [packL, List.flatMap_cons, Nat.mul_zero, Nat.zero_add]
      by_cases hi : i < w
      · rw [List.getD_eq_getElem?_getD, List.getElem?_append_left (by rw [bitsN_len]; exact hi)]
        simp [bitsN, hi]
      · have : y.toNat.testBit i = false := bit_big (n := w) (by omega) (by omega)
        simp [hi, this]
    rw [e]; omega
  | y :: l, k + 1, x, h, h0, h1 => by
    have ih := getN_pack (w := w) (l := l) (k := k) (by simpa using h) h0 h1
    rw [← ih]
    congr 1
    unfold getN
    simp only [packL, List.flatMap_cons]
    rw [List.drop_append, List.drop_of_length_le (by rw [bitsN_len]; exact Nat.le_mul_of_pos_right _ (by omega)), List.nil_append, bitsN_len]
    congr 3
    rw [Nat.mul_add]; omega
end Go.Proofs.Ytibejcomfjddfaa.VM
end
section
set_option maxHeartbeats 8000000
set_option linter.unusedVariables false
set_option linter.unusedSimpArgs false

/- sample.New. -/
namespace Go.Proofs.Ytibejcomfjddfaa.VM
open Go Go.Proofs AM
set_option maxRecDepth 100000
/-- Two new objects are kept. -/
theorem GV.keep2 {H : Hp} {x : V} {R : V → Hp → Prop} {X : Hp} (g1 g2 : Nat) (y1 y2 : Ob) (v : V) (hcl : Cl H) (hne : g1 ≠ g2) (hg1 : ∃ z, (H ++ X)[g1]? = some z ∧ H.length ≤ g1 ∧ UpO H.length [g1, g2] [] (H ++ X) y1 z) (hg2 : ∃ z, (H ++ X)[g2]? = some z ∧ H.length ≤ g2 ∧ UpO H.length [g1, g2] [] (H ++ X) y2 z)
    (hup : Up H.length [g1, g2] [] (H ++ X) v x) (h : R v (H ++ [y1, y2])) : GV H.length R x (H ++ X) := fun K φ σ a hR hv => by
  obtain ⟨z1, hz1, hl1, hy1⟩ := hg1
  obtain ⟨z2, hz2, hl2, hy2⟩ := hg2
  have k1 := get_lt hz1
  have k2 := get_lt hz2
  obtain ⟨K', φ', h1, h2, h3⟩ := ghostA (L := [g1, g2]) (E := []) (H0 := H) (Z := []) (Z' := []) (X := X) (Y := [y1, y2]) hR hcl (by simp) (by
      intro g hg
      simp only [List.mem_cons, List.not_mem_nil, or_false] at hg
      simp only [List.length_nil, Nat.add_zero, List.nil_append]
      rcases hg with rfl | rfl
      · exact ⟨hl1, k1⟩
      · exact ⟨hl2, k2⟩) (by simp) (by simp [hne]) rfl rfl (fun j g' x' y' hj hx hy => by
    have hj2 := get_lt hj
    simp at hj2
    rcases (show j = 0 ∨ j = 1 by omega) with rfl | rfl
    · simp at hj hy
      subst hj; subst hy
      rw [hz1] at hx; cases hx
      exact hy1
    · simp at hj hy
      subst hj; subst hy
      rw [hz2] at hx; cases hx
      exact hy2)
  simp only [List.map_nil, List.append_nil, List.length_nil, Nat.add_zero, List.nil_append] at h1 h2 h3
  exact ⟨K', φ', v, H ++ [y1, y2], h1, h2, h3 hup hv, h⟩
/-- A call with slices that are frozen ahead. -/
theorem CALLv.atFU {H H0 : Hp} {f : FuncId} {args args' : List V} {R : V → Hp → Prop} {k : KVV} (hf : Frz H H0) (ha : Ups H0.length [] [] H0 args' args) (h : VC Try.prog prims f args' H0 R) (hk : ∀ v T, R v T → k.run v T) : @CALLv Try.prog prims false f args H k := ⟨H0, hf, VC.up ha (h.mono hk)⟩
/-- Three temporaries that are nil become empty rows of one's own. -/
theorem G.nil3 {H : Hp} {Q : Ev → Hp → Prop} {m : Nat} {e : Ev} (t1 t2 t3 : Tmp) (hcl : Cl H) (hm : m ≤ H.length) (h1 : e t1 = .lit (.slice none 0 0)) (h2 : e t2 = .lit (.slice none 0 0)) (h3 : e t3 = .lit (.slice none 0 0))
    (h : Q (vupd (vupd (vupd (VM.clip H.length e) (some t1) (.own H.length 0)) (some t2) (.own (H.length + 1) 0)) (some t3) (.own (H.length + 2) 0)) (H ++ [.vec 0 [] 1 true true, .vec 0 [] 1 true true, .vec 0 [] 1 true true])) : G m Q e H := by
  have := G.mk (Q := Q) (m := m) (e := e) (H0 := H) (Z := []) (Z' := []) (X := []) [1, 1, 1] (vupd (vupd (vupd (VM.clip H.length e) (some t1) (.own H.length 0)) (some t2) (.own (H.length + 1) 0)) (some t3) (.own (H.length + 2) 0)) hcl (by simpa using hm) (by simp) (by simp) (fun j => by
    show Up _ _ _ _ (if j = t3 then V.own (H.length + 2) 0 else if j = t2 then V.own (H.length + 1) 0 else if j = t1 then V.own H.length 0 else VM.clip _ e j) (e j)
    by_cases hj3 : j = t3
    · subst hj3; rw [if_pos rfl, h3]; simp
    · rw [if_neg hj3]
      by_cases hj2 : j = t2
      · subst hj2; rw [if_pos rfl, h2]; simp
      · rw [if_neg hj2]
        by_cases hj1 : j = t1
        · subst hj1; rw [if_pos rfl, h1]; simp
        · rw [if_neg hj1]; exact clip_up j) (by simpa using h)
  simpa using this
def nilP : V := .lit (.pointer none)
attribute [simp] nilP
def arrL (l : List Int) : V := arrV (fitW l) l.length true (packL (fitW l) l)
def samC (e gr : Nat) (o : List Int) : List V := [i6 e, .ptr gr 0, arrL (plcK o e o.length), arrL (rowK o e (ceilD o.length e))]
theorem v_New1 {kk : Bool} {o : List Int} {e : Int} (he : e < 1 ∨ 64 < e) : A 6 [i6 e, IS kk o] (.tup [nilP, i6 1]) := by
  intro H
  refine v_enter hC [] (fun _ _ => kn_none rfl) Try.func6 rfl ok6 (Nat.le_of_ble_eq_true rfl) fun hcl hbl => ?_
  by_cases h1 : e < 1
  · simp [h1, Try.results6]
    first | (refine GV.ans hcl ?_; simp []; done) | (refine GV.ans0 ?_; simp []; done)
  · simp [h1, show (64 : Int) < e by omega, Try.results6]
    first | (refine GV.ans hcl ?_; simp []; done) | (refine GV.ans0 ?_; simp []; done)
theorem v_New3 {kk : Bool} {o : List Int} {e : Int} (he : 1 ≤ e ∧ e ≤ 64) (hl : o.length ≤ 60000) (ho : isP o = false ∨ o = []) : A 6 [i6 e, IS kk o] (.tup [nilP, i6 3]) := by
  intro H
  refine v_enter hC [] (fun _ _ => kn_none rfl) Try.func6 rfl ok6 (Nat.le_of_ble_eq_true rfl) fun hcl hbl => ?_
  simp [show ¬ e < 1 by omega, show ¬ (64 : Int) < e by omega]
  refine (v_sTurned (kk := kk) (by omega)).call ?_
  rcases hb : isP o with _ | _
  · simp [turnV, hb, Try.results6]
    first | (refine GV.ans hcl ?_; simp []; done) | (refine GV.ans0 ?_; simp []; done)
  · have : o = [] := ho.resolve_left (by rw [hb]; simp)
    subst this
    simp [turnV, hb, Try.results6]
    first | (refine GV.ans hcl ?_; simp []; done) | (refine GV.ans0 ?_; simp []; done)
theorem sel_dec {o : List Int} {e k v : Nat} (hv : o[k]? = some (v : Int)) : sel o e k = decide (v % e = 0) := by
  unfold sel
  rw [List.getD_eq_getElem?_getD, hv]
  simp only [Option.getD_some, decide_eq_decide]
  omega
theorem v_New {kk : Bool} {o : List Int} {e : Nat} (he : 1 ≤ e ∧ e ≤ 64) (hl : o.length ≤ 60000) (hp : isP o = true) (h0 : o ≠ []) :
    ∀ H, VC Try.prog prims 6 [i6 e, IS kk o] H fun u T => u = .tup [.ptr (H.length + 1) 0, i6 0] ∧ T = H ++ [.mem (rowX (markB o e) false) true, .mem (samC e H.length o) true] := by
  intro H
  have hin := (isP_iff.1 hp).1
  have hil := invL_len o
  refine v_enter hC [] (fun _ _ => kn_none rfl) Try.func6 rfl ok6 (Nat.le_of_ble_eq_true rfl) fun hcl hbl => ?_
  simp [show ¬ (e : Int) < 1 by omega, show ¬ (64 : Int) < e by omega]
  refine (v_sTurned (kk := kk) (by omega)).call ?_
  have hlp : 0 < o.length := List.length_pos_iff.2 h0
  simp [turnV, hp, show ¬ o.length = 0 by omega, h0]
  refine v_loopX hC (fun (k : Nat) e' T => (∃ w1 w2, T = H ++ [.vec w1 ((marksK o e k).map ic) 1 true true, .vec w2 ((plcK o e k).map ic) 1 true true, .vec 0 [] 1 true true] ∧ e' 8 = .own H.length w1 ∧ e' 9 = .own (H.length + 1) w2) ∧ e' 0 = i6 e ∧ e' 1 = IS kk o ∧ e' 6 = IS true (invL o) ∧ e' 10 = .own (H.length + 2) 0 ∧ e' 37 = IS kk o ∧ e' 38 = i6 o.length ∧ e' 39 = i6 k ∧ k ≤ o.length) (fun k => o.length - k) 0 ?_ ?_
  · refine G.nil3 8 9 10 hcl (by omega) (by simp) (by simp) (by simp) ?_
    exact ⟨⟨0, 0, by simp [marksK, plcK], by simp, by simp⟩, by simp, by simp, by simp, by simp, by simp, by simp, by simp, by omega⟩
  · rintro k e' T ⟨⟨w1, w2, rfl, h8, h9⟩, h0', h1', h6, h10, h37, h38, h39, hk⟩
    simp [h38, h39]
    have hm1 := marksK_len o e k
    have hm2 := plcK_len o e k
    refine CondV.dec (fun hlt => ?_) (fun hge => ?_)
    · have hlt : k < o.length := by omega
      obtain ⟨x, hx⟩ : ∃ x, o[k]? = some x := ⟨_, List.getElem?_eq_getElem hlt⟩
      obtain ⟨q1, q2⟩ := hin x (List.mem_of_getElem? hx)
      obtain ⟨v, rfl⟩ : ∃ v : Nat, x = v := ⟨x.toNat, by omega⟩
      have hsel := sel_dec (e := e) hx
      have hgd : o.getD k 0 = (v : Int) := by rw [List.getD_eq_getElem?_getD, hx]; rfl
      have u1 : ((v : Int)).tmod e = ((v % e : Nat) : Int) := by rw [Int.tmod_eq_emod_of_nonneg (by omega)]; exact (Int.natCast_emod v e).symm
      have u2 : ((v : Int)).tdiv e = ((v / e : Nat) : Int) := by rw [Int.tdiv_eq_ediv_of_nonneg (by omega)]; exact (Int.natCast_ediv v e).symm
      have hdl : v / e ≤ v := Nat.div_le_self _ _
      have u4 : (v : Int) / (e : Int) = ((v / e : Nat) : Int) := (Int.natCast_ediv v e).symm
      obtain ⟨z, hz⟩ : ∃ z, v % e = z := ⟨_, rfl⟩
      obtain ⟨y, hy⟩ : ∃ y, v / e = y := ⟨_, rfl⟩
      rw [hz] at u1 hsel
      rw [hy] at u2 u4 hdl
      have u3 : IntKind.i64.wrap (y : Int) = (y : Int) := w64 (by omega)
      simp [h0', h1', h37, h38, h39, hx, u1, show ¬ e = 0 by omega]
      refine CondV.dec (fun hs => ?_) (fun hs => ?_)
      · have hsy : sel o e k = true := by rw [hsel, hs]; simp
        simp [h0', h1', h8, h9, h37, h38, h39, hx]
        refine v_draw (ord := [0, 1, 2, 3, 4, 5, 6, 7, 8, 9, 10, 11]) (m := 9) (by decide +kernel) (by decide +kernel) ?_
        simp [h0', h1', h8, h9, h37, h38, h39, hx, u2, u3, u4, show ¬ e = 0 by omega]
        rw [w64 (n := (k : Int) + 1) (by omega)]
        refine ⟨by omega, by omega, GH.refl ⟨k + 1, ⟨⟨w1 + 1, w2 + 1, ?_, by simp, by simp⟩, by simp [h0'], by simp [h1'], by simp [h6], by simp [h10], by simp [h37], by simp [h38], by simp, hlt⟩, by omega⟩⟩
        rw [marksK_yes hsy, plcK_yes hsy, hgd, u4]
        simp
      · have hsn : sel o e k = false := by rw [hsel]; simp [hs]
        simp [h39, w64 (n := (k : Int) + 1) (by omega)]
        refine GH.refl ⟨k + 1, ⟨⟨w1, w2, ?_, by simp [h8], by simp [h9]⟩, by simp [h0'], by simp [h1'], by simp [h6], by simp [h10], by simp [h37], by simp [h38], by simp, hlt⟩, by omega⟩
        rw [marksK_no hsn, plcK_no hsn]
    · have hkn : k = o.length := by omega
      subst hkn
      clear hge hk
      simp [h1']
      refine v_loopX hC (fun (j : Nat) e' T => (∃ w3, T = H ++ [.vec w1 ((marksK o e o.length).map ic) 1 true true, .vec w2 ((plcK o e o.length).map ic) 1 true true, .vec w3 ((rowK o e j).map ic) 1 true true] ∧ e' 10 = .own (H.length + 2) w3) ∧ e' 0 = i6 e ∧ e' 1 = IS kk o ∧ e' 6 = IS true (invL o) ∧ e' 8 = .own H.length w1 ∧ e' 9 = .own (H.length + 1) w2 ∧ e' 13 = i6 ((e * j : Nat) : Int) ∧ j ≤ ceilD o.length e) (fun j => ceilD o.length e - j) 0 (G.refl ?_) ?_
      · exact ⟨⟨0, by simp [rowK], by simp [h10]⟩, by simp [h0'], by simp [h1'], by simp [h6], by simp [h8], by simp [h9], by simp, by omega⟩
      · rintro j e' T ⟨⟨w3, rfl, h10⟩, h0', h1', h6, h8, h9, h13, hj⟩
        obtain ⟨p, hpj⟩ : ∃ p, e * j = p := ⟨_, rfl⟩
        have hcl2 := ceil_lt (n := o.length) (e := e) (j := j) (by omega)
        rw [hpj] at h13 hcl2
        simp [h1', h13]
        refine CondV.dec (fun hlt => ?_) (fun hge => ?_)
        · have hlt : p < o.length := by omega
          have hjc := hcl2.1 hlt
          have hij := invL_at hlt
          have hr : (invL o).getD (e * j) 0 = (o.idxOf (p : Int) : Int) := by rw [hpj, List.getD_eq_getElem?_getD, hij]; rfl
          have hjp : j ≤ p := by rw [← hpj]; exact Nat.le_mul_of_pos_left _ (by omega)
          have hpe : IntKind.i64.wrap ((p : Int) + e) = ((e * (j + 1) : Nat) : Int) := by rw [Nat.mul_add, hpj, w64 (by omega)]; omega
          have hrl := rowK_len o e j
          simp [h0', h1', h6, h10, h13, hij, hpe]
          refine ⟨by omega, GH.refl ⟨j + 1, ⟨⟨w3 + 1, ?_, by simp⟩, by simp [h0'], by simp [h1'], by simp [h6], by simp [h8], by simp [h9], by simp, by omega⟩, by omega⟩⟩
          rw [rowK_succ, hr]
          simp
        · have hjc : j = ceilD o.length e := by
            rcases Nat.lt_or_ge j (ceilD o.length e) with h | h
            · have := hcl2.2 h; omega
            · omega
          subst hjc
          have hm1 := marksK_len o e o.length
          have hm2 := plcK_len o e o.length
          have hmin : ∀ i ∈ marksK o e o.length, 0 ≤ i ∧ i < o.length := fun i hi => by
            obtain ⟨q, hq, rfl⟩ := List.mem_map.1 hi
            have := List.mem_range.1 (List.mem_filter.1 hq).1
            omega
          simp [h1', h8]
          refine CALLv.atFU (args' := [i6 o.length, IS true (marksK o e o.length)]) (Frz.vec (g := H.length) (w := w1) (s := 1) (rows := (marksK o e o.length).map ic) (rw := true) (t := true) (by simp) (by simp)) (by simp) (v_rOf (n := o.length) (kk := true) (l := marksK o e o.length) (by omega) (by omega) hmin _) fun u T hu => ?_
          obtain ⟨rfl, rfl⟩ := hu
          rw [onB_marks]
          have hplen : 0 < (plcK o e o.length).length := by
            have := plc_at (o := o) (e := e) (i := o.idxOf 0) (List.idxOf_lt_length_of_mem (isP_all hp (by omega) (by omega))) (by
              have h1 := List.idxOf_lt_length_of_mem (isP_all hp (v := 0) (by omega) (by omega))
              have h2 : o[o.idxOf (0 : Int)]'h1 = 0 := List.getElem_idxOf h1
              unfold sel
              rw [List.getD_eq_getElem?_getD, List.getElem?_eq_getElem h1, h2]; simp)
            have := get_lt this
            omega
          have hpin : ∀ x ∈ plcK o e o.length, 0 ≤ x ∧ x < 2147483648 := fun x hx => by
            obtain ⟨q, hq, rfl⟩ := List.mem_map.1 hx
            have hq := List.mem_range.1 (List.mem_filter.1 hq).1
            have hm := hin _ (List.mem_of_getElem? (List.getElem?_eq_getElem hq))
            rw [List.getD_eq_getElem?_getD, List.getElem?_eq_getElem hq]
            simp only [Option.getD_some]
            obtain ⟨n, hn⟩ : ∃ n : Nat, o[q] = n := ⟨o[q].toNat, by omega⟩
            rw [hn, ← Int.natCast_ediv]
            have hd := Nat.div_le_self n e
            obtain ⟨d, hdd⟩ : ∃ d, n / e = d := ⟨_, rfl⟩
            rw [hdd] at hd ⊢
            omega
          have hrlen : 0 < (rowK o e (ceilD o.length e)).length := by rw [rowK_len]; exact (ceil_lt (by omega)).1 (by omega)
          have hrlen2 : (rowK o e (ceilD o.length e)).length ≤ 65536 := by
            rw [rowK_len]
            have : ¬ o.length < ceilD o.length e := fun h => by
              have := (ceil_lt (n := o.length) (e := e) (by omega)).2 h
              have := Nat.le_mul_of_pos_left o.length (show 0 < e by omega)
              omega
            omega
          have hrin : ∀ x ∈ rowK o e (ceilD o.length e), 0 ≤ x ∧ x < 2147483648 := fun x hx => by
            obtain ⟨q, hq, rfl⟩ := List.mem_map.1 hx
            have hq := (ceil_lt (by omega)).2 (List.mem_range.1 hq)
            rw [List.getD_eq_getElem?_getD, invL_at hq]
            have := List.idxOf_lt_length_of_mem (isP_all hp (v := ((e * q : Nat) : Int)) (by omega) (by omega))
            simp only [Option.getD_some]
            omega
          simp [h9]
          refine (v_pFit (kk := true) hplen (by omega) hpin).callF [IS true (plcK o e o.length)] (Frz.vec (g := H.length + 1) (w := w2) (s := 1) (rows := (plcK o e o.length).map ic) (rw := true) (t := true) (by simp) (by simp)) (by simp) ?_
          simp [h10]
          refine (v_pFit (kk := true) hrlen hrlen2 hrin).callF [IS true (rowK o e (ceilD o.length e))] (Frz.vec (g := H.length + 2) (w := w3) (s := 1) (rows := (rowK o e (ceilD o.length e)).map ic) (rw := true) (t := true) (by simp) (by simp)) (by simp) ?_
          simp [h0', arrV, V.isCell, cellB, Try.results6]
          refine GV.keep2 (H.length + 3) (H.length + 4) (.mem (rowX (markB o e) false) true) (.mem (samC e H.length o) true) (.tup [.ptr (H.length + 1) 0, i6 0]) hcl (by omega) ⟨_, by simp; rfl, by omega, ?_⟩ ⟨_, by simp; rfl, by omega, ?_⟩ (by simp) ⟨rfl, rfl⟩
          · simp [UpO, rowX]
          · simp [UpO, samC, arrL, arrV]
end Go.Proofs.Ytibejcomfjddfaa.VM
end
section
set_option maxHeartbeats 8000000
set_option linter.unusedVariables false
set_option linter.unusedSimpArgs false

/- sample: Every, Len, Marked, Row, Bytes. -/
namespace Go.Proofs.Ytibejcomfjddfaa.VM
open Go Go.Proofs AM
set_option maxRecDepth 100000
/-- An order, and how many. -/
structure OrdOk (o : List Int) (e : Nat) : Prop where
  e1 : 1 ≤ e
  e2 : e ≤ 64
  len : o.length ≤ 60000
  perm : isP o = true
  ne : o ≠ []
/-- Samples stand there; r: the marks' directory is made. -/
def SamV (H : Hp) (gs gr : Nat) (o : List Int) (e : Nat) (r rw : Bool) : Prop := (∃ rs, H[gs]? = some (.mem (samC e gr o) rs)) ∧ RowV H gr (markB o e) r rw
theorem SamV.lock {H : Hp} {gs gr : Nat} {o : List Int} {e : Nat} {r rw : Bool} (h : SamV H gs gr o e r rw) : SamV (lockV H) gs gr o e r false := by
  obtain ⟨⟨rs, h1⟩, h2⟩ := h
  exact ⟨⟨false, by simp [lockV, h1, Ob.lock]⟩, h2.lock⟩
def samR (H : Hp) (gs gr : Nat) (o : List Int) (e : Nat) : Prop := ∃ r rw, SamV H gs gr o e r rw
theorem samR.lock {H : Hp} {gs gr : Nat} {o : List Int} {e : Nat} (h : samR H gs gr o e) : samR (lockV H) gs gr o e := by
  obtain ⟨r, rw, h⟩ := h
  exact ⟨r, false, h.lock⟩
theorem SamV.row {H : Hp} {gs gr : Nat} {o : List Int} {e : Nat} {r rw : Bool} (h : SamV H gs gr o e r rw) : rowR H gr (markB o e) := ⟨r, rw, h.2⟩
theorem v_Every {gs gr : Nat} {o : List Int} {e : Nat} : ∀ H, samR H gs gr o e → VC Try.prog prims 20 [.ptr gs 0] H fun u T => u = i6 e ∧ T = H := by
  rintro H ⟨r, rw, ⟨rs, h⟩, _⟩
  simp [samC] at h
  refine v_enter hC [] (fun _ _ => kn_none rfl) Try.func20 rfl ok20 (Nat.le_of_ble_eq_true rfl) fun hcl hbl => ?_
  simp [h, Try.results20]
  first | (refine GV.ans hcl ?_; simp []; done) | (refine GV.ans0 ?_; simp []; done)
theorem v_sLen {gs gr : Nat} {o : List Int} {e : Nat} : ∀ H, samR H gs gr o e → VC Try.prog prims 19 [.ptr gs 0] H fun u T => u = i6 o.length ∧ T = H := by
  rintro H ⟨r, rw, ⟨rs, h⟩, h2⟩
  simp [samC] at h
  refine v_enter hC [] (fun _ _ => kn_none rfl) Try.func19 rfl ok19 (Nat.le_of_ble_eq_true rfl) fun hcl hbl => ?_
  simp [h]
  refine CALLv.at (v_rLen H ⟨r, rw, h2⟩) fun u T hu => ?_
  obtain ⟨e1, e2⟩ := hu
  rw [e1, e2, markB_len]
  simp [Try.results19]
  first | (refine GV.ans hcl ?_; simp []; done) | (refine GV.ans0 ?_; simp []; done)
/-- What a row's mark tells. -/
def mkd (o : List Int) (e : Nat) (i : Int) : Bool := decide (0 ≤ i ∧ i < o.length) && sel o e i.toNat
def markV (o : List Int) (e : Nat) (i : Int) : V := if mkd o e i = true then .tup [i6 (o.getD i.toNat 0), bo true] else .tup [i6 0, bo false]
def rdy (H : Hp) (gr : Nat) (o : List Int) (e : Nat) (rw : Bool) (b : Bool) : Hp := if b then H.set gr (.mem (rowX (markB o e) true) rw) else H
theorem v_Marked {H : Hp} {gs gr : Nat} {o : List Int} {e : Nat} {i : Int} {r rw : Bool} (ho : OrdOk o e) (hS : SamV H gs gr o e r rw) (hr : r = false → rw = true) :
    VC Try.prog prims 14 [.ptr gs 0, i6 i] H fun u T => u = markV o e i ∧ T = rdy H gr o e rw (mkd o e i) := by
  obtain ⟨⟨rs, hs⟩, hrow⟩ := hS
  have h := hs
  simp [samC] at h
  have hne : ¬ gr = gs := fun q => by
    subst q
    have h3 := hrow.1
    rw [hs] at h3
    cases r <;> simp [samC, rowX] at h3
  have hgl := get_lt hrow.1
  refine v_enter hC [] (fun _ _ => kn_none rfl) Try.func14 rfl ok14 (Nat.le_of_ble_eq_true rfl) fun hcl hbl => ?_
  simp [h]
  refine CALLv.at (v_rAt (i := i) H ⟨r, rw, hrow⟩) fun u T hu => ?_
  obtain ⟨e1, e2⟩ := hu
  rw [e1, e2]
  clear e1 e2 u T
  rcases hb : mkd o e i with _ | _
  · -- it isn't marked
    have hat : atV (markB o e) i = .tup [bo false, i6 0] ∨ atV (markB o e) i = .tup [bo false, i6 10] := by
      unfold atV
      rw [markB_len]
      by_cases hi : 0 ≤ i ∧ i < o.length
      · rw [if_pos hi]
        left
        have : (markB o e).getD i.toNat false = false := by
          rw [markB_at]
          unfold mkd at hb
          simp [hi] at hb
          simp [hb]
        rw [this]
      · rw [if_neg hi]; exact .inr rfl
    rcases hat with hat | hat
    · simp [hat, Try.results14]
      first | (refine GV.ans hcl ?_; simp [markV, hb, rdy]; done) | (refine GV.ans0 ?_; simp [markV, hb, rdy]; done)
    · simp [hat, Try.results14]
      first | (refine GV.ans hcl ?_; simp [markV, hb, rdy]; done) | (refine GV.ans0 ?_; simp [markV, hb, rdy]; done)
  · have hb2 := hb
    unfold mkd at hb2
    simp only [Bool.and_eq_true, decide_eq_true_eq] at hb2
    obtain ⟨⟨h0, h1⟩, hsel⟩ := hb2
    obtain ⟨k, rfl⟩ : ∃ k : Nat, i = k := ⟨i.toNat, by omega⟩
    have hk : k < o.length := by omega
    simp only [Int.toNat_natCast] at hsel
    have hat : atV (markB o e) (k : Int) = .tup [bo true, i6 0] := by
      unfold atV
      rw [markB_len, if_pos ⟨h0, h1⟩, Int.toNat_natCast, markB_at]
      simp [hk, hsel]
    have hpl := plc_at hk hsel
    obtain ⟨c, hc⟩ : ∃ c, cnt (markB o e) k = c := ⟨_, rfl⟩
    rw [hc] at hpl
    have hcl := get_lt hpl
    -- the place
    obtain ⟨v, hv⟩ : ∃ v : Nat, o.getD k 0 = v := by
      have := (isP_iff.1 ho.perm).1 o[k] (List.getElem_mem hk)
      rw [List.getD_eq_getElem?_getD, List.getElem?_eq_getElem hk]
      exact ⟨o[k].toNat, by simp only [Option.getD_some]; omega⟩
    have hvl : v < 60000 := by
      have := (isP_iff.1 ho.perm).1 o[k] (List.getElem_mem hk)
      rw [List.getD_eq_getElem?_getD, List.getElem?_eq_getElem hk] at hv
      simp only [Option.getD_some] at hv
      have := ho.len
      omega
    have hmul : ((v / e : Nat) : Int) * (e : Int) = (v : Int) := by
      unfold sel at hsel
      rw [hv] at hsel
      have hm : (v : Int) % (e : Int) = 0 := by simpa using hsel
      have hm2 : v % e = 0 := by rw [← Int.natCast_emod] at hm; omega
      rw [← Int.natCast_mul, Nat.div_mul_cancel (Nat.dvd_of_mod_eq_zero hm2)]
    rw [hv, ← Int.natCast_ediv] at hpl
    obtain ⟨y, hy⟩ : ∃ y, v / e = y := ⟨_, rfl⟩
    have hyv : y ≤ v := by rw [← hy]; exact Nat.div_le_self _ _
    rw [hy] at hpl hmul
    have hpn : (plcK o e o.length).length ≤ 65536 := by have := plcK_len o e o.length; have := marksK_len o e o.length; have := ho.len; omega
    have hpin : ∀ x ∈ plcK o e o.length, 0 ≤ x ∧ x < 2147483648 := fun x hx => by
      obtain ⟨q, hq, rfl⟩ := List.mem_map.1 hx
      have hq := List.mem_range.1 (List.mem_filter.1 hq).1
      have hm := (isP_iff.1 ho.perm).1 _ (List.mem_of_getElem? (List.getElem?_eq_getElem hq))
      rw [List.getD_eq_getElem?_getD, List.getElem?_eq_getElem hq]
      simp only [Option.getD_some]
      obtain ⟨n, hn⟩ : ∃ n : Nat, o[q] = n := ⟨o[q].toNat, by omega⟩
      rw [hn, ← Int.natCast_ediv]
      have hd := Nat.div_le_self n e
      obtain ⟨d, hdd⟩ : ∃ d, n / e = d := ⟨_, rfl⟩
      rw [hdd] at hd ⊢
      have := ho.len
      omega
    have hfp := fitW_pos (plcK o e o.length)
    have hfl := fitW_le hpin
    have hfit := fitW_fits (fun x hx => (hpin x hx).1) _ (List.mem_of_getElem? hpl)
    have hgn := getN_pack hpl hfit.1 hfit.2
    have hpA := v_pAt (w := fitW (plcK o e o.length)) (n := (plcK o e o.length).length) (i := (c : Int)) (m := packL (fitW (plcK o e o.length)) (plcK o e o.length)) (kk := true) hfp hfl (packL_len ..) hpn
    have hpV : pAtV (fitW (plcK o e o.length)) (plcK o e o.length).length (packL (fitW (plcK o e o.length)) (plcK o e o.length)) (c : Int) = .tup [i6 y, i6 0] := by
      unfold pAtV
      rw [if_pos ⟨by omega, by omega⟩, Int.toNat_natCast, hgn]
    rw [hpV] at hpA
    have hw : IntKind.i64.wrap ((y : Int) * (e : Int)) = (v : Int) := by rw [hmul]; exact w64 (by omega)
    simp [hat, h]
    refine CALLv.at (v_rRank (one := true) (i := k) hrow.1 hr hrow.2 (by rw [markB_len]; omega)) fun u T hu => ?_
    obtain ⟨e1, e2⟩ := hu
    rw [e1, e2]
    clear e1 e2 u T
    obtain ⟨H2, hH2⟩ : ∃ H2, H2 = H.set gr (Ob.mem (rowX (markB o e) true) rw) := ⟨_, rfl⟩
    rw [← hH2]
    have hl2 : H2.length = H.length := by rw [hH2]; simp
    have hs2 : H2[gs]? = some (.mem (samC e gr o) rs) := by rw [hH2, List.getElem?_set_ne hne]; exact hs
    simp [samC] at hs2
    simp [hs2, hc]
    refine hpA.call ?_
    simp [hs2, hw, Try.results14]
    refine GV.refl ⟨?_, ?_⟩
    · unfold markV
      rw [if_pos hb, Int.toNat_natCast, hv]
      rfl
    · simp [rdy, hH2]
/-- What a place's row tells. -/
def rowV (o : List Int) (e : Nat) (p : Int) : V := if (0 ≤ p ∧ p < o.length) ∧ p % (e : Int) = 0 then .tup [i6 (o.idxOf p : Nat), i6 0] else .tup [i6 0, i6 7]
theorem v_sRow {gs gr : Nat} {o : List Int} {e : Nat} {p : Int} (ho : OrdOk o e) : ∀ H, samR H gs gr o e → VC Try.prog prims 15 [.ptr gs 0, i6 p] H fun u T => u = rowV o e p ∧ T = H := by
  rintro H hS
  have hS2 := hS
  obtain ⟨r, rw, ⟨rs, h⟩, h2⟩ := hS
  simp [samC] at h
  have he1 := ho.e1
  have hol := ho.len
  refine v_enter hC [] (fun _ _ => kn_none rfl) Try.func15 rfl ok15 (Nat.le_of_ble_eq_true rfl) fun hcl hbl => ?_
  by_cases h0 : p < 0
  · simp [h, h0, Try.results15]
    refine GV.ans0 ?_
    unfold rowV
    rw [if_neg (by omega)]; rfl
  · obtain ⟨k, rfl⟩ : ∃ k : Nat, p = k := ⟨p.toNat, by omega⟩
    simp [h, h0]
    refine CALLv.at (v_sLen H hS2) fun u T hu => ?_
    obtain ⟨e1, e2⟩ := hu
    rw [e1, e2]
    clear e1 e2 u T
    by_cases hk : k < o.length
    · have u1 : ((k : Int)).tmod e = ((k % e : Nat) : Int) := by rw [Int.tmod_eq_emod_of_nonneg (by omega)]; exact (Int.natCast_emod k e).symm
      have u2 : ((k : Int)).tdiv e = ((k / e : Nat) : Int) := by rw [Int.tdiv_eq_ediv_of_nonneg (by omega)]; exact (Int.natCast_ediv k e).symm
      have u4 : (k : Int) / (e : Int) = ((k / e : Nat) : Int) := (Int.natCast_ediv k e).symm
      have u5 : (k : Int) % (e : Int) = ((k % e : Nat) : Int) := (Int.natCast_emod k e).symm
      have hdl := Nat.div_le_self k e
      by_cases hz : k % e = 0
      · have hrow := row_at (o := o) (by omega : 0 < e) hk hz
        obtain ⟨j, hj⟩ : ∃ j, k / e = j := ⟨_, rfl⟩
        rw [hj] at u2 u4 hrow hdl
        rw [hz] at u1 u5
        have u3 : IntKind.i64.wrap (j : Int) = (j : Int) := w64 (by omega)
        have hjl := get_lt hrow
        have hil := List.idxOf_lt_length_of_mem (isP_all ho.perm (v := (k : Int)) (by omega) (by omega))
        have hrlen2 : (rowK o e (ceilD o.length e)).length ≤ 65536 := by
          rw [rowK_len]
          have : ¬ o.length < ceilD o.length e := fun h => by
            have := (ceil_lt (n := o.length) (e := e) (by omega)).2 h
            have := Nat.le_mul_of_pos_left o.length (show 0 < e by omega)
            omega
          omega
        have hrin : ∀ x ∈ rowK o e (ceilD o.length e), 0 ≤ x ∧ x < 2147483648 := fun x hx => by
          obtain ⟨q, hq, rfl⟩ := List.mem_map.1 hx
          have hq := (ceil_lt (by omega)).2 (List.mem_range.1 hq)
          rw [List.getD_eq_getElem?_getD, invL_at hq]
          have := List.idxOf_lt_length_of_mem (isP_all ho.perm (v := ((e * q : Nat) : Int)) (by omega) (by omega))
          simp only [Option.getD_some]
          omega
        have hfp := fitW_pos (rowK o e (ceilD o.length e))
        have hfl := fitW_le hrin
        have hfit := fitW_fits (fun x hx => (hrin x hx).1) _ (List.mem_of_getElem? hrow)
        have hgn := getN_pack hrow hfit.1 hfit.2
        have hpA := v_pAt (w := fitW (rowK o e (ceilD o.length e))) (n := (rowK o e (ceilD o.length e)).length) (i := (j : Int)) (m := packL (fitW (rowK o e (ceilD o.length e))) (rowK o e (ceilD o.length e))) (kk := true) hfp hfl (packL_len ..) hrlen2
        have hpV : pAtV (fitW (rowK o e (ceilD o.length e))) (rowK o e (ceilD o.length e)).length (packL (fitW (rowK o e (ceilD o.length e))) (rowK o e (ceilD o.length e))) (j : Int) = .tup [i6 (o.idxOf (k : Int) : Nat), i6 0] := by
          unfold pAtV
          rw [if_pos ⟨by omega, by omega⟩, Int.toNat_natCast, hgn]
        rw [hpV] at hpA
        simp [h, show ¬ o.length ≤ k by omega, u1, u5, show ¬ e = 0 by omega]
        refine v_draw (ord := [0, 1, 2, 3, 4, 5, 6, 7, 8, 9, 10, 11, 12, 13, 14]) (m := 9) (by decide +kernel) (by decide +kernel) ?_
        simp [h, u2, u3, u4, show ¬ e = 0 by omega]
        refine hpA.call ?_
        simp [Try.results15]
        refine GV.ans0 ?_
        unfold rowV
        rw [if_pos ⟨⟨by omega, by omega⟩, by rw [u5]; rfl⟩]; rfl
      · obtain ⟨z, hzz⟩ : ∃ z, k % e = z := ⟨_, rfl⟩
        rw [hzz] at u1 u5 hz
        simp [h, show ¬ o.length ≤ k by omega, u1, u5, hz, show ¬ e = 0 by omega, Try.results15]
        refine GV.ans0 ?_
        unfold rowV
        rw [if_neg (by rw [u5]; omega)]; rfl
    · simp [show o.length ≤ k by omega, Try.results15]
      refine GV.ans0 ?_
      unfold rowV
      rw [if_neg (by omega)]; rfl
/-- Samples as bytes. -/
def packBy (l : List Int) : List Int := (fitW l : Int) :: (venc l.length ++ bytesB (packL (fitW l) l))
def samB (o : List Int) (e : Nat) : List Int := venc e ++ ((venc o.length ++ bytesB (markB o e)) ++ (packBy (plcK o e o.length) ++ packBy (rowK o e (ceilD o.length e))))
theorem plc_ok {o : List Int} {e : Nat} (ho : OrdOk o e) : (plcK o e o.length).length ≤ 65536 ∧ ∀ x ∈ plcK o e o.length, 0 ≤ x ∧ x < 2147483648 := by
  refine ⟨by have := plcK_len o e o.length; have := marksK_len o e o.length; have := ho.len; omega, fun x hx => ?_⟩
  obtain ⟨q, hq, rfl⟩ := List.mem_map.1 hx
  have hq := List.mem_range.1 (List.mem_filter.1 hq).1
  have hm := (isP_iff.1 ho.perm).1 _ (List.mem_of_getElem? (List.getElem?_eq_getElem hq))
  rw [List.getD_eq_getElem?_getD, List.getElem?_eq_getElem hq]
  simp only [Option.getD_some]
  obtain ⟨n, hn⟩ : ∃ n : Nat, o[q] = n := ⟨o[q].toNat, by omega⟩
  rw [hn, ← Int.natCast_ediv]
  have hd := Nat.div_le_self n e
  obtain ⟨d, hdd⟩ : ∃ d, n / e = d := ⟨_, rfl⟩
  rw [hdd] at hd ⊢
  have := ho.len
  omega
theorem row_ok {o : List Int} {e : Nat} (ho : OrdOk o e) : (rowK o e (ceilD o.length e)).length ≤ 65536 ∧ ∀ x ∈ rowK o e (ceilD o.length e), 0 ≤ x ∧ x < 2147483648 := by
  have he1 := ho.e1
  have hol := ho.len
  refine ⟨?_, fun x hx => ?_⟩
  · rw [rowK_len]
    have : ¬ o.length < ceilD o.length e := fun h => by
      have := (ceil_lt (n := o.length) (e := e) (by omega)).2 h
      have := Nat.le_mul_of_pos_left o.length (show 0 < e by omega)
      omega
    omega
  · obtain ⟨q, hq, rfl⟩ := List.mem_map.1 hx
    have hq := (ceil_lt (by omega)).2 (List.mem_range.1 hq)
    rw [List.getD_eq_getElem?_getD, invL_at hq]
    have := List.idxOf_lt_length_of_mem (isP_all ho.perm (v := ((e * q : Nat) : Int)) (by omega) (by omega))
    simp only [Option.getD_some]
    omega
theorem packBy_len {l : List Int} (h1 : l.length ≤ 1000) (h2 : ∀ x ∈ l, 0 ≤ x ∧ x < 2147483648) : (packBy l).length ≤ 5000 := by
  have h3 := fitW_le h2
  have h4 := venc_length l.length
  have h5 : fitW l * l.length ≤ 31 * 1000 := Nat.mul_le_mul h3 h1
  unfold packBy
  simp only [List.length_cons, List.length_append, bytesB_len, packL_len]
  omega
theorem v_sBytes {gs gr : Nat} {o : List Int} {e : Nat} (ho : OrdOk o e) (hsm : o.length ≤ 1000) : ∀ H, samR H gs gr o e → VC Try.prog prims 17 [.ptr gs 0] H fun u T => u = BS true (samB o e) ∧ T = H := by
  rintro H hS
  obtain ⟨r, rw, ⟨rs, h⟩, h2⟩ := hS
  simp [samC] at h
  have he1 := ho.e1
  have he2 := ho.e2
  obtain ⟨p1, p2⟩ := plc_ok ho
  obtain ⟨q1, q2⟩ := row_ok ho
  have hvl := venc_length e
  have b1 := v_pBytes (w := fitW (plcK o e o.length)) (n := (plcK o e o.length).length) (m := packL (fitW (plcK o e o.length)) (plcK o e o.length)) (kk := true) (fitW_pos _) (fitW_le p2) (packL_len ..) p1
  have b2 := v_pBytes (w := fitW (rowK o e (ceilD o.length e))) (n := (rowK o e (ceilD o.length e)).length) (m := packL (fitW (rowK o e (ceilD o.length e))) (rowK o e (ceilD o.length e))) (kk := true) (fitW_pos _) (fitW_le q2) (packL_len ..) q1
  have hrb : ∀ H, rowR H gr (markB o e) → VC Try.prog prims 34 [.ptr gr 0] H fun u T => u = BS true (venc o.length ++ bytesB (markB o e)) ∧ T = H := by
    have := v_rBytes (g := gr) (m := markB o e)
    rwa [markB_len] at this
  refine v_enter hC [] (fun _ _ => kn_none rfl) Try.func17 rfl ok17 (Nat.le_of_ble_eq_true rfl) fun hcl hbl => ?_
  simp [h]
  refine v_draw (ord := [0, 1, 2, 3, 4, 5, 6, 7, 8, 9, 10, 11, 12, 13, 14, 15, 16, 17, 18, 19, 20, 21, 22, 23]) (m := 20) (by decide +kernel) (by decide +kernel) ?_
  simp [h]
  refine (v_Put (kk := true) (l := [(e : Int)]) (by simp) (by simp; omega)).call ?_
  simp [putB_one, h]
  refine CALLv.rd (S := fun H => rowR H gr (markB o e)) rowR.lock hrb ⟨r, rw, h2⟩ ?_
  simp [h]
  refine b1.call ?_
  simp [h]
  refine b2.call ?_
  have p3 : (plcK o e o.length).length ≤ 1000 := by have := plcK_len o e o.length; have := marksK_len o e o.length; omega
  have q3 : (rowK o e (ceilD o.length e)).length ≤ 1000 := by
    rw [rowK_len]
    have : ¬ o.length < ceilD o.length e := fun h => by
      have := (ceil_lt (n := o.length) (e := e) (by omega)).2 h
      have := Nat.le_mul_of_pos_left o.length (show 0 < e by omega)
      omega
    omega
  have l1 := packBy_len p3 p2
  have l2 := packBy_len q3 q2
  have l3 := venc_length o.length
  have l4 := bytesB_len (markB o e)
  have l5 := markB_len o e
  have hc := v_bCat (kk := true) (ls := [(true, venc e), (true, venc o.length ++ bytesB (markB o e)), (true, packBy (plcK o e o.length)), (true, packBy (rowK o e (ceilD o.length e)))]) (by simp) (fun p hp => by
    simp only [List.mem_cons, List.not_mem_nil, or_false] at hp
    rcases hp with rfl | rfl | rfl | rfl
    · simp only; omega
    · simp only [List.length_append]; omega
    · simp only; omega
    · simp only; omega)
  simp [packBy] at hc
  simp [putB_one]
  refine hc.call ?_
  simp [Try.results17]
  refine GV.ans0 ?_
  simp [samB, packBy]
end Go.Proofs.Ytibejcomfjddfaa.VM
end
section
set_option maxHeartbeats 8000000
set_option linter.unusedVariables false
set_option linter.unusedSimpArgs false

/- The document's samples: layer 22. -/
namespace Go.Proofs.Ytibejcomfjddfaa.VM
open Go Go.Proofs AM
set_option maxRecDepth 100000
/-- Two temporaries that are nil become empty rows of one's own, behind one object. -/
theorem G.nil2Z {H : Hp} {Q : Ev → Hp → Prop} {m : Nat} {e : Ev} {z : Ob} (t1 t2 : Tmp) (hcl : Cl H) (hm : m ≤ H.length + 1) (hz : z.bel (H.length + 1)) (h1 : e t1 = .lit (.slice none 0 0)) (h2 : e t2 = .lit (.slice none 0 0))
    (h : Q (vupd (vupd (VM.clip (H.length + 1) e) (some t1) (.own (H.length + 1) 0)) (some t2) (.own (H.length + 2) 0)) (H ++ [z, .vec 0 [] 1 true true, .vec 0 [] 1 true true])) : G m Q e (H ++ [z]) := by
  have := G.mk (Q := Q) (m := m) (e := e) (H0 := H) (Z := [z]) (Z' := [z]) (X := []) [1, 1] (vupd (vupd (VM.clip (H.length + 1) e) (some t1) (.own (H.length + 1) 0)) (some t2) (.own (H.length + 2) 0)) hcl (by simpa using hm) (by simp) ⟨z, [], rfl, UpO.self hz, rfl⟩ (fun j => by
    show Up _ _ _ _ (if j = t2 then V.own (H.length + 2) 0 else if j = t1 then V.own (H.length + 1) 0 else VM.clip _ e j) (e j)
    by_cases hj2 : j = t2
    · subst hj2; rw [if_pos rfl, h2]; simp
    · rw [if_neg hj2]
      by_cases hj1 : j = t1
      · subst hj1; rw [if_pos rfl, h1]; simp
      · rw [if_neg hj1]; exact clip_up j) (by simpa using h)
  simpa using this
theorem v_r22fit {kk : Bool} {l : List Int} (hl : l.length ≤ 65536) (hin : ∀ x ∈ l, 0 ≤ x ∧ x < 2147483648) : A 39 [IS kk l] (BS true (packBy l)) := by
  intro H
  refine v_enter hC [] (fun _ _ => kn_none rfl) Try.func39 rfl ok39 (Nat.le_of_ble_eq_true rfl) fun hcl hbl => ?_
  simp
  refine v_loopX hC (fun (k : Nat) e T => T = H ∧ e 0 = IS kk l ∧ e 3 = i6 (fitW (l.take k)) ∧ e 4 = i6 k ∧ k ≤ l.length) (fun k => l.length - k) 0 (G.refl ?_) ?_
  · simp [fitW]
  · rintro k e T ⟨rfl, h0, h3, h4, hk⟩
    simp [h0, h4]
    refine CondV.dec (fun hlt => ?_) (fun hge => ?_)
    · have hlt : k < l.length := by omega
      obtain ⟨x, hx⟩ : ∃ x, l[k]? = some x := ⟨_, List.getElem?_eq_getElem hlt⟩
      obtain ⟨h1, h2⟩ := hin x (List.mem_of_getElem? hx)
      have htk : l.take (k + 1) = l.take k ++ [x] := by rw [List.take_add_one, hx]; rfl
      simp [h0, h3, h4, hx]
      refine (by rw [show x = (x.toNat : Int) by omega]; exact v_r12Width (n := x.toNat) (by omega) : A 51 [i6 x] (i6 (wid x.toNat))).call ?_
      have hmax : (if fitW (l.take k) < wid x.toNat then ((wid x.toNat : Nat) : Int) else ((fitW (l.take k) : Nat) : Int)) = ((fitW (l.take (k + 1)) : Nat) : Int) := by
        rw [htk, fitW_snoc]; split <;> omega
      simp [h0, h3, h4, hmax, w64 (n := (k : Int) + 1) (by omega)]
      refine GH.refl ⟨k + 1, ⟨rfl, by simp [h0], by simp, by simp, hlt⟩, by omega⟩
    · have hkl : k = l.length := by omega
      subst hkl
      simp [h0, h3]
      refine (v_r12Bytes (w := fitW l) (kk := kk) (fitW_pos l) (fitW_le hin) hl (fitW_fits fun x hx => (hin x hx).1)).call ?_
      simp [Try.results39]
      first | (refine GV.ans hcl ?_; simp [packBy]; done) | (refine GV.ans0 ?_; simp [packBy]; done)
/-- The marks of the first k rows. -/
def markK (o : List Int) (e k : Nat) : List Bool := (List.range o.length).map fun i => decide (i < k) && sel o e i
theorem markK_len (o : List Int) (e k : Nat) : (markK o e k).length = o.length := by simp [markK]
theorem markK_zero (o : List Int) (e : Nat) : markK o e 0 = List.replicate o.length false := by
  unfold markK
  rw [List.map_congr_left (g := fun _ => false) (fun i _ => by simp), List.map_const', List.length_range]
theorem markK_end (o : List Int) (e : Nat) : markK o e o.length = markB o e := by
  unfold markK markB
  refine List.map_congr_left fun i hi => ?_
  simp [List.mem_range.1 hi]
theorem markK_at (o : List Int) (e k i : Nat) : (markK o e k).getD i false = (decide (i < o.length) && (decide (i < k) && sel o e i)) := by
  unfold markK
  rw [List.getD_eq_getElem?_getD, List.getElem?_map]
  by_cases h : i < o.length
  · rw [List.getElem?_range h]; simp [h]
  · rw [List.getElem?_eq_none (by simp; omega)]; simp [h]
theorem markK_yes {o : List Int} {e k : Nat} (hk : k < o.length) (h : sel o e k = true) : markK o e (k + 1) = (markK o e k).set k true := by
  refine bits_ext (by rw [List.length_set, markK_len, markK_len]) fun j hj => ?_
  rw [markK_len] at hj
  rw [markK_at]
  by_cases e1 : j = k
  · subst e1
    rw [List.getD_eq_getElem?_getD, List.getElem?_set_self (by rw [markK_len]; exact hk)]
    simp [hj, h]
  · rw [List.getD_eq_getElem?_getD, List.getElem?_set_ne (fun x => e1 x.symm), ← List.getD_eq_getElem?_getD, markK_at]
    have : (decide (j < k + 1)) = decide (j < k) := by rw [decide_eq_decide]; omega
    rw [this]
theorem markK_no {o : List Int} {e k : Nat} (h : sel o e k = false) : markK o e (k + 1) = markK o e k := by
  refine bits_ext (by rw [markK_len, markK_len]) fun j hj => ?_
  rw [markK_at, markK_at]
  by_cases e1 : j = k
  · subst e1; simp [h]
  · have : (decide (j < k + 1)) = decide (j < k) := by rw [decide_eq_decide]; omega
    rw [this]
theorem v_Lists {kk : Bool} {o : List Int} {e : Nat} (ho : OrdOk o e) : A 36 [i6 e, IS kk o] (.tup [LB true (markB o e), IS true (plcK o e o.length), IS true (rowK o e (ceilD o.length e))]) := by
  intro H
  have he1 := ho.e1
  have hol := ho.len
  have hin := (isP_iff.1 ho.perm).1
  have hil := invL_len o
  refine v_enter hC [] (fun _ _ => kn_none rfl) Try.func36 rfl ok36 (Nat.le_of_ble_eq_true rfl) fun hcl hbl => ?_
  simp
  refine (v_rTurned (kk := kk) (by omega)).call ?_
  simp [turnR, ho.perm]
  refine ⟨by omega, ?_⟩
  refine v_loopX hC (fun (k : Nat) e' T => (∃ w1 w2, T = H ++ [.vec 0 ((markK o e k).map bb) 1 true true, .vec w1 ((plcK o e k).map ic) 1 true true, .vec w2 ((rowK o e (ceilD k e)).map ic) 1 true true] ∧ e' 10 = .own (H.length + 1) w1 ∧ e' 11 = .own (H.length + 2) w2) ∧ e' 0 = i6 e ∧ e' 1 = IS kk o ∧ e' 7 = IS true (invL o) ∧ e' 9 = .own H.length 0 ∧ e' 12 = i6 k ∧ k ≤ o.length) (fun k => o.length - k) 0 ?_ ?_
  · refine G.nil2Z 10 11 hcl (by simp) (by refine ⟨fun r hr => ?_, fun r hr => ?_⟩ <;> (obtain ⟨_, rfl⟩ := List.mem_replicate.1 hr) <;> simp [Bels, Bel, V.isCell, cellB]) (by simp) (by simp) ?_
    exact ⟨⟨0, 0, by simp [markK_zero, plcK, rowK, ceilD, Nat.div_eq_of_lt (show 0 + e - 1 < e by omega), Nat.div_eq_of_lt (show e - 1 < e by omega)], by simp, by simp⟩, by simp, by simp, by simp, by simp, by simp, by omega⟩
  · rintro k e' T ⟨⟨w1, w2, rfl, h10, h11⟩, h0, h1, h7, h9, h12, hk⟩
    have hm2 := plcK_len o e k
    have hm1 := marksK_len o e k
    have hmk := markK_len o e k
    simp [h1, h12]
    refine CondV.dec (fun hlt => ?_) (fun hge => ?_)
    · have hlt : k < o.length := by omega
      obtain ⟨x, hx⟩ : ∃ x, o[k]? = some x := ⟨_, List.getElem?_eq_getElem hlt⟩
      obtain ⟨q1, q2⟩ := hin x (List.mem_of_getElem? hx)
      obtain ⟨v, rfl⟩ : ∃ v : Nat, x = v := ⟨x.toNat, by omega⟩
      have hsel := sel_dec (e := e) hx
      have hgd : o.getD k 0 = (v : Int) := by rw [List.getD_eq_getElem?_getD, hx]; rfl
      have u1 : ((v : Int)).tmod e = ((v % e : Nat) : Int) := by rw [Int.tmod_eq_emod_of_nonneg (by omega)]; exact (Int.natCast_emod v e).symm
      have u2 : ((v : Int)).tdiv e = ((v / e : Nat) : Int) := by rw [Int.tdiv_eq_ediv_of_nonneg (by omega)]; exact (Int.natCast_ediv v e).symm
      have hdl : v / e ≤ v := Nat.div_le_self _ _
      have u4 : (v : Int) / (e : Int) = ((v / e : Nat) : Int) := (Int.natCast_ediv v e).symm
      obtain ⟨z, hz⟩ : ∃ z, v % e = z := ⟨_, rfl⟩
      obtain ⟨y, hy⟩ : ∃ y, v / e = y := ⟨_, rfl⟩
      rw [hz] at u1 hsel
      rw [hy] at u2 u4 hdl
      have u3 : IntKind.i64.wrap (y : Int) = (y : Int) := w64 (by omega)
      have t1 : ((k : Int)).tmod e = ((k % e : Nat) : Int) := by rw [Int.tmod_eq_emod_of_nonneg (by omega)]; exact (Int.natCast_emod k e).symm
      have hij := invL_at hlt
      have hrl := rowK_len o e (ceilD k e)
      have hce : ceilD k e ≤ k := by
        rcases Nat.lt_or_ge k (ceilD k e) with h | h
        · have := (ceil_lt (n := k) (e := e) (by omega)).2 h
          have := Nat.le_mul_of_pos_left k (show 0 < e by omega)
          omega
        · exact h
      have hrow : (k % e = 0 → rowK o e (ceilD (k + 1) e) = rowK o e (ceilD k e) ++ [(o.idxOf (k : Int) : Int)]) ∧ (¬ k % e = 0 → rowK o e (ceilD (k + 1) e) = rowK o e (ceilD k e)) ∧ True := by
        refine ⟨?_, ?_, trivial⟩
        · intro h
          obtain ⟨c1, c2⟩ := ceil_yes (show 0 < e by omega) h
          rw [c1, rowK_succ, c2, List.getD_eq_getElem?_getD, hij]; rfl
        · intro h
          rw [ceil_no (by omega) h]
      obtain ⟨hr1, hr2, _⟩ := hrow
      obtain ⟨d, hd⟩ : ∃ d, k % e = d := ⟨_, rfl⟩
      rw [hd] at t1 hr1 hr2
      simp [h0, h1, h12, hx, u1, show ¬ e = 0 by omega]
      refine CondV.dec (fun hs => ?_) (fun hs => ?_)
      · have hsy : sel o e k = true := by rw [hsel, hs]; simp
        have hkm : k < (markK o e k).length := by omega
        simp [h0, h1, h9, h10, h12, hx, u2, u3, u4, t1, hkm, show ¬ e = 0 by omega]
        refine ⟨by omega, ?_⟩
        refine CondV.dec (fun hs2 => ?_) (fun hs2 => ?_)
        · have hr := hr1 hs2
          simp [h0, h1, h7, h10, h11, h12, hij, w64 (n := (k : Int) + 1) (by omega)]
          refine ⟨by omega, GH.refl ⟨k + 1, ⟨⟨w1 + 1, w2 + 1, ?_, by simp, by simp⟩, by simp [h0], by simp [h1], by simp [h7], by simp [h9], by simp, hlt⟩, by omega⟩⟩
          rw [markK_yes hlt hsy, plcK_yes hsy, hgd, u4, hr]
          simp
        · have hr := hr2 hs2
          simp [h0, h1, h7, h10, h11, h12, w64 (n := (k : Int) + 1) (by omega)]
          refine GH.refl ⟨k + 1, ⟨⟨w1 + 1, w2, ?_, by simp, by simp [h11]⟩, by simp [h0], by simp [h1], by simp [h7], by simp [h9], by simp, hlt⟩, by omega⟩
          rw [markK_yes hlt hsy, plcK_yes hsy, hgd, u4, hr]
          simp
      · have hsn : sel o e k = false := by rw [hsel]; simp [hs]
        simp [h0, h12, t1, show ¬ e = 0 by omega]
        refine CondV.dec (fun hs2 => ?_) (fun hs2 => ?_)
        · have hr := hr1 hs2
          simp [h0, h1, h7, h10, h11, h12, hij, w64 (n := (k : Int) + 1) (by omega)]
          refine ⟨by omega, GH.refl ⟨k + 1, ⟨⟨w1, w2 + 1, ?_, by simp [h10], by simp⟩, by simp [h0], by simp [h1], by simp [h7], by simp [h9], by simp, hlt⟩, by omega⟩⟩
          rw [markK_no hsn, plcK_no hsn, hr]
          simp
        · have hr := hr2 hs2
          simp [h0, h1, h7, h10, h11, h12, w64 (n := (k : Int) + 1) (by omega)]
          refine GH.refl ⟨k + 1, ⟨⟨w1, w2, ?_, by simp [h10], by simp [h11]⟩, by simp [h0], by simp [h1], by simp [h7], by simp [h9], by simp, hlt⟩, by omega⟩
          rw [markK_no hsn, plcK_no hsn, hr]
    · have hkl : k = o.length := by omega
      subst hkl
      simp [h9, h10, h11, Try.results36]
      refine GV.ans hcl ?_
      simp [markK_end]
theorem v_r22Bytes {kk : Bool} {o : List Int} {e : Nat} (ho : OrdOk o e) (hsm : o.length ≤ 1000) : A 18 [i6 e, IS kk o] (BS true (samB o e)) := by
  intro H
  have he1 := ho.e1
  have he2 := ho.e2
  have hol := ho.len
  obtain ⟨p1, p2⟩ := plc_ok ho
  obtain ⟨q1, q2⟩ := row_ok ho
  have f0 : IntKind.u64.wrap (e : Int) = (e : Int) := wrap64 (by omega)
  have hvl := venc_length e
  have l3 := venc_length o.length
  have l4 := bytesB_len (markB o e)
  have l5 := markB_len o e
  have hb13 : A 38 [LB true (markB o e)] (BS true (venc o.length ++ bytesB (markB o e))) := by
    have := v_r13Bytes (kk := true) (m := markB o e) (by omega)
    rwa [l5] at this
  refine v_enter hC [] (fun _ _ => kn_none rfl) Try.func18 rfl ok18 (Nat.le_of_ble_eq_true rfl) fun hcl hbl => ?_
  simp
  refine (v_Lists (kk := kk) ho).call ?_
  simp [f0]
  refine (v_rPutO (n := e) (by omega)).call fun w t => ?_
  simp
  refine hb13.call ?_
  simp
  refine ⟨by omega, ?_⟩
  refine (v_r22fit (kk := true) p1 p2).call ?_
  have p3 : (plcK o e o.length).length ≤ 1000 := by have := plcK_len o e o.length; have := marksK_len o e o.length; omega
  have q3 : (rowK o e (ceilD o.length e)).length ≤ 1000 := by
    rw [rowK_len]
    have : ¬ o.length < ceilD o.length e := fun h => by
      have := (ceil_lt (n := o.length) (e := e) (by omega)).2 h
      have := Nat.le_mul_of_pos_left o.length (show 0 < e by omega)
      omega
    omega
  have l1 := packBy_len p3 p2
  have l2 := packBy_len q3 q2
  simp
  refine ⟨by omega, ?_⟩
  refine (v_r22fit (kk := true) q1 q2).call ?_
  simp [Try.results18]
  refine ⟨by omega, ?_⟩
  refine GV.ans hcl ?_
  simp [samB]
end Go.Proofs.Ytibejcomfjddfaa.VM
end
section
set_option maxHeartbeats 8000000
set_option linter.unusedVariables false
set_option linter.unusedSimpArgs false

/- The document's order of a text; the law's text. -/
namespace Go.Proofs.Ytibejcomfjddfaa.VM
open Go Go.Proofs AM
set_option maxRecDepth 100000
/-- A text: no 0 but the last one. -/
def TxtOk (t : List Int) : Prop := ∃ c : List Int, t = c ++ [0] ∧ ∀ x ∈ c, 0 < x
theorem TxtOk.pos {t : List Int} (h : TxtOk t) : 0 < t.length := by obtain ⟨c, rfl, _⟩ := h; simp
theorem TxtOk.zero {t : List Int} (h : TxtOk t) {i : Nat} (hi : t[i]? = some 0) : i + 1 = t.length := by
  obtain ⟨c, rfl, hc⟩ := h
  rcases Nat.lt_or_ge i c.length with hl | hl
  · rw [List.getElem?_append_left hl] at hi
    have := hc 0 (List.mem_of_getElem? hi)
    omega
  · have := (List.getElem?_eq_some_iff.1 hi).1
    simp at this ⊢
    omega
theorem TxtOk.last {t : List Int} (h : TxtOk t) : t[t.length - 1]? = some 0 := by
  obtain ⟨c, rfl, hc⟩ := h
  simp
/-- How much two suffixes begin with alike. -/
def comF (t : List Int) (a b : Nat) : Nat → Nat → Nat
  | 0, n => n
  | f + 1, n => if a + n < t.length ∧ b + n < t.length ∧ t.getD (a + n) 0 = t.getD (b + n) 0 then comF t a b f (n + 1) else n
def com (t : List Int) (a b : Nat) : Nat := comF t a b t.length 0
theorem comF_spec (t : List Int) (a b : Nat) : ∀ (f n : Nat), t.length ≤ f + n → (∀ j, j < n → a + j < t.length ∧ b + j < t.length ∧ t.getD (a + j) 0 = t.getD (b + j) 0) →
    (∀ j, j < comF t a b f n → a + j < t.length ∧ b + j < t.length ∧ t.getD (a + j) 0 = t.getD (b + j) 0) ∧ ¬ (a + comF t a b f n < t.length ∧ b + comF t a b f n < t.length ∧ t.getD (a + comF t a b f n) 0 = t.getD (b + comF t a b f n) 0)
  | 0, n, hl, hn => ⟨hn, fun h => by have := h.1; simp only [comF] at this; omega⟩
  | f + 1, n, hl, hn => by
    unfold comF
    split
    · rename_i hc
      refine comF_spec t a b f (n + 1) (by omega) fun j hj => ?_
      by_cases hjn : j = n
      · subst hjn; exact hc
      · exact hn j (by omega)
    · rename_i hc; exact ⟨hn, hc⟩
theorem com_spec (t : List Int) (a b : Nat) : (∀ j, j < com t a b → a + j < t.length ∧ b + j < t.length ∧ t.getD (a + j) 0 = t.getD (b + j) 0) ∧ ¬ (a + com t a b < t.length ∧ b + com t a b < t.length ∧ t.getD (a + com t a b) 0 = t.getD (b + com t a b) 0) :=
  comF_spec t a b t.length 0 (by omega) fun j hj => by omega
theorem com_eq {t : List Int} {a b n : Nat} (h1 : ∀ j, j < n → a + j < t.length ∧ b + j < t.length ∧ t.getD (a + j) 0 = t.getD (b + j) 0) (h2 : ¬ (a + n < t.length ∧ b + n < t.length ∧ t.getD (a + n) 0 = t.getD (b + n) 0)) : com t a b = n := by
  obtain ⟨s1, s2⟩ := com_spec t a b
  rcases Nat.lt_trichotomy (com t a b) n with h | h | h
  · exact absurd (h1 _ h) s2
  · exact h
  · exact absurd (s1 _ h) h2
theorem gD {t : List Int} {i : Nat} (h : i < t.length) : t[i]? = some (t.getD i 0) := by rw [List.getD_eq_getElem?_getD, List.getElem?_eq_getElem h]; rfl
/-- Two suffixes of a text differ ahead of the end. -/
theorem com_in {t : List Int} (ht : TxtOk t) {a b : Nat} (hne : a ≠ b) (ha : a < t.length) (hb : b < t.length) : a + com t a b < t.length ∧ b + com t a b < t.length := by
  obtain ⟨s1, s2⟩ := com_spec t a b
  have key : ∀ {x y : Nat}, x ≠ y → (∀ j, j < com t a b → x + j < t.length ∧ y + j < t.length ∧ t.getD (x + j) 0 = t.getD (y + j) 0) → x < t.length → ¬ t.length ≤ x + com t a b := fun {x y} hxy h hx hge => by
    have h0 : 0 < com t a b := by omega
    obtain ⟨k1, k2, k3⟩ := h (com t a b - 1) (by omega)
    have e1 : x + (com t a b - 1) = t.length - 1 := by omega
    have hl := ht.last
    rw [← e1, gD k1] at hl
    rw [Option.some.inj hl] at k3
    have := ht.zero (i := y + (com t a b - 1)) (by rw [gD k2, ← k3])
    omega
  have k1 := key hne s1 ha
  have k2 := key (Ne.symm hne) (fun j hj => ⟨(s1 j hj).2.1, (s1 j hj).1, (s1 j hj).2.2.symm⟩) hb
  omega
def lessT (t : List Int) (a b : Nat) : Bool := decide (a ≠ b) && decide (t.getD (a + com t a b) 0 < t.getD (b + com t a b) 0)
theorem v_Common {kk : Bool} {t : List Int} {a b : Nat} (hl : t.length ≤ 1000000) (ha : a ≤ 1000000) (hb : b ≤ 1000000) : A 21 [IS kk t, i6 a, i6 b] (i6 (com t a b)) := by
  intro H
  refine v_enter hC [] (fun _ _ => kn_none rfl) Try.func21 rfl ok21 (Nat.le_of_ble_eq_true rfl) fun hcl hbl => ?_
  simp
  refine v_loopX hC (fun (n : Nat) e T => T = H ∧ e 0 = IS kk t ∧ e 1 = i6 a ∧ e 2 = i6 b ∧ e 7 = i6 n ∧ n ≤ t.length ∧ ∀ j, j < n → a + j < t.length ∧ b + j < t.length ∧ t.getD (a + j) 0 = t.getD (b + j) 0) (fun n => t.length - n) 0 (G.refl ?_) ?_
  · simp
  · rintro n e T ⟨rfl, h0, h1, h2, h7, hn, hall⟩
    have w1 : IntKind.i64.wrap ((a : Int) + n) = ((a + n : Nat) : Int) := by rw [w64 (by omega)]; omega
    have w2 : IntKind.i64.wrap ((b : Int) + n) = ((b + n : Nat) : Int) := by rw [w64 (by omega)]; omega
    have w3 : IntKind.i64.wrap ((n : Int) + 1) = ((n + 1 : Nat) : Int) := by rw [w64 (by omega)]; omega
    obtain ⟨p, hp⟩ : ∃ p, a + n = p := ⟨_, rfl⟩
    obtain ⟨q, hq⟩ : ∃ q, b + n = q := ⟨_, rfl⟩
    rw [hp] at w1
    rw [hq] at w2
    simp [h0, h1, h2, h7]
    refine v_draw (ord := [0, 1, 2, 3, 4, 5, 6, 7, 8, 9, 10, 11, 12, 13, 14, 15, 16, 17, 18, 19, 20, 21, 22, 23, 24, 25, 26, 27, 28]) (m := 27) (by decide +kernel) (by decide +kernel) ?_
    have fin : ¬ (p < t.length ∧ q < t.length ∧ t.getD p 0 = t.getD q 0) → com t a b = n := fun h => com_eq hall (by rw [hp, hq]; exact h)
    have gE : ∀ {i : Nat} (h : i < t.length), t.getD i 0 = t[i] := fun {i} h => by rw [List.getD_eq_getElem?_getD, List.getElem?_eq_getElem h]; rfl
    by_cases hpl : p < t.length
    · by_cases hql : q < t.length
      · by_cases heq : t[p] = t[q]
        · simp [h0, h1, h2, h7, w1, w2, w3, hpl, hql, heq]
          refine GH.refl ⟨n + 1, ⟨rfl, by simp [h0], by simp [h1], by simp [h2], by simp, by omega, fun j hj => ?_⟩, by omega⟩
          by_cases hjn : j = n
          · subst hjn
            rw [hp, hq, gE hpl, gE hql]
            exact ⟨hpl, hql, heq⟩
          · exact hall j (by omega)
        · have hf := fin fun h => heq (by rw [← gE hpl, ← gE hql]; exact h.2.2)
          simp [h0, h1, h2, h7, w1, w2, hpl, hql, heq, Try.results21]
          first | (refine GV.ans hcl ?_; simp [hf]; done) | (refine GV.ans0 ?_; simp [hf]; done)
      · have hf := fin fun h => hql h.2.1
        simp [h0, h1, h2, h7, w1, w2, hpl, hql, Try.results21]
        first | (refine GV.ans hcl ?_; simp [hf]; done) | (refine GV.ans0 ?_; simp [hf]; done)
    · have hf := fin fun h => hpl h.1
      simp [h0, h1, h2, h7, w1, w2, hpl, Try.results21]
      first | (refine GV.ans hcl ?_; simp [hf]; done) | (refine GV.ans0 ?_; simp [hf]; done)
theorem v_Less15 {kk : Bool} {t : List Int} {a b : Nat} (ht : TxtOk t) (hl : t.length ≤ 1000000) (ha : a < t.length) (hb : b < t.length) : A 10 [IS kk t, i6 a, i6 b] (bo (lessT t a b)) := by
  intro H
  have gE : ∀ {i : Nat} (h : i < t.length), t.getD i 0 = t[i] := fun {i} h => by rw [List.getD_eq_getElem?_getD, List.getElem?_eq_getElem h]; rfl
  refine v_enter hC [] (fun _ _ => kn_none rfl) Try.func10 rfl ok10 (Nat.le_of_ble_eq_true rfl) fun hcl hbl => ?_
  simp
  refine (v_Common (kk := kk) hl (by omega) (by omega)).call ?_
  simp
  refine v_draw (ord := [0, 1, 2, 3, 4, 5, 6, 7, 8, 9, 10, 11, 12, 13, 14, 15, 16, 17, 18]) (m := 16) (by decide +kernel) (by decide +kernel) ?_
  by_cases hne : a = b
  · subst hne
    simp [Try.results10]
    first | (refine GV.ans hcl ?_; simp [lessT]; done) | (refine GV.ans0 ?_; simp [lessT]; done)
  · obtain ⟨c1, c2⟩ := com_in ht hne ha hb
    have w1 : IntKind.i64.wrap ((a : Int) + (com t a b : Nat)) = ((a + com t a b : Nat) : Int) := by rw [w64 (by omega)]; omega
    have w2 : IntKind.i64.wrap ((b : Int) + (com t a b : Nat)) = ((b + com t a b : Nat) : Int) := by rw [w64 (by omega)]; omega
    have hlt : lessT t a b = decide (t[a + com t a b] < t[b + com t a b]) := by unfold lessT; rw [gE c1, gE c2]; simp [hne]
    rw [hlt]
    obtain ⟨p, hp⟩ : ∃ p, a + com t a b = p := ⟨_, rfl⟩
    obtain ⟨q, hq⟩ : ∃ q, b + com t a b = q := ⟨_, rfl⟩
    simp only [hp, hq] at w1 w2 c1 c2 ⊢
    simp [show ¬ (a : Int) = b by omega, w1, w2, c1, c2, Try.results10]
    refine GV.ans0 ?_
    subst hp; subst hq
    simp
/-- The places, put in one by one. -/
def insS (t out : List Int) (i : Nat) : List Int := out.takeWhile (fun x => lessT t x.toNat i) ++ [(i : Int)] ++ out.dropWhile fun x => lessT t x.toNat i
def sortK (t : List Int) (k : Nat) : List Int := (List.range k).foldl (insS t) []
def sortT (t : List Int) : List Int := sortK t t.length
theorem sortK_succ (t : List Int) (k : Nat) : sortK t (k + 1) = insS t (sortK t k) k := by simp [sortK, List.range_succ]
theorem insS_mem {t out : List Int} {i : Nat} {x : Int} : x ∈ insS t out i ↔ x = i ∨ x ∈ out := by
  unfold insS
  rw [List.mem_append, List.mem_append, List.mem_singleton]
  have := List.takeWhile_append_dropWhile (p := fun x => lessT t x.toNat i) (l := out)
  constructor
  · rintro ((h | h) | h)
    · right; rw [← this]; exact List.mem_append_left _ h
    · exact .inl h
    · right; rw [← this]; exact List.mem_append_right _ h
  · rintro (h | h)
    · exact .inl (.inr h)
    · rw [← this] at h
      rcases List.mem_append.1 h with h | h
      · exact .inl (.inl h)
      · exact .inr h
theorem insS_len (t out : List Int) (i : Nat) : (insS t out i).length = out.length + 1 := by
  unfold insS
  have := congrArg List.length (List.takeWhile_append_dropWhile (p := fun x => lessT t x.toNat i) (l := out))
  simp only [List.length_append, List.length_singleton] at this ⊢
  omega
theorem sortK_spec (t : List Int) : ∀ k, (sortK t k).length = k ∧ ∀ x, x ∈ sortK t k ↔ 0 ≤ x ∧ x < k
  | 0 => ⟨rfl, fun x => by simp [sortK]⟩
  | k + 1 => by
    obtain ⟨h1, h2⟩ := sortK_spec t k
    rw [sortK_succ]
    refine ⟨by rw [insS_len, h1], fun x => ?_⟩
    rw [insS_mem, h2]
    omega
theorem sortT_perm (t : List Int) : isP (sortT t) = true := by
  obtain ⟨h1, h2⟩ := sortK_spec t t.length
  refine isP_of_all fun v hv => ?_
  unfold sortT at hv ⊢
  rw [h2]
  rw [h1] at hv
  omega
theorem sortT_len (t : List Int) : (sortT t).length = t.length := (sortK_spec t t.length).1
/-- A temporary's own rows are frozen, and what was made is let go. -/
theorem G.frzT {H X : Hp} {Q : Ev → Hp → Prop} {m g w s : Nat} {rows : List (List V)} {rw tt : Bool} {e : Ev} (t : Tmp) (hcl : Cl H) (hm : m ≤ H.length) (hg : (H ++ X)[g]? = some (.vec w rows s rw tt)) (hgl : H.length ≤ g) (hp : PureR rows) (ht : e t = .own g w)
    (h : Q (vupd (VM.clip H.length e) (some t) (.fsl true s rows)) H) : G m Q e (H ++ X) := by
  have := G.mk (Q := Q) (m := m) (e := e) (H0 := H) (Z := []) (Z' := []) (X := X) [] (vupd (VM.clip H.length e) (some t) (.fsl true s rows)) hcl (by simpa using hm) (by simp) (by simp) (fun j => by
    show Up _ _ _ _ (if j = t then V.fsl true s rows else VM.clip _ e j) (e j)
    by_cases hj : j = t
    · subst hj; rw [if_pos rfl, ht]; simp [hg, hp, hgl]
    · rw [if_neg hj]; exact clip_up j) (by simpa using h)
  simpa using this
theorem G.nilF {H : Hp} {Q : Ev → Hp → Prop} {m s : Nat} {e : Ev} (t : Tmp) (hcl : Cl H) (hm : m ≤ H.length) (hs : s < 4294967296) (ht : e t = .lit (.slice none 0 0))
    (h : Q (vupd (VM.clip H.length e) (some t) (.fsl true s [])) H) : G m Q e H := by
  have := G.mk (Q := Q) (m := m) (e := e) (H0 := H) (Z := []) (Z' := []) (X := []) [] (vupd (VM.clip H.length e) (some t) (.fsl true s [])) hcl (by simpa using hm) (by simp) (by simp) (fun j => by
    show Up _ _ _ _ (if j = t then V.fsl true s [] else VM.clip _ e j) (e j)
    by_cases hj : j = t
    · subst hj; rw [if_pos rfl, ht]; simp [hs]
    · rw [if_neg hj]; exact clip_up j) (by simpa using h)
  simpa using this
theorem tw_take {α : Type} (p : α → Bool) (l : List α) : l.take (l.takeWhile p).length = l.takeWhile p ∧ l.drop (l.takeWhile p).length = l.dropWhile p := by
  have := List.takeWhile_append_dropWhile (p := p) (l := l)
  constructor
  · conv => lhs; rw [← this]
    rw [List.takeWhile_append_dropWhile]
    conv => lhs; arg 2; rw [← this]
    rw [List.take_left]
  · conv => lhs; arg 2; rw [← this]
    rw [List.drop_left]
theorem tw_at {α : Type} (p : α → Bool) : ∀ (l : List α) (n : Nat) (x : α), n < (l.takeWhile p).length → l[n]? = some x → p x = true
  | [], n, x, h, _ => by simp at h
  | y :: l, n, x, h, hx => by
    rw [List.takeWhile_cons] at h
    split at h
    · rename_i hy
      cases n with
      | zero => simp at hx; subst hx; exact hy
      | succ n => exact tw_at p l n x (by simpa using h) (by simpa using hx)
    · simp at h
theorem tw_end {α : Type} (p : α → Bool) : ∀ (l : List α) (x : α), l[(l.takeWhile p).length]? = some x → p x = false
  | [], x, h => by simp at h
  | y :: l, x, hx => by
    rw [List.takeWhile_cons] at hx
    split at hx
    · exact tw_end p l x (by simpa using hx)
    · rename_i hy; simp at hx; subst hx; simpa using hy
theorem v_Sort15 {kk : Bool} {t : List Int} (ht : TxtOk t) (hl : t.length ≤ 100000) : A 4 [IS kk t] (IS true (sortT t)) := by
  intro H
  refine v_enter hC [28] (fun _ _ => kn_none rfl) Try.func4 rfl ok4 (Nat.le_of_ble_eq_true rfl) fun hcl hbl => ?_
  simp
  refine v_loopX hC (fun (k : Nat) e T => T = H ∧ e 0 = IS kk t ∧ e 3 = IS true (sortK t k) ∧ e 4 = i6 k ∧ k ≤ t.length) (fun k => t.length - k) 0 ?_ ?_
  · refine G.nilF 3 (s := 1) hcl (by omega) (by omega) (by simp) ?_
    simp [sortK]
  · rintro k e T ⟨rfl, h0, h3, h4, hk⟩
    obtain ⟨s1, s2⟩ := sortK_spec t k
    simp [h0, h4]
    refine CondV.dec (fun hlt => ?_) (fun hge => ?_)
    · have hlt : k < t.length := by omega
      obtain ⟨out, hout⟩ : ∃ out, sortK t k = out := ⟨_, rfl⟩
      rw [hout] at s1 s2 h3
      obtain ⟨p, hp⟩ : ∃ p : Int → Bool, p = fun x => lessT t x.toNat k := ⟨_, rfl⟩
      obtain ⟨tk, td⟩ := tw_take p out
      have hpl : (out.takeWhile p).length ≤ out.length := by
        have := congrArg List.length (List.takeWhile_append_dropWhile (p := p) (l := out))
        simp only [List.length_append] at this; omega
      simp
      refine v_loopX hC (fun (n : Nat) e' T' => T' = T ∧ n ≤ (out.takeWhile p).length ∧ e' 0 = IS kk t ∧ e' 3 = IS true out ∧ e' 4 = i6 k ∧ e' 5 = i6 n) (fun n => (out.takeWhile p).length - n) 0 (G.refl ?_) ?_
      · simp [h0, h3, h4]
      · rintro n e' T' ⟨rfl, hn, g0, g3, g4, g5⟩
        have w3 : IntKind.i64.wrap ((n : Int) + 1) = ((n + 1 : Nat) : Int) := by rw [w64 (by omega)]; omega
        simp [g0, g3, g4, g5]
        by_cases hno : n < out.length
        · obtain ⟨x, hx⟩ : ∃ x, out[n]? = some x := ⟨_, List.getElem?_eq_getElem hno⟩
          obtain ⟨x1, x2⟩ := (s2 x).1 (List.mem_of_getElem? hx)
          have hless : A 10 [IS kk t, i6 x, i6 k] (bo (lessT t x.toNat k)) := by
            have := v_Less15 (kk := kk) (a := x.toNat) (b := k) ht (by omega) (by omega) hlt
            rwa [show ((x.toNat : Nat) : Int) = x by omega] at this
          have hxe : out[n] = x := by rw [List.getElem?_eq_getElem hno] at hx; exact Option.some.inj hx
          simp [hno, g0, g3, g4, g5, hxe]
          refine hless.call ?_
          simp [hno]
          by_cases hnp : n < (out.takeWhile p).length
          · have hpx := tw_at p out n x hnp hx
            rw [hp] at hpx
            simp only at hpx
            simp [hpx, g5, w3]
            refine GH.refl ⟨n + 1, ⟨rfl, by omega, by simp [g0], by simp [g3], by simp [g4], by simp⟩, by omega⟩
          · have hne : n = (out.takeWhile p).length := by omega
            have hpx := tw_end p out x (by rw [← hne]; exact hx)
            rw [hp] at hpx
            simp only at hpx
            simp [hpx]
            have tk' : out.take n = out.takeWhile p := by rw [hne]; exact tk
            have td' : out.drop n = out.dropWhile p := by rw [hne]; exact td
            have hnle : n ≤ out.length := by omega
            have bh : bounds out.length out.length none (some (n : Int)) none = some (0, n, out.length) := by simp [bounds, hnle]
            have bl : bounds out.length out.length (some (n : Int)) none none = some (n, out.length, out.length) := by simp [bounds, hnle]
            have hmin : min n out.length = n := by omega
            simp [g0, g3, g4, g5, bh, bl]
            rw [hmin, ← List.map_take, ← List.map_drop, tk', td']
            refine ⟨⟨by simp, by omega⟩, by omega, ⟨by simp, by omega⟩, GH.of (G.frzT (t := 3) (g := T'.length) (w := 3) (s := 1) (rows := (out.takeWhile p).map ic ++ ([[i6 k]] ++ (out.dropWhile p).map ic)) (rw := true) (tt := true) hcl (Nat.le_refl _) (by simp) (Nat.le_refl _) (by simp) (by simp) ?_)⟩
            refine ⟨k + 1, ⟨rfl, by simp [g0], ?_, by simp [w64 (n := (k : Int) + 1) (by omega)], by omega⟩, by omega⟩
            rw [sortK_succ, hout]
            simp [insS, hp]
        · have hne : n = (out.takeWhile p).length := by omega
          simp [hno]
          have tk' : out.take n = out.takeWhile p := by rw [hne]; exact tk
          have td' : out.drop n = out.dropWhile p := by rw [hne]; exact td
          have hnle : n ≤ out.length := by omega
          have bh : bounds out.length out.length none (some (n : Int)) none = some (0, n, out.length) := by simp [bounds, hnle]
          have bl : bounds out.length out.length (some (n : Int)) none none = some (n, out.length, out.length) := by simp [bounds, hnle]
          have hmin : min n out.length = n := by omega
          simp [g0, g3, g4, g5, bh, bl]
          rw [hmin, ← List.map_take, ← List.map_drop, tk', td']
          refine ⟨⟨by simp, by omega⟩, by omega, ⟨by simp, by omega⟩, GH.of (G.frzT (t := 3) (g := T'.length) (w := 3) (s := 1) (rows := (out.takeWhile p).map ic ++ ([[i6 k]] ++ (out.dropWhile p).map ic)) (rw := true) (tt := true) hcl (Nat.le_refl _) (by simp) (Nat.le_refl _) (by simp) (by simp) ?_)⟩
          refine ⟨k + 1, ⟨rfl, by simp [g0], ?_, by simp [w64 (n := (k : Int) + 1) (by omega)], by omega⟩, by omega⟩
          rw [sortK_succ, hout]
          simp [insS, hp]
    · have hkl : k = t.length := by omega
      subst hkl
      simp [h3, Try.results4]
      first | (refine GV.ans hcl ?_; simp [sortT]; done) | (refine GV.ans0 ?_; simp [sortT]; done)
end Go.Proofs.Ytibejcomfjddfaa.VM
end
section
set_option maxHeartbeats 8000000
set_option linter.unusedVariables false
set_option linter.unusedSimpArgs false

/- The law's text. -/
namespace Go.Proofs.Ytibejcomfjddfaa.VM
open Go Go.Proofs AM
set_option maxRecDepth 100000
def u6 (x : Int) : Nat := (x % 18446744073709551616).toNat
theorem wrapU (x : Int) : IntKind.u64.wrap x = ((u6 x : Nat) : Int) := by
  unfold u6
  simp [IntKind.wrap, IntKind.bits, IntKind.signed]
  omega
def sg9 (s : Int) : Nat := 1 + u6 s % 9
def cod (s : Int) (x : Int) : Int := ((1 + u6 x % sg9 s : Nat) : Int)
def textL (l : List Int) (s : Int) : List Int := (l.take 120).map (cod s) ++ [0]
theorem text_ok (l : List Int) (s : Int) : TxtOk (textL l s) := ⟨_, rfl, fun x hx => by
  obtain ⟨y, _, rfl⟩ := List.mem_map.1 hx
  unfold cod; omega⟩
theorem text_len (l : List Int) (s : Int) : (textL l s).length ≤ 121 := by simp [textL]; omega
theorem v_Text15 {kk : Bool} {l : List Int} {s : Int} : A 5 [IS kk l, i6 s] (IS true (textL l s)) := by
  intro H
  have hs9 : sg9 s ≤ 9 ∧ 1 ≤ sg9 s := by unfold sg9; omega
  have f1 : IntKind.i64.wrap (IntKind.i64.wrap (((u6 s : Nat) : Int) % 9) + 1) = ((sg9 s : Nat) : Int) := by
    rw [w64 (n := ((u6 s : Nat) : Int) % 9) (by omega), w64 (by omega)]; unfold sg9; omega
  have f2 : IntKind.i64.wrap (1 + IntKind.i64.wrap (((u6 s : Nat) : Int) % 9)) = ((sg9 s : Nat) : Int) := by rw [Int.add_comm]; exact f1
  have f3 : IntKind.i64.wrap (1 + IntKind.i64.wrap (((u6 s % 9 : Nat) : Int))) = ((sg9 s : Nat) : Int) := by
    rw [show ((u6 s % 9 : Nat) : Int) = ((u6 s : Nat) : Int) % 9 by omega]; exact f2
  have f0 : ((u6 s : Nat) : Int).tmod 9 = ((u6 s : Nat) : Int) % 9 := Int.tmod_eq_emod_of_nonneg (by omega)
  have f4 : IntKind.u64.wrap (((u6 s : Nat) : Int) % 9) = ((u6 s : Nat) : Int) % 9 := by simp [IntKind.wrap, IntKind.bits, IntKind.signed]; omega
  have f5 : IntKind.i64.wrap (((u6 s : Nat) : Int) % 9) = ((u6 s : Nat) : Int) % 9 := w64 (by omega)
  have f6 : IntKind.i64.wrap (1 + ((u6 s : Nat) : Int) % 9) = ((sg9 s : Nat) : Int) := by rw [w64 (by omega)]; unfold sg9; omega
  obtain ⟨g, hg⟩ : ∃ g, sg9 s = g := ⟨_, rfl⟩
  rw [hg] at f6 hs9
  have hcod : ∀ x, cod s x = ((1 + u6 x % g : Nat) : Int) := fun x => by unfold cod; rw [hg]
  have hgu : IntKind.u64.wrap (g : Int) = (g : Int) := wrap64 (by omega)
  have hml : (l.take 120).length ≤ 120 := by simp; omega
  obtain ⟨L, hL⟩ : ∃ L, (l.take 120).length = L := ⟨_, rfl⟩
  have hL2 : ∀ k, k < L ↔ k < l.length ∧ k < 120 := fun k => by rw [← hL]; simp; omega
  refine v_enter hC [] (fun _ _ => kn_none rfl) Try.func5 rfl ok5 (Nat.le_of_ble_eq_true rfl) fun hcl hbl => ?_
  simp [wrapU]
  simp [f0, f4, f5, f6]
  refine v_loopX hC (fun (k : Nat) e T => (∃ w t, T = H ++ [.vec w ((((l.take 120).take k).map (cod s)).map ic) 1 true t] ∧ e 5 = .own H.length w) ∧ e 0 = IS kk l ∧ e 1 = i6 g ∧ e 6 = i6 k ∧ k ≤ L) (fun k => L - k) 0 ?_ ?_
  · refine G.nilT0 (s := 1) 5 hcl (Nat.le_refl _) (by omega) (by simp) ?_
    exact ⟨⟨0, true, by simp, by simp⟩, by simp, by simp, by simp, by omega⟩
  · rintro k e T ⟨⟨w, t, rfl, h5⟩, h0, h1, h6, hk⟩
    simp [h0, h6]
    by_cases hlt : k < L
    · obtain ⟨hk1, hk2⟩ := (hL2 k).1 hlt
      obtain ⟨x, hx⟩ : ∃ x, l[k]? = some x := ⟨_, List.getElem?_eq_getElem hk1⟩
      have hx2 : (l.take 120)[k]? = some x := by rw [List.getElem?_take, if_pos hk2]; exact hx
      have htk : (l.take 120).take (k + 1) = (l.take 120).take k ++ [x] := by rw [List.take_add_one, hx2]; rfl
      have hxe : l[k] = x := by rw [List.getElem?_eq_getElem hk1] at hx; exact Option.some.inj hx
      obtain ⟨z, hz⟩ : ∃ z, u6 x % g = z := ⟨_, rfl⟩
      have hzl : z < g := by rw [← hz]; exact Nat.mod_lt _ (by omega)
      have m1 : ((u6 x : Nat) : Int).tmod g = (z : Int) := by rw [Int.tmod_eq_emod_of_nonneg (by omega), ← Int.natCast_emod, hz]
      have m2 : IntKind.u64.wrap (z : Int) = (z : Int) := wrap64 (by omega)
      have m3 : IntKind.i64.wrap (z : Int) = (z : Int) := w64 (by omega)
      have m4 : IntKind.i64.wrap (1 + (z : Int)) = cod s x := by rw [hcod, hz, w64 (by omega)]; omega
      have hll : (((l.take 120).take k).map (cod s)).length ≤ 120 := by simp; omega
      simp [h0, h1, h5, h6, hk1, hx, hxe, wrapU, hgu, m1, m2, m3, m4, show (k : Int) < 120 by omega, show ¬ g = 0 by omega, w64 (n := (k : Int) + 1) (by omega)]
      refine ⟨by simp at hll; omega, GH.refl ⟨k + 1, ⟨⟨w + 1, t, ?_, by simp⟩, by simp [h0], by simp [h1], by simp, by omega⟩, by omega⟩⟩
      rw [htk]
      simp
    · have hkL : k = L := by omega
      have htk : (l.take 120).take k = l.take 120 := by rw [hkL, ← hL, List.take_length]
      by_cases hk1 : k < l.length
      · have hk2 : ¬ k < 120 := fun h => hlt ((hL2 k).2 ⟨hk1, h⟩)
        simp [h0, h5, h6, hk1, show ¬ (k : Int) < 120 by omega, Try.results5]
        refine ⟨by omega, ?_⟩
        refine GV.ans hcl ?_
        simp [textL]
        exact .inl (List.take_of_length_le (by rw [List.length_take] at hL; simp; omega)).symm
      · simp [h5, hk1, Try.results5]
        refine ⟨by omega, ?_⟩
        refine GV.ans hcl ?_
        simp [textL]
        exact .inl (List.take_of_length_le (by rw [List.length_take] at hL; simp; omega)).symm
/-- Samples whose marks' directory may be made meanwhile. -/
theorem SamV.rdy {H : Hp} {gs gr : Nat} {o : List Int} {e : Nat} {r rw b : Bool} (h : SamV H gs gr o e r rw) : SamV (rdy H gr o e rw b) gs gr o e (r || b) rw := by
  cases b with
  | false => simpa [VM.rdy] using h
  | true =>
    obtain ⟨⟨rs, hs⟩, hrow⟩ := h
    have hne : ¬ gr = gs := fun q => by
      subst q
      have h3 := hrow.1
      rw [hs] at h3
      cases r <;> simp [samC, rowX] at h3
    refine ⟨⟨rs, ?_⟩, ?_, hrow.2⟩
    · show (H.set gr _)[gs]? = _
      rw [List.getElem?_set_ne hne]; exact hs
    · show (H.set gr _)[gr]? = _
      rw [List.getElem?_set_self (get_lt hrow.1)]
      simp
theorem v_tells {H : Hp} {gs gr : Nat} {o : List Int} {e : Nat} {i : Int} {kk r rw : Bool} (ho : OrdOk o e) (hsm : o.length ≤ 1000) (hS : SamV H gs gr o e r rw) (hr : r = false → rw = true) :
    VC Try.prog prims 8 [.ptr gs 0, i6 e, IS kk o, i6 i] H fun u T => u = bo true ∧ T = rdy H gr o e rw (mkd o e i) := by
  have hR : samR H gs gr o e := ⟨r, rw, hS⟩
  have he1 := ho.e1
  have hsl : (samB o e).length < 2 ^ 62 := by
    obtain ⟨p1, p2⟩ := plc_ok ho
    obtain ⟨q1, q2⟩ := row_ok ho
    have p3 : (plcK o e o.length).length ≤ 1000 := by have := plcK_len o e o.length; have := marksK_len o e o.length; omega
    have q3 : (rowK o e (ceilD o.length e)).length ≤ 1000 := by
      rw [rowK_len]
      have : ¬ o.length < ceilD o.length e := fun h => by
        have := (ceil_lt (n := o.length) (e := e) (by omega)).2 h
        have := Nat.le_mul_of_pos_left o.length (show 0 < e by omega)
        omega
      omega
    have l1 := packBy_len p3 p2
    have l2 := packBy_len q3 q2
    have hvl := venc_length e
    have l3 := venc_length o.length
    have l4 := bytesB_len (markB o e)
    have l5 := markB_len o e
    simp only [samB, List.length_append]
    omega
  refine v_enter hC [] (fun _ _ => kn_none rfl) Try.func8 rfl ok8 (Nat.le_of_ble_eq_true rfl) fun hcl hbl => ?_
  simp
  refine CALLv.at (v_sLen H hR) fun u T hu => ?_
  obtain ⟨e1, e2⟩ := hu
  rw [e1, e2]; clear e1 e2 u T
  simp
  refine CALLv.at (v_Every H hR) fun u T hu => ?_
  obtain ⟨e1, e2⟩ := hu
  rw [e1, e2]; clear e1 e2 u T
  simp
  refine CALLv.at (v_sBytes ho hsm H hR) fun u T hu => ?_
  obtain ⟨e1, e2⟩ := hu
  rw [e1, e2]; clear e1 e2 u T
  simp
  refine (v_r22Bytes (kk := kk) ho hsm).call ?_
  simp
  refine (v_Same1 (kk := true) (km := true) (l := samB o e) (m := samB o e) hsl).call ?_
  simp
  refine CALLv.at (v_Marked (i := i) ho hS hr) fun u T hu => ?_
  obtain ⟨e1, e2⟩ := hu
  rw [e1, e2]; clear e1 e2 u T
  obtain ⟨T, hT⟩ : ∃ T, rdy H gr o e rw (mkd o e i) = T := ⟨_, rfl⟩
  have hS2 : SamV T gs gr o e (r || mkd o e i) rw := by rw [← hT]; exact hS.rdy
  have hlT : T.length = H.length := by
    rw [← hT]; unfold rdy; split <;> simp
  rw [hT]
  by_cases hi : 0 ≤ i ∧ i < o.length
  · obtain ⟨hi0, hi1⟩ := hi
    obtain ⟨k, rfl⟩ : ∃ k : Nat, i = k := ⟨i.toNat, by omega⟩
    have hk : k < o.length := by omega
    obtain ⟨x, hx⟩ : ∃ x, o[k]? = some x := ⟨_, List.getElem?_eq_getElem hk⟩
    obtain ⟨q1, q2⟩ := (isP_iff.1 ho.perm).1 x (List.mem_of_getElem? hx)
    obtain ⟨v, rfl⟩ : ∃ v : Nat, x = v := ⟨x.toNat, by omega⟩
    have hsel := sel_dec (e := e) hx
    have hgd : o.getD k 0 = (v : Int) := by rw [List.getD_eq_getElem?_getD, hx]; rfl
    have u1 : ((v : Int)).tmod e = ((v % e : Nat) : Int) := by rw [Int.tmod_eq_emod_of_nonneg (by omega)]; exact (Int.natCast_emod v e).symm
    have t1 : ((k : Int)).tmod e = ((k % e : Nat) : Int) := by rw [Int.tmod_eq_emod_of_nonneg (by omega)]; exact (Int.natCast_emod k e).symm
    have t2 : (k : Int) % e = ((k % e : Nat) : Int) := (Int.natCast_emod k e).symm
    have hxe : o[k] = (v : Int) := by rw [List.getElem?_eq_getElem hk] at hx; exact Option.some.inj hx
    have hidx := List.idxOf_lt_length_of_mem (isP_all ho.perm (v := (k : Int)) (by omega) (by omega))
    have hix : o[o.idxOf (k : Int)]'hidx = (k : Int) := List.getElem_idxOf hidx
    obtain ⟨z, hz⟩ : ∃ z, v % e = z := ⟨_, rfl⟩
    obtain ⟨d, hd⟩ : ∃ d, k % e = d := ⟨_, rfl⟩
    rw [hz] at u1 hsel
    rw [hd] at t1 t2
    have hm : mkd o e (k : Int) = decide (z = 0) := by
      unfold mkd
      rw [Int.toNat_natCast, hsel]
      simp [hk]
    have hmv : markV o e (k : Int) = if z = 0 then .tup [i6 v, bo true] else .tup [i6 0, bo false] := by
      unfold markV
      rw [hm, Int.toNat_natCast, hgd]
      by_cases h : z = 0 <;> simp [h]
    have hrv : rowV o e (k : Int) = if d = 0 then .tup [i6 (o.idxOf (k : Int) : Nat), i6 0] else .tup [i6 0, i6 7] := by
      unfold rowV
      rw [t2]
      by_cases h : d = 0
      · rw [if_pos ⟨⟨by omega, by omega⟩, by omega⟩, if_pos h]
      · rw [if_neg (fun hh => h (by have := hh.2; omega)), if_neg h]
    rw [hmv]
    by_cases hz0 : z = 0
    · simp [hz0]
      refine CALLv.at (v_sRow (p := (k : Int)) ho T ⟨_, _, hS2⟩) fun u T' hu => ?_
      obtain ⟨e1, e2⟩ := hu
      rw [e1, e2, hrv]; clear e1 e2 u T'
      by_cases hd0 : d = 0
      · simp [show ¬ (k : Int) < 0 by omega, show ¬ (o.length : Int) ≤ k by omega, hd0, hk, hxe, u1, t1, hz0, show ¬ e = 0 by omega, show ¬ o.length ≤ k by omega, hidx, hix, Try.results8]
        trace_state
        exact GV.refl ⟨rfl, rfl⟩
      · simp [show ¬ (k : Int) < 0 by omega, show ¬ (o.length : Int) ≤ k by omega, hd0, hk, hxe, u1, t1, hz0, show ¬ e = 0 by omega, show ¬ o.length ≤ k by omega, Try.results8]
        trace_state
        exact GV.refl ⟨rfl, rfl⟩
    · simp [hz0]
      refine CALLv.at (v_sRow (p := (k : Int)) ho T ⟨_, _, hS2⟩) fun u T' hu => ?_
      obtain ⟨e1, e2⟩ := hu
      rw [e1, e2, hrv]; clear e1 e2 u T'
      by_cases hd0 : d = 0
      · simp [show ¬ (k : Int) < 0 by omega, show ¬ (o.length : Int) ≤ k by omega, hd0, hk, hxe, u1, t1, hz0, show ¬ e = 0 by omega, show ¬ o.length ≤ k by omega, hidx, hix, Try.results8]
        trace_state
        exact GV.refl ⟨rfl, rfl⟩
      · simp [show ¬ (k : Int) < 0 by omega, show ¬ (o.length : Int) ≤ k by omega, hd0, hk, hxe, u1, t1, hz0, show ¬ e = 0 by omega, show ¬ o.length ≤ k by omega, Try.results8]
        trace_state
        exact GV.refl ⟨rfl, rfl⟩
  · have hm : mkd o e i = false := by unfold mkd; simp only [hi, decide_false, Bool.false_and]
    have hmv : markV o e i = .tup [i6 0, bo false] := by unfold markV; rw [hm]; rfl
    have hrv : rowV o e i = .tup [i6 0, i6 7] := by unfold rowV; rw [if_neg (fun h => hi h.1)]
    rw [hmv]
    simp
    refine CALLv.at (v_sRow (p := i) ho T ⟨_, _, hS2⟩) fun u T' hu => ?_
    obtain ⟨e1, e2⟩ := hu
    rw [e1, e2, hrv]; clear e1 e2 u T'
    by_cases h0 : i < 0
    · simp [h0, Try.results8]
      exact GV.refl ⟨rfl, rfl⟩
    · simp [h0, show (o.length : Int) ≤ i by omega, Try.results8]
      exact GV.refl ⟨rfl, rfl⟩
end Go.Proofs.Ytibejcomfjddfaa.VM
end
section
set_option maxHeartbeats 8000000
set_option linter.unusedVariables false
set_option linter.unusedSimpArgs false

/- SampleOrders. -/
namespace Go.Proofs.Ytibejcomfjddfaa.VM
open Go Go.Proofs AM
set_option maxRecDepth 100000
def exO : List Int := [4, 3, 1, 2, 0]
theorem exO_ok : OrdOk exO 2 := ⟨by omega, by omega, by decide, by decide, by decide⟩
theorem samB_len {o : List Int} {e : Nat} (ho : OrdOk o e) (hsm : o.length ≤ 1000) : (samB o e).length < 2 ^ 62 := by
  have he1 := ho.e1
  obtain ⟨p1, p2⟩ := plc_ok ho
  obtain ⟨q1, q2⟩ := row_ok ho
  have p3 : (plcK o e o.length).length ≤ 1000 := by have := plcK_len o e o.length; have := marksK_len o e o.length; omega
  have q3 : (rowK o e (ceilD o.length e)).length ≤ 1000 := by
    rw [rowK_len]
    have : ¬ o.length < ceilD o.length e := fun h => by
      have := (ceil_lt (n := o.length) (e := e) (by omega)).2 h
      have := Nat.le_mul_of_pos_left o.length (show 0 < e by omega)
      omega
    omega
  have l1 := packBy_len p3 p2
  have l2 := packBy_len q3 q2
  have hvl := venc_length e
  have l3 := venc_length o.length
  have l4 := bytesB_len (markB o e)
  have l5 := markB_len o e
  simp only [samB, List.length_append]
  omega
/-- New samples behind what stands. -/
theorem sam_new {H : Hp} {o : List Int} {e : Nat} {r : Bool} (hsm : o.length ≤ 1000) : SamV (H ++ [.mem (rowX (markB o e) r) true, .mem (samC e H.length o) true]) (H.length + 1) H.length o e r true :=
  ⟨⟨true, by simp⟩, by simp, by rw [markB_len]; omega⟩
theorem rdy_new {H : Hp} {o : List Int} {e : Nat} {r b : Bool} : rdy (H ++ [.mem (rowX (markB o e) r) true, .mem (samC e H.length o) true]) H.length o e true b = H ++ [.mem (rowX (markB o e) (r || b)) true, .mem (samC e H.length o) true] := by
  unfold rdy
  cases b <;> simp
theorem v_known22 : A 7 [] (bo true) := by
  intro H
  have m3 : markV exO 2 3 = .tup [i6 2, bo true] := rfl
  have m1 : markV exO 2 1 = .tup [i6 0, bo false] := rfl
  have r2 : rowV exO 2 2 = .tup [i6 3, i6 0] := rfl
  have hl := samB_len exO_ok (by decide)
  refine v_enter hC [] (fun _ _ => kn_none rfl) Try.func7 rfl ok7 (Nat.le_of_ble_eq_true rfl) fun hcl hbl => ?_
  simp
  refine CALLv.at (v_New (kk := true) (o := exO) (e := 2) ⟨by omega, by omega⟩ (by decide) (by decide) (by decide) H) fun u T hu => ?_
  obtain ⟨e1, e2⟩ := hu
  rw [e1, e2]; clear e1 e2 u T
  simp
  refine CALLv.at (v_Marked (i := 3) exO_ok (sam_new (by decide)) (fun _ => rfl)) fun u T hu => ?_
  obtain ⟨e1, e2⟩ := hu
  rw [e1, e2, m3, rdy_new]; clear e1 e2 u T
  simp
  refine CALLv.at (v_Marked (i := 1) exO_ok (sam_new (by decide)) (fun _ => rfl)) fun u T hu => ?_
  obtain ⟨e1, e2⟩ := hu
  rw [e1, e2, m1, rdy_new]; clear e1 e2 u T
  simp
  refine CALLv.at (v_sRow (p := 2) exO_ok _ ⟨_, _, sam_new (by decide)⟩) fun u T hu => ?_
  obtain ⟨e1, e2⟩ := hu
  rw [e1, e2, r2]; clear e1 e2 u T
  simp
  refine CALLv.at (v_sBytes exO_ok (by decide) _ ⟨_, _, sam_new (by decide)⟩) fun u T hu => ?_
  obtain ⟨e1, e2⟩ := hu
  rw [e1, e2]; clear e1 e2 u T
  simp
  refine (v_r22Bytes (kk := true) (o := exO) (e := 2) exO_ok (by decide)).call ?_
  simp
  refine (v_Same1 (kk := true) (km := true) (l := samB exO 2) (m := samB exO 2) hl).call ?_
  simp [Try.results7]
  first | (refine GV.ans hcl ?_; simp []; done) | (refine GV.ans0 ?_; simp []; done)
theorem ord_sort (l : List Int) (s : Int) {e : Nat} (h1 : 1 ≤ e) (h2 : e ≤ 64) : OrdOk (sortT (textL l s)) e := by
  have hl := text_len l s
  refine ⟨h1, h2, by rw [sortT_len]; omega, sortT_perm _, ?_⟩
  intro h
  have := congrArg List.length h
  rw [sortT_len] at this
  simp [textL] at this
theorem v_SampleOrders {kl kr : Bool} {l raw : List Int} {s every i : Int} : A 3 [IS kl l, i6 s, i6 every, i6 i, IS kr raw] (bo true) := by
  intro H
  have htl := text_len l s
  have hol : (sortT (textL l s)).length ≤ 121 := by rw [sortT_len]; exact htl
  refine v_enter hC [] (fun _ _ => kn_none rfl) Try.func3 rfl ok3 (Nat.le_of_ble_eq_true rfl) fun hcl hbl => ?_
  simp
  refine (v_Text15 (kk := kl) (l := l) (s := s)).call ?_
  simp
  refine (v_Sort15 (kk := true) (text_ok l s) (by omega)).call ?_
  simp
  by_cases hev : every < 1 ∨ 64 < every
  · refine (v_New1 (kk := true) hev).call ?_
    by_cases h1 : every < 1
    · simp [h1]
      refine v_known22.call ?_
      simp [Try.results3]
      first | (refine GV.ans hcl ?_; simp []; done) | (refine GV.ans0 ?_; simp []; done)
    · simp [h1, show (64 : Int) < every by omega]
      refine v_known22.call ?_
      simp [Try.results3]
      first | (refine GV.ans hcl ?_; simp []; done) | (refine GV.ans0 ?_; simp []; done)
  · obtain ⟨e, rfl⟩ : ∃ e : Nat, every = e := ⟨every.toNat, by omega⟩
    have ho := ord_sort l s (e := e) (by omega) (by omega)
    obtain ⟨o, hoe⟩ : ∃ o, sortT (textL l s) = o := ⟨_, rfl⟩
    rw [hoe] at ho hol
    rw [hoe]
    refine CALLv.at (v_New (kk := true) (o := o) (e := e) ⟨by omega, by omega⟩ ho.len ho.perm ho.ne H) fun u T hu => ?_
    obtain ⟨e1, e2⟩ := hu
    rw [e1, e2]; clear e1 e2 u T
    simp [show ¬ (e : Int) < 1 by omega, show ¬ (64 : Int) < (e : Int) by omega]
    refine CALLv.at (v_tells (kk := true) (i := i) ho (by omega) (sam_new (by omega)) (fun _ => rfl)) fun u T hu => ?_
    obtain ⟨e1, e2⟩ := hu
    rw [e1, e2, rdy_new]; clear e1 e2 u T
    obtain ⟨X, hX⟩ : ∃ X : Hp, [Ob.mem (rowX (markB o e) (false || mkd o e i)) true, Ob.mem (samC e H.length o) true] = X := ⟨_, rfl⟩
    rw [hX]
    obtain ⟨rw', hrw'⟩ : ∃ raw', raw.take 60 = raw' := ⟨_, rfl⟩
    have hrl : rw'.length ≤ 60 := by rw [← hrw']; simp; omega
    have hbd : ∃ n : Nat, (if (60 : Int) < (raw.length : Int) then (60 : Int) else (raw.length : Int)) = (n : Int) ∧ n ≤ raw.length ∧ raw.take n = rw' := by
      by_cases h : 60 < raw.length
      · exact ⟨60, by rw [if_pos (by omega)]; rfl, by omega, hrw'⟩
      · exact ⟨raw.length, by rw [if_neg (by omega)], by omega, by rw [← hrw', List.take_length, List.take_of_length_le (by omega)]⟩
    obtain ⟨n, hn1, hn2, hn3⟩ := hbd
    have hbnd : bounds raw.length raw.length none (some (n : Int)) none = some (0, n, raw.length) := by simp [bounds, hn2]
    have hn1' : (if 60 < raw.length then (60 : Int) else (raw.length : Int)) = (n : Int) := by
      rw [← hn1]
      by_cases h : 60 < raw.length
      · rw [if_pos h, if_pos (by omega)]
      · rw [if_neg h, if_neg (by omega)]
    simp [hn1, hn1', hbnd]
    rw [← List.map_take, hn3]
    obtain ⟨U, hU⟩ : ∃ U, H ++ X = U := ⟨_, rfl⟩
    rw [hU]
    by_cases hp : isP rw' = true ∧ rw' ≠ []
    · obtain ⟨hp1, hp2⟩ := hp
      have ho2 : OrdOk rw' e := ⟨by omega, by omega, by omega, hp1, hp2⟩
      refine CALLv.at (v_New (kk := kr) (o := rw') (e := e) ⟨by omega, by omega⟩ ho2.len ho2.perm ho2.ne U) fun u T hu => ?_
      obtain ⟨e1, e2⟩ := hu
      rw [e1, e2]; clear e1 e2 u T
      simp
      refine (v_rTurned (kk := kr) (l := rw') (by omega)).call ?_
      simp [turnR, hp1, hp2]
      refine v_known22.call ?_
      simp
      refine CALLv.at (v_tells (kk := kr) (i := i) ho2 (by omega) (sam_new (by omega)) (fun _ => rfl)) fun u T hu => ?_
      obtain ⟨e1, e2⟩ := hu
      rw [e1, e2, rdy_new]; clear e1 e2 u T
      simp [Try.results3]
      rw [← hU, List.append_assoc]
      refine GV.ans hcl ?_
      simp
    · have hp' : isP rw' = false ∨ rw' = [] := by
        rcases hb : isP rw' with _ | _
        · exact .inl rfl
        · right
          rcases Decidable.em (rw' = []) with h | h
          · exact h
          · exact absurd ⟨hb, h⟩ hp
      refine (v_New3 (kk := kr) (o := rw') (e := (e : Int)) ⟨by omega, by omega⟩ (by omega) hp').call ?_
      simp
      refine (v_rTurned (kk := kr) (l := rw') (by omega)).call ?_
      rcases hb : isP rw' with _ | _
      · simp [turnR, hb]
        refine v_known22.call ?_
        simp [Try.results3]
        rw [← hU]
        refine GV.ans hcl ?_
        simp
      · have hr0 : rw' = [] := hp'.resolve_left (by rw [hb]; simp)
        subst hr0
        simp [turnR, hb]
        refine v_known22.call ?_
        simp [Try.results3]
        rw [← hU]
        refine GV.ans hcl ?_
        simp
end Go.Proofs.Ytibejcomfjddfaa.VM
end
section
set_option maxHeartbeats 8000000
set_option linter.unusedVariables false
set_option linter.unusedSimpArgs false

/- SampleOrders at the arguments as they read. -/
namespace Go.Proofs.Ytibejcomfjddfaa
open Go Go.RowKit AM VM B

theorem sampleOrders_row {H : Type} {enc : TypeId × Value → H} (A0 : Option Addr) (n0 c0 : Nat) (a1 a2 a3 : Int) (A4 : Option Addr) (n4 c4 : Nat) (w : World) (h0 : Rd enc Try.prog w 22 [.slice A0 n0 c0]) (h1 : (Lit.int .i64 a1).wf = true) (h2 : (Lit.int .i64 a2).wf = true) (h3 : (Lit.int .i64 a3).wf = true) (h4 : Rd enc Try.prog w 22 [.slice A4 n4 c4]) :
    Calls Try.prog 3 #[.slice A0 n0 c0, .int .i64 a1, .int .i64 a2, .int .i64 a3, .slice A4 n4 c4] w fun e w' => e = .returned (.bool true) ∧ Below w.heap.size w w' := by
  obtain ⟨kk, l, hl, ha⟩ := arg_ints h0
  obtain ⟨kr, raw, hr, hb⟩ := arg_ints h4
  exact (v_SampleOrders (kl := kk) (kr := kr) (l := l) (raw := raw) (s := a1) (every := a2) (i := a3)).law mixed prims_ok ⟨_, _, Try.func3, rfl, by decide +kernel⟩ ⟨_, _, rfl, ha, _, _, rfl, (CellV.lit rfl).arg, _, _, rfl, (CellV.lit rfl).arg, _, _, rfl, (CellV.lit rfl).arg, _, _, rfl, hb, rfl⟩
end Go.Proofs.Ytibejcomfjddfaa
end
