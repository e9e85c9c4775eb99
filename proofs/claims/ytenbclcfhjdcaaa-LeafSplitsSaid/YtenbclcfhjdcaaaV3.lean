/- leaf: To and Of. -/
import Derived.Test.YtenbclcfhjdcaaaV2
namespace Go.Proofs.Ytenbclcfhjdcaaa.VM
open Go Go.Proofs AM B
theorem take_ec {l : List Ent} {k : Nat} (h : k < l.length) : (l.map ec).take (k + 1) = (l.map ec).take k ++ [ec (ent l k)] := by
  rw [← List.map_take, ent_eq l k h, List.take_succ_eq_append_getElem h, List.map_append, List.map_take]; rfl
set_option maxRecDepth 100000
theorem v_To {kk : Bool} {l : List Ent} {lf : Bool} (hl : l.length < 2 ^ 63) : A 20 [.agg [bo lf, ES kk l]] (.agg [bo lf, ES true (l.take 18)]) := by
  intro H
  refine v_enter hC [] (fun _ _ => kn_none rfl) Try.func20 rfl ok20 (Nat.le_of_ble_eq_true rfl) fun hcl hbl => ?_
  simp
  refine v_loopX hC (fun (k : Nat) e T => ∃ w t, T = H ++ [.mem [bo lf, ES kk l] true, .mem [bo false, .lit (.slice none 0 0)] true, .mem [bo lf, .own (H.length + 3) w] true, .vec w ((l.map ec).take k) 3 true t] ∧
    e 1 = .ptr H.length 0 ∧ e 2 = .ptr (H.length + 1) 0 ∧ e 3 = .ptr (H.length + 2) 0 ∧ e 4 = i6 k ∧ k ≤ l.length ∧ k ≤ 18) (fun k => 18 - k) 0 ?_ ?_
  · refine G.nils (Z' := [.mem [bo lf, ES kk l] true, .mem [bo false, .lit (.slice none 0 0)] true, .mem [bo lf, .own (H.length + 3) 0] true]) [3] hcl (by simp) (by simp) ?_ ?_
    · simp
    · exact ⟨0, true, by simp, by simp, by simp, by simp, by simp, by simp, by simp⟩
  · rintro k e T ⟨w, t, rfl, h1, h2, h3, h4, hk, hk18⟩
    simp [h1, h2, h3, h4]
    have fin : ∀ m, l.take 18 = l.take m → List.take m (List.map ec l) = List.map ec (List.take 18 l) := fun m h => by rw [h, List.map_take]
    refine GuardR.dec (fun hkl => ?_) (fun hkl => ?_)
    · simp [h4, hkl]
      refine CondV.dec (fun hk8 => ?_) (fun hk8 => ?_)
      · have hk8 : k < 18 := by omega
        simp
        refine v_draw (ord := [0, 1, 2, 3, 4, 5, 6, 7, 8, 9, 10, 11]) (m := 9) (by decide +kernel) ?_
        simp [h1, h2, h3, h4, getE hkl]
        refine (v_entry _ _ _).call ?_
        simp
        refine ⟨by omega, ?_⟩
        simp [h1, h2, h3, h4, w64 (n := (k : Int) + 1) (by omega)]
        refine GH.refl ⟨k + 1, ⟨w + 1, t, ?_, ?_, ?_, ?_, ?_, hkl, hk8⟩, by omega⟩ <;> simp [h1, h2, h3, take_ec hkl]
      · have e1 := fin k (by rw [show k = 18 by omega])
        simp [h1, h2, h3, h4, Try.results20]
        first | (refine GV.ans hcl ?_; simp [e1]; done) | (refine GV.ans0 ?_; simp [e1]; done)
    · have e1 := fin k (by rw [List.take_of_length_le (by omega), List.take_of_length_le (by omega)])
      simp [hkl]
      simp [h1, h2, h3, h4, Try.results20]
      first | (refine GV.ans hcl ?_; simp [e1]; done) | (refine GV.ans0 ?_; simp [e1]; done)
theorem v_Of {kk : Bool} {l : List Ent} {lf : Bool} (hl : l.length ≤ 100000) : A 21 [.agg [bo lf, ES kk l]] (.agg [bo lf, ES true l]) := by
  intro H
  refine v_enter hC [] (fun _ _ => kn_none rfl) Try.func21 rfl ok21 (Nat.le_of_ble_eq_true rfl) fun hcl hbl => ?_
  simp
  refine v_loopX hC (fun (k : Nat) e T => ∃ w t, T = H ++ [.mem [bo lf, ES kk l] true, .mem [bo false, .lit (.slice none 0 0)] true, .mem [bo lf, .own (H.length + 3) w] true, .vec w ((l.map ec).take k) 3 true t] ∧
    e 1 = .ptr H.length 0 ∧ e 2 = .ptr (H.length + 1) 0 ∧ e 3 = .ptr (H.length + 2) 0 ∧ e 4 = i6 k ∧ k ≤ l.length) (fun k => l.length - k) 0 ?_ ?_
  · refine G.nils (Z' := [.mem [bo lf, ES kk l] true, .mem [bo false, .lit (.slice none 0 0)] true, .mem [bo lf, .own (H.length + 3) 0] true]) [3] hcl (by simp) (by simp) ?_ ?_
    · simp
    · exact ⟨0, true, by simp, by simp, by simp, by simp, by simp, by simp⟩
  · rintro k e T ⟨w, t, rfl, h1, h2, h3, h4, hk⟩
    simp [h1, h2, h3, h4]
    refine CondV.dec (fun hkl => ?_) (fun hkl => ?_)
    · simp
      refine v_draw (ord := [0, 1, 2, 3, 4, 5, 6, 7, 8, 9, 10, 11, 12, 13, 14, 15, 16, 17, 18, 19, 20, 21, 22, 23, 24, 25, 26, 27]) (m := 25) (by decide +kernel) ?_
      simp [h1, h2, h3, h4, getE hkl]
      refine ⟨by omega, ?_⟩
      simp [h1, h2, h3, h4, w64 (n := (k : Int) + 1) (by omega)]
      refine GH.refl ⟨k + 1, ⟨w + 1, t, ?_, ?_, ?_, ?_, ?_, hkl⟩, by omega⟩ <;> simp [h1, h2, h3, take_ec hkl]
    · have e1 : List.take k (List.map ec l) = List.map ec l := List.take_of_length_le (by simp; omega)
      simp [h1, h2, h3, h4, Try.results21]
      first | (refine GV.ans hcl ?_; simp [e1]; done) | (refine GV.ans0 ?_; simp [e1]; done)
end Go.Proofs.Ytenbclcfhjdcaaa.VM
