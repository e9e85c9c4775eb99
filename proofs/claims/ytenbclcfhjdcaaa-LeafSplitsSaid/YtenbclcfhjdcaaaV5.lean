/- leaf: Clone, Grow at nil, Concat. -/
import Derived.Test.YtenbclcfhjdcaaaV4
namespace Go.Proofs.Ytenbclcfhjdcaaa.VM
open Go Go.Proofs AM B
set_option maxRecDepth 100000
theorem v_Clone {kk : Bool} {l : List Ent} (hl : l.length ≤ 100000) : AO 77 [ES kk l] 3 (l.map ec) := by
  intro H
  refine v_enter hC [] (fun _ _ => kn_none rfl) Try.func77 rfl ok77 (Nat.le_of_ble_eq_true rfl) fun hcl hbl => ?_
  simp [Try.results77]
  refine ⟨⟨by omega, ?_⟩, fun h => ?_⟩
  · exact GV.own hcl (List.getElem?_concat_length ..) (Nat.le_refl _) (by simp) (PureR_map.2 (by simp)) ⟨_, _, rfl, rfl⟩
  · subst h
    exact GV.nil0 hcl (by omega) (by omega) ⟨_, _, rfl, rfl⟩
theorem v_Grow {n : Nat} (hn : n ≤ 100000000) : AO 103 [.lit (.slice none 0 0), i6 n] 3 [] := by
  intro H
  refine v_enter hC [] (fun _ _ => kn_none rfl) Try.func103 rfl ok103 (Nat.le_of_ble_eq_true rfl) fun hcl hbl => ?_
  simp
  refine CondV.dec (fun h => by omega) (fun h => ?_)
  simp [w64 (n := (n : Int)) (by omega), w64 (n := (0 : Int)) (by omega)]
  refine CondV.dec (fun h => ?_) (fun h => ?_)
  · simp [bounds, h, Try.results103]
    exact ⟨by omega, GV.own hcl (List.getElem?_concat_length ..) (Nat.le_refl _) (by simp) (by simp) ⟨_, _, rfl, rfl⟩⟩
  · simp [Try.results103]
    exact GV.nil0 hcl (by omega) (by omega) ⟨_, _, rfl, rfl⟩
/-- Lists of rows, one behind the other. -/
theorem parts {ls : List (Bool × List (List V))} {M : Nat} (hn : ∀ p ∈ ls, p.2.length ≤ M) : ∃ (S : Nat → Nat) (F : Nat → List (List V)), S 0 = 0 ∧ F 0 = [] ∧ (∀ k (h : k < ls.length), S (k + 1) = S k + ls[k].2.length ∧ F (k + 1) = F k ++ ls[k].2) ∧ (∀ k, k ≤ ls.length → S k ≤ M * k ∧ (F k).length = S k) ∧ F ls.length = (ls.map (·.2)).flatten := by
  have h1 : ∀ k (h : k < ls.length), (((ls.take (k + 1)).map (·.2)).flatten).length = (((ls.take k).map (·.2)).flatten).length + ls[k].2.length ∧ ((ls.take (k + 1)).map (·.2)).flatten = ((ls.take k).map (·.2)).flatten ++ ls[k].2 := fun k h => by
    rw [List.take_succ_eq_append_getElem h, List.map_append, List.flatten_append]
    simp only [List.map_cons, List.map_nil, List.flatten_cons, List.flatten_nil, List.append_nil, List.length_append, and_self]
  refine ⟨fun k => (((ls.take k).map (·.2)).flatten).length, fun k => ((ls.take k).map (·.2)).flatten, by simp, by simp, h1, fun k => ?_, by simp⟩
  refine fun hk => ⟨?_, rfl⟩
  induction k with
  | zero => simp
  | succ k ih =>
    have h2 := (h1 k hk).1
    have h3 := hn ls[k] (List.getElem_mem hk)
    have h4 := ih (by omega)
    dsimp only at h2 h4 ⊢
    rw [h2, Nat.mul_add]
    omega
theorem v_Concat {kk : Bool} {ls : List (Bool × List (List V))} (hs : ∀ p ∈ ls, RowsOk 3 p.2) (hp : ∀ p ∈ ls, PureR p.2) (hl : ls.length ≤ 1000) (hn : ∀ p ∈ ls, p.2.length ≤ 100000) : AO 79 [.fsl kk 1 (ls.map fun p => [.fsl p.1 3 p.2])] 3 (ls.map (·.2)).flatten := by
  intro H
  refine v_enter hC [] (fun _ _ => kn_none rfl) Try.func79 rfl ok79 (Nat.le_of_ble_eq_true rfl) fun hcl hbl => ?_
  simp
  obtain ⟨S, F, s0, f0, hk1, hk2, hF⟩ := parts hn
  rw [← hF]
  have get : ∀ {k : Nat} (h : k < ls.length), ls[k]? = some ls[k] := fun h => List.getElem?_eq_getElem h
  refine v_loopX hC (fun (k : Nat) e T => T = H ∧ e 0 = .fsl kk 1 (ls.map fun p => [.fsl p.1 3 p.2]) ∧ e 3 = i6 (S k) ∧ e 9 = e 0 ∧ e 10 = i6 ls.length ∧ e 11 = i6 k ∧ k ≤ ls.length) (fun k => ls.length - k) 0 (G.refl ?_) ?_
  · simp [s0]
  · rintro k e T ⟨rfl, h0, h3, h9, h10, h11, hk⟩
    have b1 := hk2 k hk
    simp [h0, h3, h9, h10, h11]
    refine CondV.dec (fun hlt => ?_) (fun hge => ?_)
    · have b2 := hk1 k hlt
      have b3 := hn ls[k] (List.getElem_mem hlt)
      simp [h0, h3, h9, h10, h11, get hlt, w64 (n := (S k : Int) + ls[k].2.length) (by omega)]
      refine CondV.dec (fun h => by omega) (fun h => ?_)
      simp [h0, h3, h9, h10, h11, w64 (n := (k : Int) + 1) (by omega)]
      refine GH.refl ⟨k + 1, ⟨rfl, ?_, ?_, ?_, ?_, ?_, hlt⟩, by omega⟩ <;> simp [h0, h9, h10, b2.1]
    · have hke : k = ls.length := by omega
      subst hke
      simp [h3]
      refine (v_Grow (by omega)).call fun w t => ?_
      simp [h0]
      refine v_loopX hC (fun (k : Nat) e U => ∃ w t, U = T ++ [.vec w (F k) 3 true t] ∧ e 6 = .own T.length w ∧ e 25 = .fsl kk 1 (ls.map fun p => [.fsl p.1 3 p.2]) ∧ e 26 = i6 ls.length ∧ e 27 = i6 k ∧ k ≤ ls.length) (fun k => ls.length - k) 0 (G.refl ?_) ?_
      · exact ⟨w, t, by simp [f0]⟩
      · rintro k e U ⟨w, t, rfl, h6, h25, h26, h27, hk⟩
        have b1 := hk2 k hk
        simp [h6, h25, h26, h27]
        refine CondV.dec (fun hlt => ?_) (fun hge => ?_)
        · have b2 := hk1 k hlt
          have b3 := hn ls[k] (List.getElem_mem hlt)
          simp [h6, h25, h26, h27, get hlt, hs ls[k] (List.getElem_mem hlt)]
          refine ⟨by omega, ?_⟩
          simp [h6, h25, h26, h27, w64 (n := (k : Int) + 1) (by omega)]
          refine GH.refl ⟨k + 1, ⟨w + 1, t, ?_, ?_, ?_, ?_, ?_, hlt⟩, by omega⟩ <;> simp [h25, h26, b2.2]
        · have hke : k = ls.length := by omega
          subst hke
          simp [h6, Try.results79]
          refine GV.own hcl (List.getElem?_concat_length ..) (Nat.le_refl _) ?_ ?_ ⟨_, _, rfl, rfl⟩
          · rw [hF]; intro r hr
            obtain ⟨l, hl, hr⟩ := List.mem_flatten.1 hr
            obtain ⟨p, hp, rfl⟩ := List.mem_map.1 hl
            exact hs p hp r hr
          · rw [hF]; intro r hr
            obtain ⟨l, hl, hr⟩ := List.mem_flatten.1 hr
            obtain ⟨p, hp', rfl⟩ := List.mem_map.1 hl
            exact hp p hp' r hr
end Go.Proofs.Ytenbclcfhjdcaaa.VM
