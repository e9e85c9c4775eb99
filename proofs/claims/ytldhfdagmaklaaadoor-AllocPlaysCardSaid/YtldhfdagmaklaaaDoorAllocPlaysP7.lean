/- What the proof of AllocPlays rests on, part 7 of 7. -/
import Derived.Test.YtldhfdagmaklaaaDoorAllocPlaysP6
import Derived.Test.YtldhfdagmaklaaaDoorAllocPlaysS
import Derived.Deep.Strs
section
set_option maxHeartbeats 8000000
set_option linter.unusedVariables false
set_option linter.unusedSimpArgs false

/- alloc: New. -/
namespace Go.Proofs.YtldhfdagmaklaaaDoor.VM
open Go Go.Proofs AM B
set_option maxRecDepth 100000
/-- Pages of which nothing is taken. -/
def K0 (n : Nat) : List Int := 0 :: 0 :: List.replicate (n - 2) 1
theorem K0_len {n : Nat} (h : 2 ≤ n) : (K0 n).length = n := by unfold K0; simp; omega
theorem K0_ok {n : Nat} (h : 2 ≤ n) (h2 : n ≤ 2048) : okK (K0 n) := ⟨List.replicate (n - 2) 1, rfl, by rw [K0_len h]; exact h2, fun k hk => by rw [List.eq_of_mem_replicate hk]; omega⟩
theorem K0_map {f : Int → Bool} {n : Nat} (h : 2 ≤ n) (h0 : f 0 = false) (h1 : f 1 = false) : (K0 n).map f = List.replicate n false := by
  obtain ⟨m, rfl⟩ : ∃ m, n = m + 2 := ⟨n - 2, by omega⟩
  unfold K0
  simp [h0, h1, List.replicate_succ]
theorem K0_get {f : Int → Bool} {n : Nat} (h : 2 ≤ n) (h0 : f 0 = false) (h1 : f 1 = false) (i : Nat) : f ((K0 n).getD i 0) = false := by
  rw [← map_getD h0, K0_map h h0 h1, List.getD_eq_getElem?_getD]
  by_cases hi : i < n
  · rw [List.getElem?_replicate_of_lt hi]; rfl
  · rw [List.getElem?_eq_none (by simp; omega)]; rfl
def newE (n : Int) (l : List Int) : Int := if n < 2 ∨ 2048 < n then 1 else if inK n.toNat l = false then 10 else if flipN true (List.replicate n.toNat false) l ≠ l.length then 8 else 0
def newK (n : Nat) (l : List Int) : List Int := setK (K0 n) (nn l) 2
theorem newK_len {n : Nat} {l : List Int} (h : 2 ≤ n) : (newK n l).length = n := by unfold newK; rw [setK_len, K0_len h]
theorem newK_ok {n : Nat} {l : List Int} (h : 2 ≤ n) (h2 : n ≤ 2048) (hl : inK n l = true) : okK (newK n l) := setK_ok (by omega) (K0_ok h h2) fun i hi => by
  obtain ⟨p, hp, rfl⟩ := List.mem_map.1 hi
  have := inK_iff.1 hl p hp
  omega
/-- What New made. -/
def NewR (H T : Hp) (u : V) (n : Int) (l : List Int) : Prop := (∃ X, T = H ++ X) ∧ (if newE n l = 0 then ∃ g x, u = .tup [.ptr g 0, i6 0] ∧ AW T g x (newK n.toNat l) ∧ ∀ i ∈ fp g x, H.length ≤ i else u = .tup [nilP, i6 (newE n l)])
theorem v_aNew {H : Hp} {n : Int} {kk : Bool} {l : List Int} (hl : l.length < 2 ^ 40) : VC Tryd.prog prims 7 [i6 n, IS kk l] H fun u T => NewR H T u n l := by
  refine v_enter hC [] (fun _ _ => kn_none rfl) Tryd.func7 rfl ok7 (Nat.le_of_ble_eq_true rfl) fun hcl hbl => ?_
  by_cases h0 : n < 2
  · have e : newE n l = 1 := by unfold newE; rw [if_pos (.inl h0)]
    simp [h0, Tryd.results7]
    exact GV.refl ⟨⟨[], by simp⟩, by rw [if_neg (by rw [e]; omega), e]; rfl⟩
  by_cases h1 : 2048 < n
  · have e : newE n l = 1 := by unfold newE; rw [if_pos (.inr h1)]
    simp [h0, h1, Tryd.results7]
    exact GV.refl ⟨⟨[], by simp⟩, by rw [if_neg (by rw [e]; omega), e]; rfl⟩
  obtain ⟨m, rfl⟩ : ∃ m : Nat, n = m := ⟨n.toNat, by omega⟩
  have hm2 : 2 ≤ m := by omega
  have hmt : ((m : Int)).toNat = m := by omega
  have hE : newE m l = if inK m l = false then 10 else if flipN true (List.replicate m false) l ≠ l.length then 8 else 0 := by unfold newE; rw [if_neg (by omega), hmt]
  simp [h0, h1]
  refine (v_empty (n := m) (by omega) (by omega)).call fun w1 t1 => ?_
  obtain ⟨U1, hU1⟩ : ∃ U1, H ++ setO H.length w1 t1 (List.replicate m false) = U1 := ⟨_, rfl⟩
  have l1 : U1.length = H.length + 2 := by rw [← hU1, List.length_append, setO_len]
  have s1 : SetW U1 H.length (H.length + 1) w1 t1 (List.replicate m false) := by rw [← hU1]; exact setO_v (by simp; omega)
  rw [hU1]
  simp
  refine (v_empty (n := m) (by omega) (by omega)).call fun w2 t2 => ?_
  obtain ⟨U2, hU2⟩ : ∃ U2, U1 ++ setO U1.length w2 t2 (List.replicate m false) = U2 := ⟨_, rfl⟩
  have l2 : U2.length = U1.length + 2 := by rw [← hU2, List.length_append, setO_len]
  have s2 : SetW U2 U1.length (U1.length + 1) w2 t2 (List.replicate m false) := by rw [← hU2]; exact setO_v (by simp; omega)
  rw [hU2]
  simp
  refine (v_empty (n := m) (by omega) (by omega)).call fun w3 t3 => ?_
  obtain ⟨U3, hU3⟩ : ∃ U3, U2 ++ setO U2.length w3 t3 (List.replicate m false) = U3 := ⟨_, rfl⟩
  have l3 : U3.length = U2.length + 2 := by rw [← hU3, List.length_append, setO_len]
  have s3 : SetW U3 U2.length (U2.length + 1) w3 t3 (List.replicate m false) := by rw [← hU3]; exact setO_v (by simp; omega)
  rw [hU3]
  simp
  obtain ⟨U4, hU4⟩ : ∃ U4, U3 ++ [Ob.mem [i6 m, .ptr H.length 0, .ptr U1.length 0, .ptr U2.length 0] true] = U4 := ⟨_, rfl⟩
  have l4 : U4.length = U3.length + 1 := by rw [← hU4]; simp
  obtain ⟨X4, hX4⟩ : ∃ X4, U4 = H ++ X4 := ⟨_, by rw [← hU4, ← hU3, ← hU2, ← hU1, List.append_assoc, List.append_assoc, List.append_assoc]⟩
  have hA : AW U4 U3.length ⟨H.length, H.length + 1, w1, t1, U1.length, U1.length + 1, w2, t2, U2.length, U2.length + 1, w3, t3⟩ (K0 m) := by
    refine ⟨by rw [← hU4, K0_len hm2]; simp, ?_, ?_, ?_, by simp only; omega, by simp only; omega, by simp only; omega⟩
    · rw [K0_map hm2 rfl rfl, ← hU4, ← hU3, ← hU2]; exact s1.app.app.app
    · rw [K0_map hm2 rfl rfl, ← hU4, ← hU3]; exact s2.app.app
    · rw [K0_map hm2 rfl rfl, ← hU4]; exact s3.app
  simp only [i6] at hU4
  rw [hU4]
  have hin' : (K0 m).length = m := K0_len hm2
  refine CALLv.at (v_within (kk := kk) (l := l) (by omega) _ hA.v) fun u T hu => ?_
  obtain ⟨e1, e2⟩ := hu
  rw [hin'] at e1
  subst e1; subst e2
  cases hin : inK m l with
  | false =>
    have e : newE m l = 10 := by rw [hE, if_pos hin]
    simp [Tryd.results7]
    exact GV.refl ⟨⟨X4, hX4⟩, by rw [if_neg (by rw [e]; omega), e]; rfl⟩
  | true =>
    have hE2 : newE m l = if flipN true (List.replicate m false) l ≠ l.length then 8 else 0 := by rw [hE, if_neg (by simp [hin])]
    have hll := inK_iff.1 hin
    simp [hA.ob]
    refine CALLv.at (v_Add (kk := kk) (m := (K0 m).map isC) (l := l) (g := H.length) (gw := H.length + 1) (v := w1) (t := t1) hA.c (by omega)) fun u T hu => ?_
    obtain ⟨e1, e2⟩ := hu
    have hc : flipM true ((K0 m).map isC) l = (newK m l).map isC := by
      have := flipM_setK (f := isC) (v := 2) (l := nn l) (K := K0 m) fun i hi => by
        obtain ⟨p, hp, rfl⟩ := List.mem_map.1 hi
        have := hll p hp
        rw [K0_len hm2]; omega
      rw [is_nn fun p hp => by have := hll p hp; omega] at this
      exact this
    have hA2 : AW T U3.length ⟨H.length, H.length + 1, w1, t1, U1.length, U1.length + 1, w2, t2, U2.length, U2.length + 1, w3, t3⟩ (newK m l) := by
      rw [e2, hc]
      exact hA.putC (K' := newK m l) (by rw [newK_len hm2, K0_len hm2]) (setK_same rfl fun i _ => K0_get hm2 rfl rfl i) (setK_same rfl fun i _ => K0_get hm2 rfl rfl i)
    obtain ⟨X5, hX5⟩ : ∃ X5, T = H ++ X5 := ⟨_, by rw [e2, hX4]; unfold putW; rw [List.set_append_right _ _ (by omega)]⟩
    rw [K0_map hm2 rfl rfl] at e1
    clear e2
    subst e1
    by_cases hn : flipN true (List.replicate m false) l ≠ l.length
    · have e : newE m l = 8 := by rw [hE2, if_pos hn]
      have hn' : ¬ ((flipN true (List.replicate m false) l : Nat) : Int) = l.length := by omega
      have hd : decide (((flipN true (List.replicate m false) l : Nat) : Int) = l.length) = false := decide_eq_false hn'
      simp [hd, Tryd.results7]
      exact GV.refl ⟨⟨X5, hX5⟩, by rw [if_neg (by rw [e]; omega), e]; rfl⟩
    · have e : newE m l = 0 := by rw [hE2, if_neg hn]
      have hn' : flipN true (List.replicate m false) l = l.length := by simpa using hn
      have hd : decide (((flipN true (List.replicate m false) l : Nat) : Int) = l.length) = true := decide_eq_true (by omega)
      simp [hd, Tryd.results7]
      refine GV.refl ⟨⟨X5, hX5⟩, ?_⟩
      rw [if_pos e]
      refine ⟨_, _, rfl, hA2, fun i hi => ?_⟩
      simp only [fp, List.mem_cons, List.not_mem_nil, or_false] at hi
      omega
end Go.Proofs.YtldhfdagmaklaaaDoor.VM
end
section
set_option maxHeartbeats 8000000
set_option linter.unusedVariables false
set_option linter.unusedSimpArgs false

/- alloc: the law's known; what a nil allocator answers; law AllocNil. -/
namespace Go.Proofs.YtldhfdagmaklaaaDoor.VM
open Go Go.Proofs AM B
set_option maxRecDepth 100000
theorem pre_fr {H T U : Hp} {l : List Nat} (h : ∃ X, T = H ++ X) (hf : FrA T U l) (hl : ∀ i ∈ l, H.length ≤ i) : ∃ X, U = H ++ X := by
  obtain ⟨X, rfl⟩ := h
  refine ⟨U.drop H.length, ?_⟩
  have e : U.take H.length = H := by
    apply List.ext_getElem?
    intro i
    by_cases hi : i < H.length
    · rw [List.getElem?_take, if_pos hi, hf.2 i (by rw [List.length_append]; omega) (fun hm => by have := hl i hm; omega), List.getElem?_append_left hi]
    · rw [List.getElem?_eq_none (by rw [List.length_take]; omega), List.getElem?_eq_none (by omega)]
  conv => lhs; rw [← List.take_append_drop H.length U, e]
theorem NewF.ge {H : Hp} {g : Nat} {x x' : Ax} {n : Nat} (h : NewF H g x x') (hx : ∀ i ∈ fp g x, n ≤ i) (hn : n ≤ H.length) : ∀ i ∈ fp g x', n ≤ i := fun i hi => (h i hi).elim (hx i) fun h => Nat.le_trans hn h
theorem v_known7 : A 8 [] (bo true) := by
  intro H
  refine v_enter hC [] (fun _ _ => kn_none rfl) Tryd.func8 rfl ok8 (Nat.le_of_ble_eq_true rfl) fun hcl hbl => ?_
  simp
  refine CALLv.at (v_aNew (n := 6) (kk := true) (l := [2, 3]) (by simp)) fun u T1 hu => ?_
  obtain ⟨hp1, hu⟩ := hu
  have q1 : newE 6 [2, 3] = 0 := by decide
  rw [if_pos q1] at hu
  obtain ⟨g, x, e1, hA1, hx1⟩ := hu
  have q2 : newK (6 : Int).toNat [2, 3] = [0, 0, 2, 2, 1, 1] := by decide
  rw [q2] at hA1
  have k1 : okK [0, 0, 2, 2, 1, 1] := ⟨_, rfl, by decide, by decide⟩
  subst e1
  simp
  refine CALLv.at (v_Take (n := 1) hA1 k1) fun u T2 hu => ?_
  obtain ⟨e1, hM2⟩ := hu
  have q3 : takeL [0, 0, 2, 2, 1, 1] 1 = [4] := by decide
  have q4 : takeE [0, 0, 2, 2, 1, 1] 1 = 0 := by decide
  have q5 : takeK [0, 0, 2, 2, 1, 1] 1 = [0, 0, 2, 2, 3, 1] := by decide
  rw [q3, q4] at e1
  rw [q5] at hM2
  have k2 : okK [0, 0, 2, 2, 3, 1] := ⟨_, rfl, by decide, by decide⟩
  have hp2 := pre_fr hp1 hM2.fr hx1
  subst e1
  simp
  refine CALLv.at (v_Give (kk := true) (l := [2]) hM2.aw k2 (by simp)) fun u T3 hu => ?_
  obtain ⟨e1, hM3⟩ := hu
  have q6 : giveE [0, 0, 2, 2, 3, 1] [2] = 0 := by decide
  have q7 : giveK [0, 0, 2, 2, 3, 1] [2] = [0, 0, 4, 2, 3, 1] := by decide
  rw [q6] at e1
  rw [q7] at hM3
  have k3 : okK [0, 0, 4, 2, 3, 1] := ⟨_, rfl, by decide, by decide⟩
  have hp3 := pre_fr hp2 hM3.fr hx1
  subst e1
  simp
  refine CALLv.at (v_Commit hM3.aw k3) fun u T4 hu => ?_
  obtain ⟨e1, x', hM4⟩ := hu
  have q8 : allN (List.map isP [0, 0, 4, 2, 3, 1]) = [2] := by decide
  have q9 : commitK [0, 0, 4, 2, 3, 1] = [0, 0, 1, 2, 2, 1] := by decide
  rw [q8] at e1
  rw [q9] at hM4
  have k4 : okK [0, 0, 1, 2, 2, 1] := ⟨_, rfl, by decide, by decide⟩
  have hp4 := pre_fr hp3 hM4.fr hx1
  subst e1
  simp
  refine (v_SameI (kk := true) (km := true) (l := is_ [4]) (m := [4]) (by simp [is_])).callU [IS true (is_ [4]), IS true [4]] (by simp [is_]) ?_
  simp [is_]
  refine (v_SameI (kk := true) (km := true) (l := is_ [2]) (m := [2]) (by simp [is_])).callU [IS true (is_ [2]), IS true [2]] (by simp [is_]) ?_
  simp [is_]
  refine (v_Kind (p := 2) k4).call hM4.aw.v ?_
  have q10 : kindK [0, 0, 1, 2, 2, 1] 2 = 1 := by decide
  simp [q10, Tryd.results8]
  obtain ⟨X, rfl⟩ := hp4
  first | (refine GV.ans hcl ?_; simp []; done) | (refine GV.ans0 ?_; simp []; done)
theorem v_Take0 {n : Int} : A 10 [nilP, i6 n] (.tup [.lit (.slice none 0 0), i6 11]) := by
  intro H
  refine v_enter hC [] (fun _ _ => kn_none rfl) Tryd.func10 rfl ok10 (Nat.le_of_ble_eq_true rfl) fun hcl hbl => ?_
  simp [nilP, Tryd.results10]
  first | (refine GV.ans hcl ?_; simp []; done) | (refine GV.ans0 ?_; simp []; done)
theorem v_Sets0 : A 9 [nilP] (.tup [nilP, nilP, nilP]) := by
  intro H
  refine v_enter hC [] (fun _ _ => kn_none rfl) Tryd.func9 rfl ok9 (Nat.le_of_ble_eq_true rfl) fun hcl hbl => ?_
  simp [nilP, Tryd.results9]
  first | (refine GV.ans hcl ?_; simp []; done) | (refine GV.ans0 ?_; simp []; done)
theorem v_Give0 {kk : Bool} {l : List Int} : A 12 [nilP, IS kk l] (i6 11) := by
  intro H
  refine v_enter hC [] (fun _ _ => kn_none rfl) Tryd.func12 rfl ok12 (Nat.le_of_ble_eq_true rfl) fun hcl hbl => ?_
  simp [nilP, Tryd.results12]
  first | (refine GV.ans hcl ?_; simp []; done) | (refine GV.ans0 ?_; simp []; done)
theorem v_Adopt0 {kk : Bool} {l : List Int} : A 15 [nilP, IS kk l] (i6 11) := by
  intro H
  refine v_enter hC [] (fun _ _ => kn_none rfl) Tryd.func15 rfl ok15 (Nat.le_of_ble_eq_true rfl) fun hcl hbl => ?_
  simp [nilP, Tryd.results15]
  first | (refine GV.ans hcl ?_; simp []; done) | (refine GV.ans0 ?_; simp []; done)
theorem v_Commit0 : A 13 [nilP] (.lit (.slice none 0 0)) := by
  intro H
  refine v_enter hC [] (fun _ _ => kn_none rfl) Tryd.func13 rfl ok13 (Nat.le_of_ble_eq_true rfl) fun hcl hbl => ?_
  simp [nilP, Tryd.results13]
  first | (refine GV.ans hcl ?_; simp []; done) | (refine GV.ans0 ?_; simp []; done)
theorem v_Abort0 : A 14 [nilP] (.lit (.slice none 0 0)) := by
  intro H
  refine v_enter hC [] (fun _ _ => kn_none rfl) Tryd.func14 rfl ok14 (Nat.le_of_ble_eq_true rfl) fun hcl hbl => ?_
  simp [nilP, Tryd.results14]
  first | (refine GV.ans hcl ?_; simp []; done) | (refine GV.ans0 ?_; simp []; done)
theorem v_aFree0 : A 16 [nilP] (i6 0) := by
  intro H
  refine v_enter hC [] (fun _ _ => kn_none rfl) Tryd.func16 rfl ok16 (Nat.le_of_ble_eq_true rfl) fun hcl hbl => ?_
  simp [nilP, Tryd.results16]
  first | (refine GV.ans hcl ?_; simp []; done) | (refine GV.ans0 ?_; simp []; done)
theorem v_Kind0 {n : Int} : A 26 [nilP, i6 n] (i6 5) := by
  intro H
  refine v_enter hC [] (fun _ _ => kn_none rfl) Tryd.func26 rfl ok26 (Nat.le_of_ble_eq_true rfl) fun hcl hbl => ?_
  simp [nilP, Tryd.results26]
  first | (refine GV.ans hcl ?_; simp []; done) | (refine GV.ans0 ?_; simp []; done)
theorem v_Pages0 : A 27 [nilP] (i6 0) := by
  intro H
  refine v_enter hC [] (fun _ _ => kn_none rfl) Tryd.func27 rfl ok27 (Nat.le_of_ble_eq_true rfl) fun hcl hbl => ?_
  simp [nilP, Tryd.results27]
  first | (refine GV.ans hcl ?_; simp []; done) | (refine GV.ans0 ?_; simp []; done)
theorem v_AllocNil {n : Int} {kk : Bool} {l : List Int} : A 6 [i6 n, IS kk l] (bo true) := by
  intro H
  refine v_enter hC [] (fun _ _ => kn_none rfl) Tryd.func6 rfl ok6 (Nat.le_of_ble_eq_true rfl) fun hcl hbl => ?_
  simp
  refine (v_Take0 (n := n)).call ?_
  simp
  refine v_Sets0.call ?_
  simp [nilP]
  refine v_known7.call ?_
  simp
  refine (v_Give0 (kk := kk) (l := l)).call ?_
  simp
  refine (v_Adopt0 (kk := kk) (l := l)).call ?_
  simp
  refine v_Commit0.call ?_
  simp
  refine v_Abort0.call ?_
  simp
  refine v_aFree0.call ?_
  simp
  refine (v_Kind0 (n := n)).call ?_
  simp
  refine v_Pages0.call ?_
  simp
  refine v_aSameN.call ?_
  simp [Tryd.results6]
  first | (refine GV.ans hcl ?_; simp []; done) | (refine GV.ans0 ?_; simp []; done)
end Go.Proofs.YtldhfdagmaklaaaDoor.VM
end
section
set_option maxHeartbeats 8000000
set_option linter.unusedVariables false
set_option linter.unusedSimpArgs false

/- Law AllocAborts. -/
namespace Go.Proofs.YtldhfdagmaklaaaDoor.VM
open Go Go.Proofs AM B
set_option maxRecDepth 100000
/-- An act. -/
structure Ac where
  k : Int
  n : Int
  kk : Bool
  l : List Int
def acK (a : Ac) : List V := [i6 a.k, i6 a.n, IS a.kk a.l]
attribute [simp] acK
@[simp] def AS (kl : Bool) (ls : List Ac) : V := .fsl kl 3 (ls.map acK)
theorem setK_sameG {β : Type} {f : Int → β} {v : Int} : ∀ {l : List Nat} {K : List Int}, (∀ i ∈ l, i < K.length ∧ f (K.getD i 0) = f v) → (setK K l v).map f = K.map f
  | [], K, _ => rfl
  | i :: l, K, h => by
    show (setK (K.set i v) l v).map f = _
    have e : (K.set i v).map f = K.map f := by
      rw [List.map_set]
      apply List.ext_getElem
      · simp
      · intro j h1 h2
        rw [List.getElem_set]
        split
        · rename_i hj; subst hj
          have := (h i (by simp)).2
          simp only [List.length_map] at h2
          rw [List.getD_eq_getElem?_getD, List.getElem?_eq_getElem h2] at this
          simp only [List.getElem_map]
          exact this.symm
        · rfl
    rw [setK_sameG (K := K.set i v) fun j hj => ?_, e]
    refine ⟨by rw [List.length_set]; exact (h j (by simp [hj])).1, ?_⟩
    rw [getD_set]
    split
    · rfl
    · exact (h j (by simp [hj])).2
theorem abort_take {K : List Int} {n : Int} : abortK (takeK K n) = abortK K := setK_sameG fun i hi => ⟨(takeL_lt hi).1, by rw [(takeL_lt hi).2]; rfl⟩
theorem abort_adopt {K : List Int} {l : List Int} : abortK (adoptK K l) = abortK K := by
  unfold adoptK
  split
  · rename_i h
    obtain ⟨h1, _, h3⟩ := adopt_in h
    refine setK_sameG fun i hi => ?_
    obtain ⟨p, hp, rfl⟩ := List.mem_map.1 hi
    have := h1 p hp
    exact ⟨by omega, by rw [h3 p hp]; rfl⟩
  · rfl
theorem abort_give1 {K : List Int} {p : Int} (hp : p.toNat < K.length) (hk : K.getD p.toNat 0 = 2 ∨ K.getD p.toNat 0 = 3) : abortK (give1 K p) = abortK K := by
  have := setK_sameG (f := fun k => if k = 3 then (1 : Int) else if k = 4 then 2 else k) (v := if K.getD p.toNat 0 = 3 then 1 else 4) (l := [p.toNat]) (K := K) fun i hi => by
    simp only [List.mem_singleton] at hi
    subst hi
    refine ⟨hp, ?_⟩
    rcases hk with h | h <;> rw [h] <;> rfl
  exact this
theorem abort_giveF : ∀ {l : List Int} {K : List Int}, l.Nodup → (∀ p ∈ l, 0 ≤ p ∧ p < K.length ∧ (K.getD p.toNat 0 = 2 ∨ K.getD p.toNat 0 = 3)) → abortK (giveF K l) = abortK K
  | [], K, _, _ => rfl
  | p :: l, K, hn, h => by
    show abortK (giveF (give1 K p) l) = _
    have h1 := h p (by simp)
    rw [List.nodup_cons] at hn
    rw [abort_giveF hn.2 fun q hq => ?_, abort_give1 (by omega) h1.2.2]
    have h2 := h q (by simp [hq])
    have hne : p ≠ q := fun e => hn.1 (by rw [e]; exact hq)
    unfold give1
    rw [List.length_set, getD_set, if_neg (by omega)]
    exact h2
theorem abort_give {K : List Int} {l : List Int} (hK : okK K) : abortK (giveK K l) = abortK K := by
  unfold giveK
  split
  · rename_i h
    obtain ⟨h1, h2, h3⟩ := give_in hK h
    exact abort_giveF ((TW.twB_nodup l).1 h2) fun p hp => ⟨by have := h1 p hp; omega, (h1 p hp).2, h3 p hp⟩
  · rfl
theorem abort_new {n : Nat} {l : List Int} (h : 2 ≤ n) : abortK (newK n l) = newK n l := by
  have h3 : ∀ f : Int → Bool, f 0 = false → f 1 = false → f 2 = false → (newK n l).map f = List.replicate n false := fun f h0 h1 h2 => by
    unfold newK
    rw [setK_same h0 fun i _ => by rw [K0_get h h0 h1, h2], K0_map h h0 h1]
  have h4 := h3 isS rfl rfl rfl
  have h5 := h3 isP rfl rfl rfl
  unfold abortK
  conv => rhs; rw [← List.map_id (newK n l)]
  refine List.map_congr_left fun k hk => ?_
  have h6 : isS k = false := List.eq_of_mem_replicate (by rw [← h4]; exact List.mem_map_of_mem hk)
  have h7 : isP k = false := List.eq_of_mem_replicate (by rw [← h5]; exact List.mem_map_of_mem hk)
  unfold isS at h6
  unfold isP at h7
  rw [if_neg (by simpa using h6), if_neg (by simpa using h7)]; rfl
theorem SetW.fr {T U : Hp} {l : List Nat} {g gw v : Nat} {t : Bool} {m : List Bool} (h : SetW T g gw v t m) (hf : FrA T U l) (h1 : g ∉ l) (h2 : gw ∉ l) : SetW U g gw v t m :=
  ⟨h.1, by rw [hf.2 g (get_lt h.2.1) h1, h.2.1], by rw [hf.2 gw (get_lt h.2.2) h2, h.2.2]⟩
theorem AW.set_ne {T : Hp} {g : Nat} {x : Ax} {K : List Int} (h : AW T g x K) {a b : V} {r : Bool} {i : Nat} (hi : T[i]? = some (.mem [a, b] r)) : i ∉ fp g x := fun hm => by
  simp only [fp, List.mem_cons, List.not_mem_nil, or_false] at hm
  rcases hm with rfl | rfl | rfl | rfl
  · rw [h.ob] at hi; cases hi
  · rw [h.c.2.2] at hi; cases hi
  · rw [h.s.2.2] at hi; cases hi
  · rw [h.p.2.2] at hi; cases hi
theorem AW.keep {T U : Hp} {ga gb : Nat} {xa xb : Ax} {Ka Kb : List Int} (ha : AW T ga xa Ka) (hb : AW T gb xb Kb) (hd : ∀ i ∈ fp gb xb, i ∉ fp ga xa) (hf : FrA T U (fp ga xa)) : AW U gb xb Kb :=
  ⟨by rw [hf.2 gb (get_lt hb.ob) (hd gb (by simp [fp])), hb.ob], hb.c.fr hf (ha.set_ne hb.c.2.1) (hd _ (by simp [fp])), hb.s.fr hf (ha.set_ne hb.s.2.1) (hd _ (by simp [fp])), hb.p.fr hf (ha.set_ne hb.p.2.1) (hd _ (by simp [fp])), hb.cs, hb.cp, hb.sp⟩
theorem AW.fp_lt {T : Hp} {g : Nat} {x : Ax} {K : List Int} (h : AW T g x K) : ∀ i ∈ fp g x, i < T.length := fun i hi => by
  simp only [fp, List.mem_cons, List.not_mem_nil, or_false] at hi
  rcases hi with rfl | rfl | rfl | rfl
  · exact get_lt h.ob
  · exact get_lt h.c.2.2
  · exact get_lt h.s.2.2
  · exact get_lt h.p.2.2
theorem rem_small (k : Int) (d : Nat) (hd : 0 < d ∧ d < 100) : ∃ r : Nat, r < d ∧ (IntKind.u64.wrap k).tmod d = (r : Int) := by
  obtain ⟨n, hn⟩ : ∃ n : Nat, IntKind.u64.wrap k = (n : Int) := by
    have h0 : 0 ≤ IntKind.u64.wrap k := by
      simp only [IntKind.wrap, IntKind.bits, IntKind.signed]; simp; omega
    exact ⟨(IntKind.u64.wrap k).toNat, by omega⟩
  exact ⟨n % d, Nat.mod_lt n hd.1, by rw [hn]; rfl⟩
theorem min10 (n : Nat) : bounds n n none (some (if (10 : Int) < (n : Int) then 10 else (n : Int))) none = some (0, min n 10, n) := by
  rw [show (if (10 : Int) < (n : Int) then 10 else (n : Int)) = ((min n 10 : Nat) : Int) by split <;> omega]
  simp [bounds]; omega
set_option maxHeartbeats 8000000 in
theorem v_AllocAborts {kk kl : Bool} {fl : List Int} {ls : List Ac} (hn : fl.length < 2 ^ 63) (hls : ls.length < 2 ^ 63) (hb : ∀ a ∈ ls, a.l.length < 2 ^ 63) : A 5 [IS kk fl, AS kl ls] (bo true) := by
  intro H
  refine v_enter hC [] (fun _ _ => kn_none rfl) Tryd.func5 rfl ok5 (Nat.le_of_ble_eq_true rfl) fun hcl hbl => ?_
  simp [min10]
  rw [← List.map_take]
  obtain ⟨F, hF⟩ : ∃ F, fl.take (min fl.length 10) = F := ⟨_, rfl⟩
  have hFl : F.length ≤ 10 := by rw [← hF, List.length_take]; omega
  rw [hF]
  refine CALLv.at (v_aNew (n := 30) (kk := kk) (l := F) (by omega)) fun u T1 hu => ?_
  obtain ⟨hp1, hu1⟩ := hu
  by_cases hE : newE 30 F = 0
  · rw [if_pos hE] at hu1
    obtain ⟨ga, xa, e1, hA, hxa⟩ := hu1
    rw [show (30 : Int).toNat = 30 from rfl] at hA
    subst e1
    simp
    refine CALLv.at (v_aNew (n := 30) (kk := kk) (l := F) (by omega)) fun u T2 hu => ?_
    obtain ⟨⟨X2, hX2⟩, hu2⟩ := hu
    rw [if_pos hE] at hu2
    obtain ⟨gb, xb, e1, hB, hxb⟩ := hu2
    rw [show (30 : Int).toNat = 30 from rfl] at hB
    subst e1
    have hA2 : AW T2 ga xa (newK 30 F) := by rw [hX2]; exact hA.app
    obtain ⟨X1, hX1⟩ := hp1
    have hp2 : ∃ X, T2 = H ++ X := ⟨X1 ++ X2, by rw [hX2, hX1, List.append_assoc]⟩
    have hd : ∀ i ∈ fp gb xb, i ∉ fp ga xa := fun i hi hm => by
      have := hxb i hi
      have := hA.fp_lt i hm
      omega
    have hin : inK 30 F = true := by
      unfold newE at hE
      rw [if_neg (by omega)] at hE
      rw [show (30 : Int).toNat = 30 from rfl] at hE
      cases h : inK 30 F with
      | true => rfl
      | false => rw [h] at hE; simp at hE
    have hok : okK (newK 30 F) := newK_ok (by omega) (by omega) hin
    have hab : abortK (newK 30 F) = newK 30 F := abort_new (by omega)
    have hlb : H.length ≤ T1.length := by rw [hX1]; simp
    have hxb2 : ∀ i ∈ fp gb xb, H.length ≤ i := fun i hi => Nat.le_trans hlb (hxb i hi)
    clear hA hX2 hX1 hlb hxb
    obtain ⟨K, hK⟩ : ∃ K, newK 30 F = K := ⟨_, rfl⟩
    rw [hK] at hA2 hB hok hab
    simp
    refine v_loopX hC (fun (X : Nat × List Int) e T => (∃ Z, T = H ++ Z) ∧ (∃ xa, AW T ga xa X.2 ∧ (∀ i ∈ fp ga xa, H.length ≤ i) ∧ ∀ i ∈ fp gb xb, i ∉ fp ga xa) ∧ AW T gb xb K ∧ okK X.2 ∧ abortK X.2 = K ∧ e 1 = AS kl ls ∧ e 5 = .ptr ga 0 ∧ e 7 = .ptr gb 0 ∧ e 9 = i6 X.1 ∧ X.1 ≤ 20) (fun X => 20 - X.1) (0, K) (G.refl ?_) ?_
    · exact ⟨hp2, ⟨xa, hA2, hxa, hd⟩, hB, hok, hab, by simp, by simp, by simp, by simp, by simp⟩
    · rintro ⟨i, J⟩ e T ⟨hpT, ⟨ya, hJA, hya, hdj⟩, hJB, hJok, hJab, h1, h5, h7, h9, hi⟩
      simp only at hJA hJok hJab h9 hi
      have fin : ∀ {U : Hp} {y : Ax} {J' : List Int} (m : Mut T U ga ya y J'), (∃ Z, U = H ++ Z) ∧ (∃ xa, AW U ga xa J' ∧ (∀ i ∈ fp ga xa, H.length ≤ i) ∧ ∀ i ∈ fp gb xb, i ∉ fp ga xa) ∧ AW U gb xb K := fun {U y J'} m => by
        have hp := pre_fr hpT m.fr hya
        obtain ⟨Z, hZ⟩ := hpT
        have hlT : H.length ≤ T.length := by rw [hZ]; simp
        refine ⟨hp, ⟨y, m.aw, m.nw.ge hya hlT, fun i hi hm => ?_⟩, hJA.keep hJB hdj m.fr⟩
        rcases m.nw i hm with h | h
        · exact hdj i hi h
        · have := hJB.fp_lt i hi
          omega
      simp [h1, h9]
      by_cases hc : i < ls.length ∧ i < 20
      · obtain ⟨hlt, hlt20⟩ := hc
        have hlt9 : (i : Int) < 20 := by omega
        obtain ⟨p, hp⟩ : ∃ p, ls[i] = p := ⟨_, rfl⟩
        have hbp := hb _ (List.getElem_mem hlt)
        rw [hp] at hbp
        simp [h1, h9, hlt, hlt9, hp]
        refine v_draw (ord := [0, 1, 2, 3, 4, 5, 6, 7, 8, 9, 10, 11, 12, 13]) (m := 10) (by decide +kernel) (by decide +kernel) ?_
        simp [h1, h9, hlt, hp, min10]
        rw [← List.map_take]
        obtain ⟨L, hL⟩ : ∃ L, p.l.take (min p.l.length 10) = L := ⟨_, rfl⟩
        have hLl : L.length ≤ 12 := by rw [← hL, List.length_take]; omega
        rw [hL]
        obtain ⟨r, hr, hrr⟩ := rem_small p.k 3 (by omega)
        have hrr : (IntKind.u64.wrap p.k).tmod 3 = (r : Int) := hrr
        rw [hrr]
        rcases (show r = 0 ∨ r = 1 ∨ r = 2 by omega) with rfl | rfl | rfl
        · simp [h1, h5, h9, hlt, hp]
          refine CALLv.at (v_Take (n := p.n) hJA hJok) fun u U hu => ?_
          obtain ⟨e1, m⟩ := hu
          obtain ⟨f1, f2, f3⟩ := fin m
          subst e1
          simp [h9, w64 (n := (i : Int) + 1) (by omega)]
          exact GH.refl ⟨(i + 1, takeK J p.n), ⟨f1, f2, f3, takeK_ok hJok, by rw [abort_take]; exact hJab, by simp [h1], by simp [h5], by simp [h7], by simp, hlt20⟩, by simp only; omega⟩
        · simp [h1, h5, h9, hlt, hp]
          refine CALLv.at (v_Give (kk := p.kk) (l := L) hJA hJok hLl) fun u U hu => ?_
          obtain ⟨e1, m⟩ := hu
          obtain ⟨f1, f2, f3⟩ := fin m
          subst e1
          simp [h9, w64 (n := (i : Int) + 1) (by omega)]
          exact GH.refl ⟨(i + 1, giveK J L), ⟨f1, f2, f3, giveK_ok hJok, by rw [abort_give hJok]; exact hJab, by simp [h1], by simp [h5], by simp [h7], by simp, hlt20⟩, by simp only; omega⟩
        · simp [h1, h5, h9, hlt, hp]
          refine CALLv.at (v_Adopt (kk := p.kk) (l := L) hJA hJok hLl) fun u U hu => ?_
          obtain ⟨e1, m⟩ := hu
          obtain ⟨f1, f2, f3⟩ := fin m
          subst e1
          simp [h9, w64 (n := (i : Int) + 1) (by omega)]
          exact GH.refl ⟨(i + 1, adoptK J L), ⟨f1, f2, f3, adoptK_ok hJok, by rw [abort_adopt]; exact hJab, by simp [h1], by simp [h5], by simp [h7], by simp, hlt20⟩, by simp only; omega⟩
      · have hx : True := trivial
        by_cases hlt : i < ls.length
        · have hge : ¬ (i : Int) < 20 := by omega
          simp [h9, hlt, hge, h5]
          refine CALLv.at (v_Abort hJA hJok) fun u U hu => ?_
          obtain ⟨e1, y, m⟩ := hu
          obtain ⟨⟨Z, hZ⟩, _, f3⟩ := fin m
          have hAv := m.aw.v
          rw [hJab] at hAv
          subst e1
          simp
          refine v_known7.call ?_
          simp [h5, h7]
          refine CALLv.at (v_aSame hAv f3.v) fun u V hu => ?_
          obtain ⟨e1, e2⟩ := hu
          subst e1; subst e2
          simp [h5, h7]
          refine CALLv.at (v_aSame f3.v hAv) fun u V hu => ?_
          obtain ⟨e1, e2⟩ := hu
          subst e1; subst e2
          simp [h5]
          refine v_aSamePN.call ?_
          simp [Tryd.results5]
          rw [hZ]
          first | (refine GV.ans hcl ?_; simp []; done) | (refine GV.ans0 ?_; simp []; done)
        · simp [hlt, h5]
          refine CALLv.at (v_Abort hJA hJok) fun u U hu => ?_
          obtain ⟨e1, y, m⟩ := hu
          obtain ⟨⟨Z, hZ⟩, _, f3⟩ := fin m
          have hAv := m.aw.v
          rw [hJab] at hAv
          subst e1
          simp
          refine v_known7.call ?_
          simp [h5, h7]
          refine CALLv.at (v_aSame hAv f3.v) fun u V hu => ?_
          obtain ⟨e1, e2⟩ := hu
          subst e1; subst e2
          simp [h5, h7]
          refine CALLv.at (v_aSame f3.v hAv) fun u V hu => ?_
          obtain ⟨e1, e2⟩ := hu
          subst e1; subst e2
          simp [h5]
          refine v_aSamePN.call ?_
          simp [Tryd.results5]
          rw [hZ]
          first | (refine GV.ans hcl ?_; simp []; done) | (refine GV.ans0 ?_; simp []; done)
  · rw [if_neg hE] at hu1
    subst hu1
    simp
    refine CALLv.at (v_aNew (n := 30) (kk := kk) (l := F) (by omega)) fun u T2 hu => ?_
    obtain ⟨⟨X2, hX2⟩, hu2⟩ := hu
    rw [if_neg hE] at hu2
    subst hu2
    simp [hE, nilP]
    refine v_known7.call ?_
    simp
    refine v_aSameN.call ?_
    simp [Tryd.results5]
    obtain ⟨X1, hX1⟩ := hp1
    rw [hX2, hX1, List.append_assoc]
    first | (refine GV.ans hcl ?_; simp []; done) | (refine GV.ans0 ?_; simp []; done)
end Go.Proofs.YtldhfdagmaklaaaDoor.VM
end
section
set_option maxHeartbeats 8000000
set_option linter.unusedVariables false
set_option linter.unusedSimpArgs false

/- Acts as arguments; AllocAborts at the arguments as they read. -/
namespace Go.Proofs.YtldhfdagmaklaaaDoor
open Go Go.RowKit AM VM B
namespace VM
theorem rd_three {H : Type} {enc : TypeId × Value → H} {P : Program} {w : World} {t : TypeId} {f0 f1 f2 : Field} {cs : List Value} (h : Rd enc P w t cs) (ht : P.underlying t = some (.struct #[f0, f1, f2])) {a b c : Nat} (o0 : f0.offset = 0) (c0 : P.cellsOf f0.type = a) (o1 : f1.offset = a) (c1 : P.cellsOf f1.type = b) (o2 : f2.offset = a + b) (c2 : P.cellsOf f2.type = c) (hc : P.cellsOf t = a + b + c) :
    ∃ x y z, cs = x ++ (y ++ z) ∧ x.length = a ∧ y.length = b ∧ z.length = c ∧ Rd enc P w f0.type x ∧ Rd enc P w f1.type y ∧ Rd enc P w f2.type z := by
  obtain ⟨m, x, hm⟩ := h
  obtain ⟨y0, y1, y2, n, _, hl, h0, h1, h2⟩ := Go.Deep.trod_struct3 ht hm
  rw [o0, c0, List.drop_zero] at h0
  rw [o1, c1] at h1
  rw [o2, c2] at h2
  have e1 : (cs.drop (a + b)).take c = cs.drop (a + b) := List.take_of_length_le (by simp; omega)
  rw [e1] at h2
  refine ⟨cs.take a, (cs.drop a).take b, cs.drop (a + b), ?_, by simp; omega, by simp; omega, by simp; omega, ⟨n, _, h0⟩, ⟨n, _, h1⟩, ⟨n, _, h2⟩⟩
  rw [← List.drop_drop, List.take_append_drop, List.take_append_drop]
theorem wf64 {x : Int} (h : (Lit.int .i64 x).wf = true) : -9223372036854775808 ≤ x ∧ x ≤ 9223372036854775807 := by
  simp [Lit.wf, IntKind.min, IntKind.max, IntKind.signed, IntKind.bits] at h
  omega
/-- An act's cells. -/
theorem rd_act {H : Type} {enc : TypeId × Value → H} {w : World} {cs : List Value} (h : Rd enc Tryd.prog w 30 cs) : ∃ a : Ac, a.l.length < 2 ^ 63 ∧ (-9223372036854775808 ≤ a.n ∧ a.n ≤ 9223372036854775807) ∧ CellsV w (acK a) cs := by
  obtain ⟨x, y, z, e, _, _, _, hx, hy, hz⟩ := rd_three h Tryd.underlying30 (a := 1) (b := 1) (c := 1) rfl (by kernel_rfl) rfl (by kernel_rfl) rfl (by kernel_rfl) (by kernel_rfl)
  obtain ⟨d, rfl, hw⟩ := hx.int Tryd.underlying3
  obtain ⟨s, rfl, hw2⟩ := hy.int Tryd.underlying3
  obtain ⟨v, k, l, rfl, h1, h3⟩ := rd_ints hz
  exact ⟨⟨d, s, k, l⟩, h1, wf64 hw2, by rw [e]; exact ⟨_, _, rfl, .lit rfl, _, _, rfl, .lit rfl, _, _, rfl, h3, rfl⟩⟩
theorem rows_acts : ∀ {rows : List (List V)}, (∀ r ∈ rows, ∃ a : Ac, (a.l.length < 2 ^ 63 ∧ (-9223372036854775808 ≤ a.n ∧ a.n ≤ 9223372036854775807)) ∧ r = acK a) → ∃ ls : List Ac, rows = ls.map acK ∧ ∀ a ∈ ls, a.l.length < 2 ^ 63 ∧ (-9223372036854775808 ≤ a.n ∧ a.n ≤ 9223372036854775807)
  | [], _ => ⟨[], rfl, by simp⟩
  | r :: rs, h => by
    obtain ⟨a, he1, he2⟩ := h r (by simp)
    obtain ⟨ls, hl, hb⟩ := rows_acts (rows := rs) fun x hx => h x (by simp [hx])
    refine ⟨a :: ls, by rw [he2, hl]; rfl, fun x hx => ?_⟩
    rcases List.mem_cons.1 hx with rfl | hx
    · exact he1
    · exact hb x hx
theorem arg_acts {H : Type} {enc : TypeId × Value → H} {w : World} {v : Value} (h : Rd enc Tryd.prog w 23 [v]) : ∃ kl, ∃ ls : List Ac, ls.length < 2 ^ 63 ∧ (∀ a ∈ ls, a.l.length < 2 ^ 63 ∧ (-9223372036854775808 ≤ a.n ∧ a.n ≤ 9223372036854775807)) ∧ ArgV w (AS kl ls) v := by
  obtain ⟨u, kl, rows, e, hc, hl, hg⟩ := rd_sliceV (fun r => ∃ a : Ac, (a.l.length < 2 ^ 63 ∧ (-9223372036854775808 ≤ a.n ∧ a.n ≤ 9223372036854775807)) ∧ r = acK a) h Tryd.underlying23 (by kernel_rfl : Tryd.prog.cellsOf 30 = 3) (by omega) (by omega) (fun es h1 h2 => by
    obtain ⟨a, g1, g2, g3⟩ := rd_act h2
    exact ⟨acK a, rfl, g3, a, ⟨g1, g2⟩, rfl⟩)
  obtain ⟨ls, rfl, hb⟩ := rows_acts hg
  cases e
  exact ⟨kl, ls, by simp only [List.length_map, maxLen] at hl; omega, hb, hc.arg⟩
end VM
theorem allocAborts_row {H : Type} {enc : TypeId × Value → H} (A0 : Option Addr) (n0 c0 : Nat) (A1 : Option Addr) (n1 c1 : Nat) (w : World) (hg : Globs w.heap) (h0 : Rd enc Tryd.prog w 22 [.slice A0 n0 c0]) (h1 : Rd enc Tryd.prog w 23 [.slice A1 n1 c1]) :
    Calls Tryd.prog 5 #[.slice A0 n0 c0, .slice A1 n1 c1] w fun e w' => e = .returned (.bool true) ∧ Below w.heap.size w w' := by
  obtain ⟨kk, l, hl, ha⟩ := arg_ints h0
  obtain ⟨kl, ls, hls, hb, has⟩ := arg_acts h1
  exact (v_AllocAborts hl hls fun a h => (hb a h).1).law mixed prims_ok ⟨_, _, Tryd.func5, rfl, by decide +kernel⟩ ⟨_, _, rfl, ha, _, _, rfl, has, rfl⟩ hg
end Go.Proofs.YtldhfdagmaklaaaDoor
end
section
set_option maxHeartbeats 8000000
set_option linter.unusedVariables false
set_option linter.unusedSimpArgs false

/- Law AllocParts. -/
namespace Go.Proofs.YtldhfdagmaklaaaDoor.VM
open Go Go.Proofs AM B
set_option maxRecDepth 100000
theorem SetF.fr {n : Nat} {T U : Hp} {l : List Nat} {g : Nat} {m : List Bool} (h : SetF n T g m) (hf : FrA T U l) (hl : ∀ i ∈ l, i < n) : SetF n U g m := by
  obtain ⟨gw, v, t, h, h1, h2⟩ := h
  exact ⟨gw, v, t, h.fr hf (fun hm => by have := hl _ hm; omega) (fun hm => by have := hl _ hm; omega), h1, h2⟩
theorem takeK_len {K : List Int} {n : Int} : (takeK K n).length = K.length := setK_len _ _ _
theorem adoptK_len {K l : List Int} : (adoptK K l).length = K.length := by unfold adoptK; split; exact setK_len _ _ _; rfl
theorem giveK_len {K l : List Int} : (giveK K l).length = K.length := by unfold giveK; split; exact giveF_len _ _; rfl
/-- What a page's kind says of the sets. -/
theorem kinds {K : List Int} (hK : okK K) {p : Nat} (h2 : 2 ≤ p) (hp : p < K.length) : ∃ x, (x = 1 ∨ x = 2 ∨ x = 3 ∨ x = 4) ∧ K.getD p 0 = x ∧ hasM (K.map isC) p = isC x ∧ hasM (K.map isS) p = isS x ∧ hasM (K.map isP) p = isP x := by
  have h := hK.high h2 hp
  refine ⟨K.getD p 0, by omega, rfl, ?_, ?_, ?_⟩
  · exact hasM_map rfl (p := (p : Int)) (by omega)
  · exact hasM_map rfl (p := (p : Int)) (by omega)
  · exact hasM_map rfl (p := (p : Int)) (by omega)
set_option maxHeartbeats 8000000 in
theorem v_AllocParts {kk kl : Bool} {fl : List Int} {ls : List Ac} (hn : fl.length < 2 ^ 63) (hls : ls.length < 2 ^ 63) (hb : ∀ a ∈ ls, a.l.length < 2 ^ 63) : A 3 [IS kk fl, AS kl ls] (bo true) := by
  intro H
  refine v_enter hC [] (fun _ _ => kn_none rfl) Tryd.func3 rfl ok3 (Nat.le_of_ble_eq_true rfl) fun hcl hbl => ?_
  simp [min10]
  rw [← List.map_take]
  obtain ⟨F, hF⟩ : ∃ F, fl.take (min fl.length 10) = F := ⟨_, rfl⟩
  have hFl : F.length ≤ 10 := by rw [← hF, List.length_take]; omega
  rw [hF]
  refine CALLv.at (v_aNew (n := 30) (kk := kk) (l := F) (by omega)) fun u T1 hu => ?_
  obtain ⟨hp1, hu1⟩ := hu
  by_cases hE : newE 30 F = 0
  · rw [if_pos hE] at hu1
    obtain ⟨ga, xa, e1, hA, hxa⟩ := hu1
    rw [show (30 : Int).toNat = 30 from rfl] at hA
    subst e1
    have hin : inK 30 F = true := by
      unfold newE at hE
      rw [if_neg (by omega)] at hE
      rw [show (30 : Int).toNat = 30 from rfl] at hE
      cases h : inK 30 F with
      | true => rfl
      | false => rw [h] at hE; simp at hE
    have hok : okK (newK 30 F) := newK_ok (by omega) (by omega) hin
    have hKl : (newK 30 F).length = 30 := newK_len (by omega)
    obtain ⟨K, hK⟩ : ∃ K, newK 30 F = K := ⟨_, rfl⟩
    rw [hK] at hA hok hKl
    simp
    refine v_loopX hC (fun (X : Nat × List Int) e T => (∃ Z, T = H ++ Z) ∧ (∃ xa, AW T ga xa X.2 ∧ ∀ i ∈ fp ga xa, H.length ≤ i) ∧ okK X.2 ∧ X.2.length = 30 ∧ e 1 = AS kl ls ∧ e 5 = .ptr ga 0 ∧ e 7 = i6 X.1 ∧ X.1 ≤ 20) (fun X => 20 - X.1) (0, K) (G.refl ?_) ?_
    · exact ⟨hp1, ⟨xa, hA, hxa⟩, hok, hKl, by simp, by simp, by simp, by simp⟩
    · rintro ⟨i, J⟩ e T ⟨hpT, ⟨ya, hJA, hya⟩, hJok, hJl, h1, h5, h7, hi⟩
      simp only at hJA hJok hJl h7 hi
      simp [h1, h7]
      by_cases hc : i < ls.length ∧ i < 20
      · obtain ⟨hlt, hlt20⟩ := hc
        have hlt9 : (i : Int) < 20 := by omega
        obtain ⟨p, hp⟩ : ∃ p, ls[i] = p := ⟨_, rfl⟩
        have hbp := hb _ (List.getElem_mem hlt)
        rw [hp] at hbp
        simp [h1, h7, hlt, hlt9, hp]
        refine v_draw (ord := [0, 1, 2, 3, 4, 5, 6, 7, 8, 9, 10, 11, 12, 13]) (m := 10) (by decide +kernel) (by decide +kernel) ?_
        simp [h1, h7, hlt, hp, min10]
        rw [← List.map_take]
        obtain ⟨L, hL⟩ : ∃ L, p.l.take (min p.l.length 10) = L := ⟨_, rfl⟩
        have hLl : L.length ≤ 12 := by rw [← hL, List.length_take]; omega
        rw [hL]
        simp [h5]
        refine CALLv.at (v_Sets hJA.v) fun u T0 hu => ?_
        obtain ⟨a, b, c, e1, gw1, gw2, gw3, rfl, rfl, rfl, ⟨X0, hX0⟩, s1, s2, s3⟩ := hu
        subst e1
        have hJA0 : AW T0 ga ya J := by rw [hX0]; exact hJA.app
        have hpT0 : ∃ Z, T0 = H ++ Z := by
          obtain ⟨Z, hZ⟩ := hpT
          exact ⟨Z ++ X0, by rw [hX0, hZ, List.append_assoc]⟩
        have hlT0 : H.length ≤ T0.length := by obtain ⟨Z, hZ⟩ := hpT0; rw [hZ]; simp
        have hfl := hJA.fp_lt
        have fin : ∀ {U : Hp} {y : Ax} {J' : List Int} (m : Mut T0 U ga ya y J'), (∃ Z, U = H ++ Z) ∧ AW U ga y J' ∧ ∀ i ∈ fp ga y, H.length ≤ i := fun m => ⟨pre_fr hpT0 m.fr hya, m.aw, m.nw.ge hya hlT0⟩
        obtain ⟨r, hr, hrr⟩ := rem_small p.k 5 (by omega)
        have hrr : (IntKind.u64.wrap p.k).tmod 5 = (r : Int) := hrr
        simp [h1, h5, h7, hlt, hp]
        rw [hrr]
        rcases (show r = 0 ∨ r = 1 ∨ r = 2 ∨ r = 3 ∨ r = 4 by omega) with rfl | rfl | rfl | rfl | rfl
        · simp [h1, h5, h7, hlt, hp]
          refine CALLv.at (v_Take (n := p.n) hJA0 hJok) fun u U hu => ?_
          obtain ⟨e1, m⟩ := hu
          obtain ⟨hpU, hU, hyU⟩ := fin m
          obtain ⟨J', hJ'⟩ : ∃ J', takeK J p.n = J' := ⟨_, rfl⟩
          have hJok' : okK J' := hJ' ▸ takeK_ok hJok
          have hJl' : J'.length = 30 := by rw [← hJ', takeK_len, hJl]
          obtain ⟨y, hy⟩ : ∃ y, y = ya := ⟨_, rfl⟩
          rw [hJ'] at hU
          rw [← hy] at hU hyU
          have s1' := s1.fr m.fr hfl
          subst e1
          simp
          have htl : (takeL J p.n).length ≤ 30 := by
            unfold takeL
            split
            · have := freeK hJok
              rw [List.length_take]; omega
            · simp
          refine v_loopX hC (fun (k : Nat) e W => W = U ∧ e 1 = AS kl ls ∧ e 5 = .ptr ga 0 ∧ e 7 = i6 i ∧ e 9 = .ptr gw1 0 ∧ e 12 = IS true (is_ (takeL J p.n)) ∧ e 14 = i6 k ∧ k ≤ (takeL J p.n).length) (fun k => (takeL J p.n).length - k) 0 (G.refl ?_) ?_
          · exact ⟨rfl, by simp [h1], by simp [h5], by simp [h7], by simp, by simp, by simp, by simp⟩
          rintro k e W ⟨rfl, h1, h5, h7, h9, h12, h14, hk⟩
          simp [h12, h14, is_len]
          refine CondV.dec (fun hkl => ?_) (fun hkg => ?_)
          · have hkl : k < (takeL J p.n).length := by omega
            obtain ⟨q, hq⟩ : ∃ q, (takeL J p.n)[k]? = some q := ⟨_, List.getElem?_eq_getElem hkl⟩
            have hqm := takeL_lt (List.mem_of_getElem? hq)
            have hq2 : 2 ≤ q := by
              rcases Nat.lt_or_ge q 2 with h | h
              · have := hJok.low h; omega
              · exact h
            have hqi : (is_ (takeL J p.n))[k]? = some (q : Int) := by unfold is_; rw [List.getElem?_map, hq]; rfl
            obtain ⟨x, _, hxe, hxC, _, _⟩ := kinds hJok hq2 hqm.1
            have hx1 : x = 1 := hxe.symm.trans hqm.2
            subst hx1
            simp [h9, h12, h14, hqi]
            refine (v_Has (m := J.map isC) (no := (q : Int))).call s1'.v ?_
            rw [hxC]
            simp [isC, h12, h14, hqi, show ¬ ((q : Int) < 2) by omega, w64 (n := (k : Int) + 1) (by omega)]
            exact GH.refl ⟨k + 1, ⟨rfl, by simp [h1], by simp [h5], by simp [h7], by simp [h9], by simp [h12], by simp, hkl⟩, by omega⟩
          · simp [h5]
            refine CALLv.at (v_Sets hU.v) fun u W hu => ?_
            obtain ⟨a, b, c, e1, gc1, gc2, gc3, rfl, rfl, rfl, ⟨X1, hX1⟩, t1, t2, t3⟩ := hu
            subst e1
            have hUW : AW W ga y J' := by rw [hX1]; exact hU.app
            have hpW : ∃ Z, W = H ++ Z := by
              obtain ⟨Z, hZ⟩ := hpU
              exact ⟨Z ++ X1, by rw [hX1, hZ, List.append_assoc]⟩
            simp
            refine v_loopX hC (fun (q : Nat) e W' => W' = W ∧ e 1 = AS kl ls ∧ e 5 = .ptr ga 0 ∧ e 7 = i6 i ∧ e 15 = .ptr gc1 0 ∧ e 16 = .ptr gc2 0 ∧ e 17 = .ptr gc3 0 ∧ e 18 = i6 (frK J' q).length ∧ e 19 = i6 q ∧ 2 ≤ q ∧ q ≤ 30) (fun q => 30 - q) 2 (G.refl ?_) ?_
            · exact ⟨rfl, by simp [h1], by simp [h5], by simp [h7], by simp, by simp, by simp, by simp [frK_2 hJok'], by simp, by simp, by simp⟩
            rintro q e W' ⟨rfl, h1, h5, h7, h15, h16, h17, h18, h19, hq2, hq⟩
            simp [h19]
            refine CondV.dec (fun hql => ?_) (fun hqg => ?_)
            · have hql : q < 30 := by omega
              obtain ⟨x, hx, hxe, hxC, hxS, hxP⟩ := kinds hJok' hq2 (by omega)
              have hfs := frK_succ J' q
              rw [hxe] at hfs
              have hfp := (frK_pre (K := J') (p := q) (by omega)).length_le
              have hfk := freeK hJok'
              simp [h15, h19]
              refine (v_Has (m := J'.map isC) (no := (q : Int))).call t1.v ?_
              rw [hxC]
              rcases hx with rfl | rfl | rfl | rfl
              · simp [isC, h17, h19]
                refine (v_Has (m := J'.map isP) (no := (q : Int))).call t3.v ?_
                rw [hxP]
                simp [isP, h15, h19]
                refine (v_Has (m := J'.map isC) (no := (q : Int))).call t1.v ?_
                rw [hxC]
                simp [isC, h16, h19]
                refine (v_Has (m := J'.map isS) (no := (q : Int))).call t2.v ?_
                rw [hxS]
                rw [if_pos rfl] at hfs
                simp [isS, h18, h19, w64 (n := (q : Int) + 1) (by omega), w64 (n := ((frK J' q).length : Int) + 1) (by omega)]
                exact GH.refl ⟨q + 1, ⟨rfl, by simp [h1], by simp [h5], by simp [h7], by simp [h15], by simp [h16], by simp [h17], by simp [hfs], by simp, by omega, hql⟩, by omega⟩
              · simp [isC, h16, h19]
                refine (v_Has (m := J'.map isS) (no := (q : Int))).call t2.v ?_
                rw [hxS]
                simp [isS, h17, h19]
                refine (v_Has (m := J'.map isP) (no := (q : Int))).call t3.v ?_
                rw [hxP]
                simp [isP, h15, h19]
                refine (v_Has (m := J'.map isC) (no := (q : Int))).call t1.v ?_
                rw [hxC]
                rw [if_neg (by omega)] at hfs
                simp [isC, h19, w64 (n := (q : Int) + 1) (by omega)]
                exact GH.refl ⟨q + 1, ⟨rfl, by simp [h1], by simp [h5], by simp [h7], by simp [h15], by simp [h16], by simp [h17], by simp [hfs, h18], by simp, by omega, hql⟩, by omega⟩
              · simp [isC, h17, h19]
                refine (v_Has (m := J'.map isP) (no := (q : Int))).call t3.v ?_
                rw [hxP]
                simp [isP, h15, h19]
                refine (v_Has (m := J'.map isC) (no := (q : Int))).call t1.v ?_
                rw [hxC]
                simp [isC, h16, h19]
                refine (v_Has (m := J'.map isS) (no := (q : Int))).call t2.v ?_
                rw [hxS]
                rw [if_neg (by omega)] at hfs
                simp [isS, h19, w64 (n := (q : Int) + 1) (by omega)]
                exact GH.refl ⟨q + 1, ⟨rfl, by simp [h1], by simp [h5], by simp [h7], by simp [h15], by simp [h16], by simp [h17], by simp [hfs, h18], by simp, by omega, hql⟩, by omega⟩
              · simp [isC, h16, h19]
                refine (v_Has (m := J'.map isS) (no := (q : Int))).call t2.v ?_
                rw [hxS]
                simp [isS, h17, h19]
                refine (v_Has (m := J'.map isP) (no := (q : Int))).call t3.v ?_
                rw [hxP]
                simp [isP, h15, h19]
                refine (v_Has (m := J'.map isC) (no := (q : Int))).call t1.v ?_
                rw [hxC]
                simp [isC, h15, h19]
                refine (v_Has (m := J'.map isC) (no := (q : Int))).call t1.v ?_
                rw [hxC]
                rw [if_neg (by omega)] at hfs
                simp [isC, h19, w64 (n := (q : Int) + 1) (by omega)]
                exact GH.refl ⟨q + 1, ⟨rfl, by simp [h1], by simp [h5], by simp [h7], by simp [h15], by simp [h16], by simp [h17], by simp [hfs, h18], by simp, by omega, hql⟩, by omega⟩
            · have hq30 : q = J'.length := by omega
              have hfk : frK J' q = kAll J' 1 := by rw [hq30]; rfl
              have h0C : hasM (J'.map isC) 0 = false := by
                have := hasM_map (f := isC) rfl (K := J') (p := 0) (by omega)
                rw [this, show ((0 : Int)).toNat = 0 from rfl, hJok'.low (i := 0) (by omega)]; rfl
              have h1S : hasM (J'.map isS) 1 = false := by
                have := hasM_map (f := isS) rfl (K := J') (p := 1) (by omega)
                rw [this, show ((1 : Int)).toNat = 1 from rfl, hJok'.low (i := 1) (by omega)]; rfl
              rw [hfk] at h18
              simp [h5, h18]
              refine (v_aFree hJok').call hUW.v ?_
              simp [h15]
              refine (v_Has (m := J'.map isC) (no := 0)).call t1.v ?_
              simp [h0C, h16]
              refine (v_Has (m := J'.map isS) (no := 1)).call t2.v ?_
              simp [h1S, h7, w64 (n := (i : Int) + 1) (by omega)]
              exact GH.refl ⟨(i + 1, J'), ⟨hpW, ⟨y, hUW, hyU⟩, hJok', hJl', by simp [h1], by simp [h5], by simp, hlt20⟩, by simp only; omega⟩
        · simp [h5]
          refine CALLv.at (v_Give (kk := p.kk) (l := L) hJA0 hJok hLl) fun u U hu => ?_
          obtain ⟨e1, m⟩ := hu
          obtain ⟨hpU, hU, hyU⟩ := fin m
          obtain ⟨J', hJ'⟩ : ∃ J', giveK J L = J' := ⟨_, rfl⟩
          have hJok' : okK J' := hJ' ▸ giveK_ok hJok
          have hJl' : J'.length = 30 := by rw [← hJ', giveK_len, hJl]
          obtain ⟨y, hy⟩ : ∃ y, y = ya := ⟨_, rfl⟩
          rw [hJ'] at hU
          rw [← hy] at hU hyU
          subst e1
          simp [h5]
          refine CALLv.at (v_Sets hU.v) fun u W hu => ?_
          obtain ⟨a, b, c, e1, gc1, gc2, gc3, rfl, rfl, rfl, ⟨X1, hX1⟩, t1, t2, t3⟩ := hu
          subst e1
          have hUW : AW W ga y J' := by rw [hX1]; exact hU.app
          have hpW : ∃ Z, W = H ++ Z := by
            obtain ⟨Z, hZ⟩ := hpU
            exact ⟨Z ++ X1, by rw [hX1, hZ, List.append_assoc]⟩
          simp
          refine v_loopX hC (fun (q : Nat) e W' => W' = W ∧ e 1 = AS kl ls ∧ e 5 = .ptr ga 0 ∧ e 7 = i6 i ∧ e 15 = .ptr gc1 0 ∧ e 16 = .ptr gc2 0 ∧ e 17 = .ptr gc3 0 ∧ e 18 = i6 (frK J' q).length ∧ e 19 = i6 q ∧ 2 ≤ q ∧ q ≤ 30) (fun q => 30 - q) 2 (G.refl ?_) ?_
          · exact ⟨rfl, by simp [h1], by simp [h5], by simp [h7], by simp, by simp, by simp, by simp [frK_2 hJok'], by simp, by simp, by simp⟩
          rintro q e W' ⟨rfl, h1, h5, h7, h15, h16, h17, h18, h19, hq2, hq⟩
          simp [h19]
          refine CondV.dec (fun hql => ?_) (fun hqg => ?_)
          · have hql : q < 30 := by omega
            obtain ⟨x, hx, hxe, hxC, hxS, hxP⟩ := kinds hJok' hq2 (by omega)
            have hfs := frK_succ J' q
            rw [hxe] at hfs
            have hfp := (frK_pre (K := J') (p := q) (by omega)).length_le
            have hfk := freeK hJok'
            simp [h15, h19]
            refine (v_Has (m := J'.map isC) (no := (q : Int))).call t1.v ?_
            rw [hxC]
            rcases hx with rfl | rfl | rfl | rfl
            · simp [isC, h17, h19]
              refine (v_Has (m := J'.map isP) (no := (q : Int))).call t3.v ?_
              rw [hxP]
              simp [isP, h15, h19]
              refine (v_Has (m := J'.map isC) (no := (q : Int))).call t1.v ?_
              rw [hxC]
              simp [isC, h16, h19]
              refine (v_Has (m := J'.map isS) (no := (q : Int))).call t2.v ?_
              rw [hxS]
              rw [if_pos rfl] at hfs
              simp [isS, h18, h19, w64 (n := (q : Int) + 1) (by omega), w64 (n := ((frK J' q).length : Int) + 1) (by omega)]
              exact GH.refl ⟨q + 1, ⟨rfl, by simp [h1], by simp [h5], by simp [h7], by simp [h15], by simp [h16], by simp [h17], by simp [hfs], by simp, by omega, hql⟩, by omega⟩
            · simp [isC, h16, h19]
              refine (v_Has (m := J'.map isS) (no := (q : Int))).call t2.v ?_
              rw [hxS]
              simp [isS, h17, h19]
              refine (v_Has (m := J'.map isP) (no := (q : Int))).call t3.v ?_
              rw [hxP]
              simp [isP, h15, h19]
              refine (v_Has (m := J'.map isC) (no := (q : Int))).call t1.v ?_
              rw [hxC]
              rw [if_neg (by omega)] at hfs
              simp [isC, h19, w64 (n := (q : Int) + 1) (by omega)]
              exact GH.refl ⟨q + 1, ⟨rfl, by simp [h1], by simp [h5], by simp [h7], by simp [h15], by simp [h16], by simp [h17], by simp [hfs, h18], by simp, by omega, hql⟩, by omega⟩
            · simp [isC, h17, h19]
              refine (v_Has (m := J'.map isP) (no := (q : Int))).call t3.v ?_
              rw [hxP]
              simp [isP, h15, h19]
              refine (v_Has (m := J'.map isC) (no := (q : Int))).call t1.v ?_
              rw [hxC]
              simp [isC, h16, h19]
              refine (v_Has (m := J'.map isS) (no := (q : Int))).call t2.v ?_
              rw [hxS]
              rw [if_neg (by omega)] at hfs
              simp [isS, h19, w64 (n := (q : Int) + 1) (by omega)]
              exact GH.refl ⟨q + 1, ⟨rfl, by simp [h1], by simp [h5], by simp [h7], by simp [h15], by simp [h16], by simp [h17], by simp [hfs, h18], by simp, by omega, hql⟩, by omega⟩
            · simp [isC, h16, h19]
              refine (v_Has (m := J'.map isS) (no := (q : Int))).call t2.v ?_
              rw [hxS]
              simp [isS, h17, h19]
              refine (v_Has (m := J'.map isP) (no := (q : Int))).call t3.v ?_
              rw [hxP]
              simp [isP, h15, h19]
              refine (v_Has (m := J'.map isC) (no := (q : Int))).call t1.v ?_
              rw [hxC]
              simp [isC, h15, h19]
              refine (v_Has (m := J'.map isC) (no := (q : Int))).call t1.v ?_
              rw [hxC]
              rw [if_neg (by omega)] at hfs
              simp [isC, h19, w64 (n := (q : Int) + 1) (by omega)]
              exact GH.refl ⟨q + 1, ⟨rfl, by simp [h1], by simp [h5], by simp [h7], by simp [h15], by simp [h16], by simp [h17], by simp [hfs, h18], by simp, by omega, hql⟩, by omega⟩
          · have hq30 : q = J'.length := by omega
            have hfk : frK J' q = kAll J' 1 := by rw [hq30]; rfl
            have h0C : hasM (J'.map isC) 0 = false := by
              have := hasM_map (f := isC) rfl (K := J') (p := 0) (by omega)
              rw [this, show ((0 : Int)).toNat = 0 from rfl, hJok'.low (i := 0) (by omega)]; rfl
            have h1S : hasM (J'.map isS) 1 = false := by
              have := hasM_map (f := isS) rfl (K := J') (p := 1) (by omega)
              rw [this, show ((1 : Int)).toNat = 1 from rfl, hJok'.low (i := 1) (by omega)]; rfl
            rw [hfk] at h18
            simp [h5, h18]
            refine (v_aFree hJok').call hUW.v ?_
            simp [h15]
            refine (v_Has (m := J'.map isC) (no := 0)).call t1.v ?_
            simp [h0C, h16]
            refine (v_Has (m := J'.map isS) (no := 1)).call t2.v ?_
            simp [h1S, h7, w64 (n := (i : Int) + 1) (by omega)]
            exact GH.refl ⟨(i + 1, J'), ⟨hpW, ⟨y, hUW, hyU⟩, hJok', hJl', by simp [h1], by simp [h5], by simp, hlt20⟩, by simp only; omega⟩
        · simp [h5]
          refine CALLv.at (v_Commit hJA0 hJok) fun u U hu => ?_
          obtain ⟨e1, y, m⟩ := hu
          obtain ⟨hpU, hU, hyU⟩ := fin m
          obtain ⟨J', hJ'⟩ : ∃ J', commitK J = J' := ⟨_, rfl⟩
          have hJok' : okK J' := hJ' ▸ commitK_ok hJok
          have hJl' : J'.length = 30 := by rw [← hJ', commitK_len, hJl]
          rw [hJ'] at hU
          subst e1
          simp [h5]
          refine CALLv.at (v_Sets hU.v) fun u W hu => ?_
          obtain ⟨a, b, c, e1, gc1, gc2, gc3, rfl, rfl, rfl, ⟨X1, hX1⟩, t1, t2, t3⟩ := hu
          subst e1
          have hUW : AW W ga y J' := by rw [hX1]; exact hU.app
          have hpW : ∃ Z, W = H ++ Z := by
            obtain ⟨Z, hZ⟩ := hpU
            exact ⟨Z ++ X1, by rw [hX1, hZ, List.append_assoc]⟩
          simp
          refine v_loopX hC (fun (q : Nat) e W' => W' = W ∧ e 1 = AS kl ls ∧ e 5 = .ptr ga 0 ∧ e 7 = i6 i ∧ e 15 = .ptr gc1 0 ∧ e 16 = .ptr gc2 0 ∧ e 17 = .ptr gc3 0 ∧ e 18 = i6 (frK J' q).length ∧ e 19 = i6 q ∧ 2 ≤ q ∧ q ≤ 30) (fun q => 30 - q) 2 (G.refl ?_) ?_
          · exact ⟨rfl, by simp [h1], by simp [h5], by simp [h7], by simp, by simp, by simp, by simp [frK_2 hJok'], by simp, by simp, by simp⟩
          rintro q e W' ⟨rfl, h1, h5, h7, h15, h16, h17, h18, h19, hq2, hq⟩
          simp [h19]
          refine CondV.dec (fun hql => ?_) (fun hqg => ?_)
          · have hql : q < 30 := by omega
            obtain ⟨x, hx, hxe, hxC, hxS, hxP⟩ := kinds hJok' hq2 (by omega)
            have hfs := frK_succ J' q
            rw [hxe] at hfs
            have hfp := (frK_pre (K := J') (p := q) (by omega)).length_le
            have hfk := freeK hJok'
            simp [h15, h19]
            refine (v_Has (m := J'.map isC) (no := (q : Int))).call t1.v ?_
            rw [hxC]
            rcases hx with rfl | rfl | rfl | rfl
            · simp [isC, h17, h19]
              refine (v_Has (m := J'.map isP) (no := (q : Int))).call t3.v ?_
              rw [hxP]
              simp [isP, h15, h19]
              refine (v_Has (m := J'.map isC) (no := (q : Int))).call t1.v ?_
              rw [hxC]
              simp [isC, h16, h19]
              refine (v_Has (m := J'.map isS) (no := (q : Int))).call t2.v ?_
              rw [hxS]
              rw [if_pos rfl] at hfs
              simp [isS, h18, h19, w64 (n := (q : Int) + 1) (by omega), w64 (n := ((frK J' q).length : Int) + 1) (by omega)]
              exact GH.refl ⟨q + 1, ⟨rfl, by simp [h1], by simp [h5], by simp [h7], by simp [h15], by simp [h16], by simp [h17], by simp [hfs], by simp, by omega, hql⟩, by omega⟩
            · simp [isC, h16, h19]
              refine (v_Has (m := J'.map isS) (no := (q : Int))).call t2.v ?_
              rw [hxS]
              simp [isS, h17, h19]
              refine (v_Has (m := J'.map isP) (no := (q : Int))).call t3.v ?_
              rw [hxP]
              simp [isP, h15, h19]
              refine (v_Has (m := J'.map isC) (no := (q : Int))).call t1.v ?_
              rw [hxC]
              rw [if_neg (by omega)] at hfs
              simp [isC, h19, w64 (n := (q : Int) + 1) (by omega)]
              exact GH.refl ⟨q + 1, ⟨rfl, by simp [h1], by simp [h5], by simp [h7], by simp [h15], by simp [h16], by simp [h17], by simp [hfs, h18], by simp, by omega, hql⟩, by omega⟩
            · simp [isC, h17, h19]
              refine (v_Has (m := J'.map isP) (no := (q : Int))).call t3.v ?_
              rw [hxP]
              simp [isP, h15, h19]
              refine (v_Has (m := J'.map isC) (no := (q : Int))).call t1.v ?_
              rw [hxC]
              simp [isC, h16, h19]
              refine (v_Has (m := J'.map isS) (no := (q : Int))).call t2.v ?_
              rw [hxS]
              rw [if_neg (by omega)] at hfs
              simp [isS, h19, w64 (n := (q : Int) + 1) (by omega)]
              exact GH.refl ⟨q + 1, ⟨rfl, by simp [h1], by simp [h5], by simp [h7], by simp [h15], by simp [h16], by simp [h17], by simp [hfs, h18], by simp, by omega, hql⟩, by omega⟩
            · simp [isC, h16, h19]
              refine (v_Has (m := J'.map isS) (no := (q : Int))).call t2.v ?_
              rw [hxS]
              simp [isS, h17, h19]
              refine (v_Has (m := J'.map isP) (no := (q : Int))).call t3.v ?_
              rw [hxP]
              simp [isP, h15, h19]
              refine (v_Has (m := J'.map isC) (no := (q : Int))).call t1.v ?_
              rw [hxC]
              simp [isC, h15, h19]
              refine (v_Has (m := J'.map isC) (no := (q : Int))).call t1.v ?_
              rw [hxC]
              rw [if_neg (by omega)] at hfs
              simp [isC, h19, w64 (n := (q : Int) + 1) (by omega)]
              exact GH.refl ⟨q + 1, ⟨rfl, by simp [h1], by simp [h5], by simp [h7], by simp [h15], by simp [h16], by simp [h17], by simp [hfs, h18], by simp, by omega, hql⟩, by omega⟩
          · have hq30 : q = J'.length := by omega
            have hfk : frK J' q = kAll J' 1 := by rw [hq30]; rfl
            have h0C : hasM (J'.map isC) 0 = false := by
              have := hasM_map (f := isC) rfl (K := J') (p := 0) (by omega)
              rw [this, show ((0 : Int)).toNat = 0 from rfl, hJok'.low (i := 0) (by omega)]; rfl
            have h1S : hasM (J'.map isS) 1 = false := by
              have := hasM_map (f := isS) rfl (K := J') (p := 1) (by omega)
              rw [this, show ((1 : Int)).toNat = 1 from rfl, hJok'.low (i := 1) (by omega)]; rfl
            rw [hfk] at h18
            simp [h5, h18]
            refine (v_aFree hJok').call hUW.v ?_
            simp [h15]
            refine (v_Has (m := J'.map isC) (no := 0)).call t1.v ?_
            simp [h0C, h16]
            refine (v_Has (m := J'.map isS) (no := 1)).call t2.v ?_
            simp [h1S, h7, w64 (n := (i : Int) + 1) (by omega)]
            exact GH.refl ⟨(i + 1, J'), ⟨hpW, ⟨y, hUW, hyU⟩, hJok', hJl', by simp [h1], by simp [h5], by simp, hlt20⟩, by simp only; omega⟩
        · simp [h5]
          refine CALLv.at (v_Abort hJA0 hJok) fun u U hu => ?_
          obtain ⟨e1, y, m⟩ := hu
          obtain ⟨hpU, hU, hyU⟩ := fin m
          obtain ⟨J', hJ'⟩ : ∃ J', abortK J = J' := ⟨_, rfl⟩
          have hJok' : okK J' := hJ' ▸ abortK_ok hJok
          have hJl' : J'.length = 30 := by rw [← hJ', abortK_len, hJl]
          rw [hJ'] at hU
          subst e1
          simp [h5]
          refine CALLv.at (v_Sets hU.v) fun u W hu => ?_
          obtain ⟨a, b, c, e1, gc1, gc2, gc3, rfl, rfl, rfl, ⟨X1, hX1⟩, t1, t2, t3⟩ := hu
          subst e1
          have hUW : AW W ga y J' := by rw [hX1]; exact hU.app
          have hpW : ∃ Z, W = H ++ Z := by
            obtain ⟨Z, hZ⟩ := hpU
            exact ⟨Z ++ X1, by rw [hX1, hZ, List.append_assoc]⟩
          simp
          refine v_loopX hC (fun (q : Nat) e W' => W' = W ∧ e 1 = AS kl ls ∧ e 5 = .ptr ga 0 ∧ e 7 = i6 i ∧ e 15 = .ptr gc1 0 ∧ e 16 = .ptr gc2 0 ∧ e 17 = .ptr gc3 0 ∧ e 18 = i6 (frK J' q).length ∧ e 19 = i6 q ∧ 2 ≤ q ∧ q ≤ 30) (fun q => 30 - q) 2 (G.refl ?_) ?_
          · exact ⟨rfl, by simp [h1], by simp [h5], by simp [h7], by simp, by simp, by simp, by simp [frK_2 hJok'], by simp, by simp, by simp⟩
          rintro q e W' ⟨rfl, h1, h5, h7, h15, h16, h17, h18, h19, hq2, hq⟩
          simp [h19]
          refine CondV.dec (fun hql => ?_) (fun hqg => ?_)
          · have hql : q < 30 := by omega
            obtain ⟨x, hx, hxe, hxC, hxS, hxP⟩ := kinds hJok' hq2 (by omega)
            have hfs := frK_succ J' q
            rw [hxe] at hfs
            have hfp := (frK_pre (K := J') (p := q) (by omega)).length_le
            have hfk := freeK hJok'
            simp [h15, h19]
            refine (v_Has (m := J'.map isC) (no := (q : Int))).call t1.v ?_
            rw [hxC]
            rcases hx with rfl | rfl | rfl | rfl
            · simp [isC, h17, h19]
              refine (v_Has (m := J'.map isP) (no := (q : Int))).call t3.v ?_
              rw [hxP]
              simp [isP, h15, h19]
              refine (v_Has (m := J'.map isC) (no := (q : Int))).call t1.v ?_
              rw [hxC]
              simp [isC, h16, h19]
              refine (v_Has (m := J'.map isS) (no := (q : Int))).call t2.v ?_
              rw [hxS]
              rw [if_pos rfl] at hfs
              simp [isS, h18, h19, w64 (n := (q : Int) + 1) (by omega), w64 (n := ((frK J' q).length : Int) + 1) (by omega)]
              exact GH.refl ⟨q + 1, ⟨rfl, by simp [h1], by simp [h5], by simp [h7], by simp [h15], by simp [h16], by simp [h17], by simp [hfs], by simp, by omega, hql⟩, by omega⟩
            · simp [isC, h16, h19]
              refine (v_Has (m := J'.map isS) (no := (q : Int))).call t2.v ?_
              rw [hxS]
              simp [isS, h17, h19]
              refine (v_Has (m := J'.map isP) (no := (q : Int))).call t3.v ?_
              rw [hxP]
              simp [isP, h15, h19]
              refine (v_Has (m := J'.map isC) (no := (q : Int))).call t1.v ?_
              rw [hxC]
              rw [if_neg (by omega)] at hfs
              simp [isC, h19, w64 (n := (q : Int) + 1) (by omega)]
              exact GH.refl ⟨q + 1, ⟨rfl, by simp [h1], by simp [h5], by simp [h7], by simp [h15], by simp [h16], by simp [h17], by simp [hfs, h18], by simp, by omega, hql⟩, by omega⟩
            · simp [isC, h17, h19]
              refine (v_Has (m := J'.map isP) (no := (q : Int))).call t3.v ?_
              rw [hxP]
              simp [isP, h15, h19]
              refine (v_Has (m := J'.map isC) (no := (q : Int))).call t1.v ?_
              rw [hxC]
              simp [isC, h16, h19]
              refine (v_Has (m := J'.map isS) (no := (q : Int))).call t2.v ?_
              rw [hxS]
              rw [if_neg (by omega)] at hfs
              simp [isS, h19, w64 (n := (q : Int) + 1) (by omega)]
              exact GH.refl ⟨q + 1, ⟨rfl, by simp [h1], by simp [h5], by simp [h7], by simp [h15], by simp [h16], by simp [h17], by simp [hfs, h18], by simp, by omega, hql⟩, by omega⟩
            · simp [isC, h16, h19]
              refine (v_Has (m := J'.map isS) (no := (q : Int))).call t2.v ?_
              rw [hxS]
              simp [isS, h17, h19]
              refine (v_Has (m := J'.map isP) (no := (q : Int))).call t3.v ?_
              rw [hxP]
              simp [isP, h15, h19]
              refine (v_Has (m := J'.map isC) (no := (q : Int))).call t1.v ?_
              rw [hxC]
              simp [isC, h15, h19]
              refine (v_Has (m := J'.map isC) (no := (q : Int))).call t1.v ?_
              rw [hxC]
              rw [if_neg (by omega)] at hfs
              simp [isC, h19, w64 (n := (q : Int) + 1) (by omega)]
              exact GH.refl ⟨q + 1, ⟨rfl, by simp [h1], by simp [h5], by simp [h7], by simp [h15], by simp [h16], by simp [h17], by simp [hfs, h18], by simp, by omega, hql⟩, by omega⟩
          · have hq30 : q = J'.length := by omega
            have hfk : frK J' q = kAll J' 1 := by rw [hq30]; rfl
            have h0C : hasM (J'.map isC) 0 = false := by
              have := hasM_map (f := isC) rfl (K := J') (p := 0) (by omega)
              rw [this, show ((0 : Int)).toNat = 0 from rfl, hJok'.low (i := 0) (by omega)]; rfl
            have h1S : hasM (J'.map isS) 1 = false := by
              have := hasM_map (f := isS) rfl (K := J') (p := 1) (by omega)
              rw [this, show ((1 : Int)).toNat = 1 from rfl, hJok'.low (i := 1) (by omega)]; rfl
            rw [hfk] at h18
            simp [h5, h18]
            refine (v_aFree hJok').call hUW.v ?_
            simp [h15]
            refine (v_Has (m := J'.map isC) (no := 0)).call t1.v ?_
            simp [h0C, h16]
            refine (v_Has (m := J'.map isS) (no := 1)).call t2.v ?_
            simp [h1S, h7, w64 (n := (i : Int) + 1) (by omega)]
            exact GH.refl ⟨(i + 1, J'), ⟨hpW, ⟨y, hUW, hyU⟩, hJok', hJl', by simp [h1], by simp [h5], by simp, hlt20⟩, by simp only; omega⟩
        · simp [h5]
          refine CALLv.at (v_Adopt (kk := p.kk) (l := L) hJA0 hJok hLl) fun u U hu => ?_
          obtain ⟨e1, m⟩ := hu
          obtain ⟨hpU, hU, hyU⟩ := fin m
          obtain ⟨J', hJ'⟩ : ∃ J', adoptK J L = J' := ⟨_, rfl⟩
          have hJok' : okK J' := hJ' ▸ adoptK_ok hJok
          have hJl' : J'.length = 30 := by rw [← hJ', adoptK_len, hJl]
          obtain ⟨y, hy⟩ : ∃ y, y = ya := ⟨_, rfl⟩
          rw [hJ'] at hU
          rw [← hy] at hU hyU
          subst e1
          simp [h5]
          refine CALLv.at (v_Sets hU.v) fun u W hu => ?_
          obtain ⟨a, b, c, e1, gc1, gc2, gc3, rfl, rfl, rfl, ⟨X1, hX1⟩, t1, t2, t3⟩ := hu
          subst e1
          have hUW : AW W ga y J' := by rw [hX1]; exact hU.app
          have hpW : ∃ Z, W = H ++ Z := by
            obtain ⟨Z, hZ⟩ := hpU
            exact ⟨Z ++ X1, by rw [hX1, hZ, List.append_assoc]⟩
          simp
          refine v_loopX hC (fun (q : Nat) e W' => W' = W ∧ e 1 = AS kl ls ∧ e 5 = .ptr ga 0 ∧ e 7 = i6 i ∧ e 15 = .ptr gc1 0 ∧ e 16 = .ptr gc2 0 ∧ e 17 = .ptr gc3 0 ∧ e 18 = i6 (frK J' q).length ∧ e 19 = i6 q ∧ 2 ≤ q ∧ q ≤ 30) (fun q => 30 - q) 2 (G.refl ?_) ?_
          · exact ⟨rfl, by simp [h1], by simp [h5], by simp [h7], by simp, by simp, by simp, by simp [frK_2 hJok'], by simp, by simp, by simp⟩
          rintro q e W' ⟨rfl, h1, h5, h7, h15, h16, h17, h18, h19, hq2, hq⟩
          simp [h19]
          refine CondV.dec (fun hql => ?_) (fun hqg => ?_)
          · have hql : q < 30 := by omega
            obtain ⟨x, hx, hxe, hxC, hxS, hxP⟩ := kinds hJok' hq2 (by omega)
            have hfs := frK_succ J' q
            rw [hxe] at hfs
            have hfp := (frK_pre (K := J') (p := q) (by omega)).length_le
            have hfk := freeK hJok'
            simp [h15, h19]
            refine (v_Has (m := J'.map isC) (no := (q : Int))).call t1.v ?_
            rw [hxC]
            rcases hx with rfl | rfl | rfl | rfl
            · simp [isC, h17, h19]
              refine (v_Has (m := J'.map isP) (no := (q : Int))).call t3.v ?_
              rw [hxP]
              simp [isP, h15, h19]
              refine (v_Has (m := J'.map isC) (no := (q : Int))).call t1.v ?_
              rw [hxC]
              simp [isC, h16, h19]
              refine (v_Has (m := J'.map isS) (no := (q : Int))).call t2.v ?_
              rw [hxS]
              rw [if_pos rfl] at hfs
              simp [isS, h18, h19, w64 (n := (q : Int) + 1) (by omega), w64 (n := ((frK J' q).length : Int) + 1) (by omega)]
              exact GH.refl ⟨q + 1, ⟨rfl, by simp [h1], by simp [h5], by simp [h7], by simp [h15], by simp [h16], by simp [h17], by simp [hfs], by simp, by omega, hql⟩, by omega⟩
            · simp [isC, h16, h19]
              refine (v_Has (m := J'.map isS) (no := (q : Int))).call t2.v ?_
              rw [hxS]
              simp [isS, h17, h19]
              refine (v_Has (m := J'.map isP) (no := (q : Int))).call t3.v ?_
              rw [hxP]
              simp [isP, h15, h19]
              refine (v_Has (m := J'.map isC) (no := (q : Int))).call t1.v ?_
              rw [hxC]
              rw [if_neg (by omega)] at hfs
              simp [isC, h19, w64 (n := (q : Int) + 1) (by omega)]
              exact GH.refl ⟨q + 1, ⟨rfl, by simp [h1], by simp [h5], by simp [h7], by simp [h15], by simp [h16], by simp [h17], by simp [hfs, h18], by simp, by omega, hql⟩, by omega⟩
            · simp [isC, h17, h19]
              refine (v_Has (m := J'.map isP) (no := (q : Int))).call t3.v ?_
              rw [hxP]
              simp [isP, h15, h19]
              refine (v_Has (m := J'.map isC) (no := (q : Int))).call t1.v ?_
              rw [hxC]
              simp [isC, h16, h19]
              refine (v_Has (m := J'.map isS) (no := (q : Int))).call t2.v ?_
              rw [hxS]
              rw [if_neg (by omega)] at hfs
              simp [isS, h19, w64 (n := (q : Int) + 1) (by omega)]
              exact GH.refl ⟨q + 1, ⟨rfl, by simp [h1], by simp [h5], by simp [h7], by simp [h15], by simp [h16], by simp [h17], by simp [hfs, h18], by simp, by omega, hql⟩, by omega⟩
            · simp [isC, h16, h19]
              refine (v_Has (m := J'.map isS) (no := (q : Int))).call t2.v ?_
              rw [hxS]
              simp [isS, h17, h19]
              refine (v_Has (m := J'.map isP) (no := (q : Int))).call t3.v ?_
              rw [hxP]
              simp [isP, h15, h19]
              refine (v_Has (m := J'.map isC) (no := (q : Int))).call t1.v ?_
              rw [hxC]
              simp [isC, h15, h19]
              refine (v_Has (m := J'.map isC) (no := (q : Int))).call t1.v ?_
              rw [hxC]
              rw [if_neg (by omega)] at hfs
              simp [isC, h19, w64 (n := (q : Int) + 1) (by omega)]
              exact GH.refl ⟨q + 1, ⟨rfl, by simp [h1], by simp [h5], by simp [h7], by simp [h15], by simp [h16], by simp [h17], by simp [hfs, h18], by simp, by omega, hql⟩, by omega⟩
          · have hq30 : q = J'.length := by omega
            have hfk : frK J' q = kAll J' 1 := by rw [hq30]; rfl
            have h0C : hasM (J'.map isC) 0 = false := by
              have := hasM_map (f := isC) rfl (K := J') (p := 0) (by omega)
              rw [this, show ((0 : Int)).toNat = 0 from rfl, hJok'.low (i := 0) (by omega)]; rfl
            have h1S : hasM (J'.map isS) 1 = false := by
              have := hasM_map (f := isS) rfl (K := J') (p := 1) (by omega)
              rw [this, show ((1 : Int)).toNat = 1 from rfl, hJok'.low (i := 1) (by omega)]; rfl
            rw [hfk] at h18
            simp [h5, h18]
            refine (v_aFree hJok').call hUW.v ?_
            simp [h15]
            refine (v_Has (m := J'.map isC) (no := 0)).call t1.v ?_
            simp [h0C, h16]
            refine (v_Has (m := J'.map isS) (no := 1)).call t2.v ?_
            simp [h1S, h7, w64 (n := (i : Int) + 1) (by omega)]
            exact GH.refl ⟨(i + 1, J'), ⟨hpW, ⟨y, hUW, hyU⟩, hJok', hJl', by simp [h1], by simp [h5], by simp, hlt20⟩, by simp only; omega⟩
      · obtain ⟨Z, hZ⟩ := hpT
        by_cases hlt : i < ls.length
        · have hge : ¬ (i : Int) < 20 := by omega
          simp [h7, hlt, hge]
          refine v_known7.call ?_
          simp [Tryd.results3]
          rw [hZ]
          first | (refine GV.ans hcl ?_; simp []; done) | (refine GV.ans0 ?_; simp []; done)
        · simp [hlt]
          refine v_known7.call ?_
          simp [Tryd.results3]
          rw [hZ]
          first | (refine GV.ans hcl ?_; simp []; done) | (refine GV.ans0 ?_; simp []; done)
  · rw [if_neg hE] at hu1
    subst hu1
    simp [hE, nilP]
    refine v_known7.call ?_
    simp [Tryd.results3]
    obtain ⟨X1, hX1⟩ := hp1
    rw [hX1]
    first | (refine GV.ans hcl ?_; simp []; done) | (refine GV.ans0 ?_; simp []; done)
end Go.Proofs.YtldhfdagmaklaaaDoor.VM
end
section
set_option maxHeartbeats 8000000
set_option linter.unusedVariables false
set_option linter.unusedSimpArgs false

/- the document's allocator: All, right, twice, turn, Take, Commit, Abort. -/
namespace Go.Proofs.YtldhfdagmaklaaaDoor.VM
open Go Go.Proofs AM B
set_option maxRecDepth 100000
/-- The document's pages, in memory of one's own. -/
def RK (H : Hp) (g w : Nat) (t : Bool) (K : List Int) : Prop := H[g]? = some (.vec w (K.map ic) 1 true t)
def putK (H : Hp) (g w : Nat) (t : Bool) (K : List Int) : Hp := H.set g (.vec w (K.map ic) 1 true t)
theorem RK.put {H : Hp} {g w : Nat} {t : Bool} {K K' : List Int} (h : RK H g w t K) : RK (putK H g w t K') g w t K' := by
  unfold putK RK
  exact List.getElem?_set_self (get_lt h)
theorem putK_put {H : Hp} {g w : Nat} {t : Bool} {K K' : List Int} : putK (putK H g w t K) g w t K' = putK H g w t K' := by unfold putK; rw [List.set_set]
theorem RK.self {H : Hp} {g w : Nat} {t : Bool} {K : List Int} (h : RK H g w t K) : putK H g w t K = H := set_self h
theorem RK.app {H X : Hp} {g w : Nat} {t : Bool} {K : List Int} (h : RK H g w t K) : RK (H ++ X) g w t K := by
  unfold RK
  rw [List.getElem?_append_left (get_lt h)]; exact h
/-- The pages of a kind below p. -/
def kUp (K : List Int) (k : Int) (p : Nat) : List Nat := (List.range p).filter fun i => K.getD i 0 == k
theorem kUp_succ (K : List Int) (k : Int) (p : Nat) : kUp K k (p + 1) = if K.getD p 0 = k then kUp K k p ++ [p] else kUp K k p := by
  unfold kUp
  rw [List.range_succ, List.filter_append]
  by_cases h : K.getD p 0 = k
  · rw [if_pos h]; simp only [List.filter_cons, h, beq_self_eq_true]; rfl
  · rw [if_neg h]
    have : (K.getD p 0 == k) = false := by simpa using h
    simp only [List.filter_cons, this]
    simp
theorem kUp_len (K : List Int) (k : Int) (p : Nat) : (kUp K k p).length ≤ p := Nat.le_trans (List.length_filter_le ..) (by simp)
theorem getK {K : List Int} {k : Nat} (h : k < K.length) : ∃ x, K[k]? = some x ∧ K.getD k 0 = x := ⟨K[k], List.getElem?_eq_getElem h, by rw [List.getD_eq_getElem?_getD, List.getElem?_eq_getElem h]; rfl⟩
theorem v_rAll7 {H : Hp} {g w : Nat} {t : Bool} {K : List Int} {k : Int} (h : RK H g w t K) (hl : K.length ≤ 100000) : VC Tryd.prog prims 42 [.own g w, i6 k] H fun u T => u = IS true (is_ (kAll K k)) ∧ T = H := by
  have hgl := get_lt h
  have hX : ∀ X, (H ++ X)[g]? = some (.vec w (K.map ic) 1 true t) := fun X => h.app
  unfold RK at h
  refine v_enter hC [] (fun _ _ => kn_none rfl) Tryd.func42 rfl ok42 (Nat.le_of_ble_eq_true rfl) fun hcl hbl => ?_
  simp
  refine v_loopX hC (fun (p : Nat) e T => ∃ w' t', T = H ++ [.vec w' ((is_ (kUp K k p)).map ic) 1 true t'] ∧ e 0 = .own g w ∧ e 1 = i6 k ∧ e 5 = .own H.length w' ∧ e 6 = i6 p ∧ p ≤ K.length) (fun p => K.length - p) 0 ?_ ?_
  · refine G.nilT0 (s := 1) 5 hcl (Nat.le_refl _) (by omega) (by simp) ?_
    exact ⟨0, true, by simp [kUp, is_], by simp [hgl], by simp, by simp, by simp, by simp⟩
  · rintro p e T ⟨w', t', rfl, h0, h1, h5, h6, hp⟩
    simp [h0, h6, hX]
    refine CondV.dec (fun hlt => ?_) (fun hge => ?_)
    · have hlt : p < K.length := by omega
      obtain ⟨x, hx, hxe⟩ := getK hlt
      have hs := kUp_succ K k p
      have hkl := kUp_len K k p
      have hil : (is_ (kUp K k p)).length = (kUp K k p).length := is_len _
      rw [hxe] at hs
      simp [h0, h1, h6, hX, hx]
      refine ⟨hlt, ?_⟩
      by_cases hxk : x = k
      · rw [if_pos hxk] at hs
        simp [hxk, h5, h6, w64 (n := (p : Int) + 1) (by omega)]
        exact ⟨by rw [hil]; omega, GH.refl ⟨p + 1, ⟨w' + 1, t', by rw [hs, is_app]; simp [is_], by simp [h0], by simp [h1], by simp, by simp, hlt⟩, by omega⟩⟩
      · rw [if_neg hxk] at hs
        simp [hxk, h6, w64 (n := (p : Int) + 1) (by omega)]
        exact GH.refl ⟨p + 1, ⟨w', t', by rw [hs], by simp [h0], by simp [h1], by simp [h5], by simp, hlt⟩, by omega⟩
    · have hpk : kUp K k p = kAll K k := by rw [show p = K.length by omega]; rfl
      rw [hpk]
      simp [h5, Tryd.results42]
      first | (refine GV.ans hcl ?_; simp []; done) | (refine GV.ans0 ?_; simp []; done)
theorem v_right7 {H : Hp} {g w : Nat} {t kk : Bool} {K l : List Int} (h : RK H g w t K) (hl : l.length ≤ 100000) : VC Tryd.prog prims 43 [.own g w, IS kk l] H fun u T => u = bo (inK K.length l) ∧ T = H := by
  unfold RK at h
  refine v_enter hC [] (fun _ _ => kn_none rfl) Tryd.func43 rfl ok43 (Nat.le_of_ble_eq_true rfl) fun hcl hbl => ?_
  simp
  refine v_loopX hC (fun (j : Nat) e T => T = H ∧ e 0 = .own g w ∧ e 1 = IS kk l ∧ e 5 = i6 j ∧ j ≤ l.length ∧ ∀ p ∈ l.take j, 2 ≤ p ∧ p < K.length) (fun j => l.length - j) 0 (G.refl ?_) ?_
  · simp
  · rintro j e T ⟨rfl, h0, h1, h5, hj, hall⟩
    simp [h1, h5]
    refine CondV.dec (fun hlt => ?_) (fun hge => ?_)
    · have hlt : j < l.length := by omega
      obtain ⟨p, hp⟩ : ∃ p, l[j]? = some p := ⟨_, List.getElem?_eq_getElem hlt⟩
      have hpm := List.mem_of_getElem? hp
      have bad : ¬ (2 ≤ p ∧ p < K.length) → inK K.length l = false := fun hb => by
        cases hin : inK K.length l with
        | true => exact absurd (inK_iff.1 hin p hpm) hb
        | false => rfl
      by_cases h2 : p < 2
      · have hb := bad (by omega)
        simp [h1, h5, hp, h2, Tryd.results43]
        exact GV.refl ⟨by rw [hb]; rfl, rfl⟩
      · by_cases h3 : (K.length : Int) ≤ p
        · have hb := bad (by omega)
          simp [h0, h1, h5, hp, h2, h3, h, Tryd.results43]
          exact GV.refl ⟨by rw [hb]; rfl, rfl⟩
        · simp [h0, h1, h5, hp, h2, h3, h, w64 (n := (j : Int) + 1) (by omega)]
          refine GH.refl ⟨j + 1, ⟨rfl, by simp [h0], by simp [h1], by simp, hlt, fun q hq => ?_⟩, by omega⟩
          have hpe : l[j] = p := by rw [List.getElem?_eq_getElem hlt] at hp; exact Option.some.inj hp
          rw [List.take_succ_eq_append_getElem hlt, hpe] at hq
          rcases List.mem_append.1 hq with hq | hq
          · exact hall q hq
          · rw [List.mem_singleton.1 hq]; omega
    · have ht : l.take j = l := List.take_of_length_le (by omega)
      rw [ht] at hall
      have hin := inK_iff.2 hall
      simp [Tryd.results43]
      exact GV.refl ⟨by rw [hin]; rfl, rfl⟩
theorem v_twice7 {kk : Bool} {l : List Int} (hl : l.length ≤ 100000) : A 44 [IS kk l] (bo (TW.twB l)) := by
  intro H
  refine v_enter hC [] (fun _ _ => kn_none rfl) Tryd.func44 rfl ok44 (Nat.le_of_ble_eq_true rfl) fun hcl hbl => ?_
  have yes : ∀ {i j : Nat} (hi : i < j) (hj : j < l.length), l[i]? = l[j]? → TW.twB l = true := fun {i j} hi hj he => by
    cases ht : TW.twB l with
    | true => rfl
    | false =>
      have hnd := (TW.twB_nodup l).1 ht
      rw [List.getElem?_eq_getElem (show i < l.length by omega), List.getElem?_eq_getElem hj] at he
      exact absurd (Option.some.inj he) (List.pairwise_iff_getElem.1 hnd i j (by omega) hj hi)
  simp
  refine v_loopX hC (fun (j : Nat) e T => T = H ∧ e 0 = IS kk l ∧ e 3 = i6 j ∧ j ≤ l.length ∧ (l.take j).Nodup) (fun j => l.length - j) 0 (G.refl ?_) ?_
  · simp
  · rintro j e T ⟨rfl, h0, h3, hj, hnd⟩
    simp [h0, h3]
    refine CondV.dec (fun hlt => ?_) (fun hge => ?_)
    · have hlt : j < l.length := by omega
      obtain ⟨p, hp⟩ : ∃ p, l[j]? = some p := ⟨_, List.getElem?_eq_getElem hlt⟩
      simp
      refine v_loopX hC (fun (i : Nat) e T' => T' = T ∧ e 0 = IS kk l ∧ e 3 = i6 j ∧ e 4 = i6 i ∧ i ≤ j ∧ p ∉ l.take i) (fun i => j - i) 0 (G.refl ?_) ?_
      · exact ⟨rfl, by simp [h0], by simp [h3], by simp, by simp, by simp⟩
      rintro i e T' ⟨rfl, h0, h3, h4, hi, hni⟩
      simp [h3, h4]
      refine CondV.dec (fun hij => ?_) (fun hij => ?_)
      · have hij : i < j := by omega
        obtain ⟨q, hq⟩ : ∃ q, l[i]? = some q := ⟨_, List.getElem?_eq_getElem (by omega)⟩
        simp
        refine v_draw (ord := [0, 1, 2, 3, 4, 5, 6, 7, 8]) (m := 8) (by decide +kernel) (by decide +kernel) ?_
        simp [h0, h3, h4, hp, hq]
        by_cases hpq : q = p
        · have hy := yes hij hlt (by rw [hp, hq, hpq])
          simp [hpq, Tryd.results44]
          first | (refine GV.ans hcl ?_; simp [hy]; done) | (refine GV.ans0 ?_; simp [hy]; done)
        · simp [hpq, h4, w64 (n := (i : Int) + 1) (by omega)]
          refine GH.refl ⟨i + 1, ⟨rfl, by simp [h0], by simp [h3], by simp, hij, fun hm => ?_⟩, by omega⟩
          have hqe : l[i]'(by omega) = q := by rw [List.getElem?_eq_getElem (by omega)] at hq; exact Option.some.inj hq
          rw [List.take_succ_eq_append_getElem (by omega), hqe] at hm
          rcases List.mem_append.1 hm with hm | hm
          · exact hni hm
          · exact hpq (List.mem_singleton.1 hm).symm
      · have hje : i = j := by omega
        rw [hje] at hni
        simp [h3, w64 (n := (j : Int) + 1) (by omega)]
        have hpe : l[j] = p := by rw [List.getElem?_eq_getElem hlt] at hp; exact Option.some.inj hp
        refine GH.refl ⟨j + 1, ⟨rfl, by simp [h0], by simp, hlt, ?_⟩, by omega⟩
        rw [List.take_succ_eq_append_getElem hlt, hpe]
        exact List.nodup_append.2 ⟨hnd, by simp, fun a ha b hb he => hni (by rw [← List.mem_singleton.1 hb, ← he]; exact ha)⟩
    · have ht : l.take j = l := List.take_of_length_le (by omega)
      rw [ht] at hnd
      have hy := (TW.twB_nodup l).2 hnd
      simp [Tryd.results44]
      first | (refine GV.ans hcl ?_; simp [hy]; done) | (refine GV.ans0 ?_; simp [hy]; done)
/-- What is of a kind is of another one. -/
def turnF (K : List Int) (a b : Int) : List Int := K.map fun k => if k = a then b else k
theorem turnF_step {K : List Int} {a b : Int} {j : Nat} (hj : j < K.length) {x : Int} (hx : K[j]? = some x) : (turnF (K.take j) a b ++ K.drop j).set j (if x = a then b else x) = turnF (K.take (j + 1)) a b ++ K.drop (j + 1) := by
  have hxe : K[j] = x := by rw [List.getElem?_eq_getElem hj] at hx; exact Option.some.inj hx
  have hl : (turnF (K.take j) a b).length = j := by unfold turnF; rw [List.length_map, List.length_take]; omega
  rw [List.set_append_right _ _ (by omega), hl, Nat.sub_self, List.drop_eq_getElem_cons hj, List.set_cons_zero, List.take_succ_eq_append_getElem hj, hxe]
  unfold turnF
  rw [List.map_append]
  simp
theorem rk_set {H T : Hp} {g w : Nat} {t : Bool} {J : List Int} (hT : T = putK H g w t J) (j : Nat) (b : Int) : T.set g (.vec w ((J.map ic).set j [V.lit (.int .i64 b)]) 1 true t) = putK H g w t (J.set j b) := by
  rw [hT]; unfold putK; rw [List.set_set, List.map_set]; rfl
theorem set_id {l : List Int} {j : Nat} {x : Int} (h : l[j]? = some x) : l.set j x = l := set_self h
theorem v_turn7 {H : Hp} {g w : Nat} {t : Bool} {K : List Int} {a b : Int} (h : RK H g w t K) (hl : K.length ≤ 100000) : VC Tryd.prog prims 45 [.own g w, i6 a, i6 b] H fun u T => T = putK H g w t (turnF K a b) := by
  refine v_enter hC [] (fun _ _ => kn_none rfl) Tryd.func45 rfl ok45 (Nat.le_of_ble_eq_true rfl) fun hcl hbl => ?_
  simp
  refine v_loopX hC (fun (j : Nat) e T => T = putK H g w t (turnF (K.take j) a b ++ K.drop j) ∧ e 0 = .own g w ∧ e 1 = i6 a ∧ e 2 = i6 b ∧ e 6 = i6 j ∧ j ≤ K.length) (fun j => K.length - j) 0 (G.refl ?_) ?_
  · exact ⟨by simp [turnF, h.self], by simp, by simp, by simp, by simp, by simp⟩
  · rintro j e T ⟨hT, h0, h1, h2, h6, hj⟩
    have hR : RK T g w t (turnF (K.take j) a b ++ K.drop j) := by rw [hT]; exact h.put
    have hlen : (turnF (K.take j) a b ++ K.drop j).length = K.length := by unfold turnF; simp; omega
    obtain ⟨J, hJ⟩ : ∃ J, turnF (K.take j) a b ++ K.drop j = J := ⟨_, rfl⟩
    rw [hJ] at hR hlen
    unfold RK at hR
    simp [h0, h6, hR, hlen]
    refine CondV.dec (fun hlt => ?_) (fun hge => ?_)
    · have hlt : j < K.length := by omega
      obtain ⟨x, hx, hxe⟩ := getK hlt
      have hs := turnF_step (a := a) (b := b) hlt hx
      rw [hJ] at hs
      have hxJ : J[j]? = some x := by
        rw [← hJ, List.getElem?_append_right (by unfold turnF; simp; omega), List.getElem?_drop]
        have : (turnF (K.take j) a b).length = j := by unfold turnF; rw [List.length_map, List.length_take]; omega
        rw [this, Nat.sub_self, Nat.add_zero]
        exact hx
      simp [h0, h1, h6, hR, hxJ]
      refine ⟨by omega, ?_⟩
      by_cases hxa : x = a
      · simp [hxa, h0, h2, h6, hR, hlen, hlt, w64 (n := (j : Int) + 1) (by omega)]
        rw [if_pos hxa] at hs
        refine GH.refl ⟨j + 1, ⟨by rw [← hs]; exact rk_set (hT.trans (by rw [hJ])) j b, by simp [h0], by simp [h1], by simp [h2], by simp, hlt⟩, by omega⟩
      · rw [if_neg hxa, set_id hxJ] at hs
        simp [hxa, h6, w64 (n := (j : Int) + 1) (by omega)]
        refine GH.refl ⟨j + 1, ⟨by rw [hT, hJ, hs], by simp [h0], by simp [h1], by simp [h2], by simp, hlt⟩, by omega⟩
    · have hjk : j = K.length := by omega
      have hJf : J = turnF K a b := by rw [← hJ, hjk, List.take_length, List.drop_length, List.append_nil]
      simp [Tryd.results45]
      exact GV.refl (show T = putK H g w t (turnF K a b) by rw [hT, hJ, hJf])
theorem v_rCommit7 {H : Hp} {g w : Nat} {t : Bool} {K : List Int} (h : RK H g w t K) (hl : K.length ≤ 100000) : VC Tryd.prog prims 21 [.own g w] H fun u T => u = IS true (is_ (kAll K 4)) ∧ T = putK H g w t (commitK K) := by
  refine v_enter hC [] (fun _ _ => kn_none rfl) Tryd.func21 rfl ok21 (Nat.le_of_ble_eq_true rfl) fun hcl hbl => ?_
  simp
  refine CALLv.at (v_rAll7 h hl) fun u T hu => ?_
  obtain ⟨e1, e2⟩ := hu
  subst e1; subst e2
  simp
  refine CALLv.at (v_turn7 (a := 4) (b := 1) h hl) fun u T1 hu => ?_
  have h1 : RK T1 g w t (turnF K 4 1) := by rw [hu]; exact h.put
  simp
  refine CALLv.at (v_turn7 (a := 3) (b := 2) h1 (by unfold turnF; rw [List.length_map]; exact hl)) fun u T2 hu2 => ?_
  simp [Tryd.results21]
  refine GV.refl ⟨rfl, ?_⟩
  have e : turnF (turnF K 4 1) 3 2 = commitK K := by
    unfold turnF commitK
    rw [List.map_map]
    refine List.map_congr_left fun k _ => ?_
    show (if (if k = 4 then 1 else k) = 3 then (2 : Int) else (if k = 4 then 1 else k)) = if k = 4 then 1 else if k = 3 then 2 else k
    by_cases h4 : k = 4
    · rw [if_pos h4, if_pos h4]; rfl
    · rw [if_neg h4, if_neg h4]
  rw [hu2, hu, putK_put, e]
theorem v_rAbort7 {H : Hp} {g w : Nat} {t : Bool} {K : List Int} (h : RK H g w t K) (hl : K.length ≤ 100000) : VC Tryd.prog prims 22 [.own g w] H fun u T => u = IS true (is_ (kAll K 3)) ∧ T = putK H g w t (abortK K) := by
  refine v_enter hC [] (fun _ _ => kn_none rfl) Tryd.func22 rfl ok22 (Nat.le_of_ble_eq_true rfl) fun hcl hbl => ?_
  simp
  refine CALLv.at (v_rAll7 h hl) fun u T hu => ?_
  obtain ⟨e1, e2⟩ := hu
  subst e1; subst e2
  simp
  refine CALLv.at (v_turn7 (a := 3) (b := 1) h hl) fun u T1 hu => ?_
  have h1 : RK T1 g w t (turnF K 3 1) := by rw [hu]; exact h.put
  simp
  refine CALLv.at (v_turn7 (a := 4) (b := 2) h1 (by unfold turnF; rw [List.length_map]; exact hl)) fun u T2 hu2 => ?_
  simp [Tryd.results22]
  refine GV.refl ⟨rfl, ?_⟩
  have e : turnF (turnF K 3 1) 4 2 = abortK K := by
    unfold turnF abortK
    rw [List.map_map]
    refine List.map_congr_left fun k _ => ?_
    show (if (if k = 3 then 1 else k) = 4 then (2 : Int) else (if k = 3 then 1 else k)) = if k = 3 then 1 else if k = 4 then 2 else k
    by_cases h4 : k = 3
    · rw [if_pos h4, if_pos h4]; rfl
    · rw [if_neg h4, if_neg h4]
  rw [hu2, hu, putK_put, e]
/-- One page after the other is set. -/
theorem setK_snoc (K : List Int) (l : List Nat) (i : Nat) (v : Int) : setK K (l ++ [i]) v = (setK K l v).set i v := by unfold setK; rw [List.foldl_append]; rfl
theorem v_rTake7 {H : Hp} {g w : Nat} {t : Bool} {K : List Int} {n : Int} (h : RK H g w t K) (hl : K.length ≤ 100000) : VC Tryd.prog prims 18 [.own g w, i6 n] H fun u T => u = .tup [IS true (is_ (takeL K n)), i6 (takeE K n)] ∧ T = putK H g w t (takeK K n) := by
  refine v_enter hC [] (fun _ _ => kn_none rfl) Tryd.func18 rfl ok18 (Nat.le_of_ble_eq_true rfl) fun hcl hbl => ?_
  have hkl : (kAll K 1).length ≤ K.length := kUp_len K 1 K.length
  simp
  by_cases h0 : n < 0
  · have e : takeE K n = 1 := by unfold takeE; rw [if_pos h0]
    have el : takeL K n = [] := by unfold takeL; rw [if_neg (by rw [e]; omega)]
    simp [h0, Tryd.results18]
    rw [e, takeK_nil (by rw [e]; omega), el, h.self]
    have := GV.ret (H := H) (X := []) (R := fun u T => u = .tup [IS true (is_ []), i6 1] ∧ T = H) (x := .tup [.lit (.slice none 0 0), i6 1]) (.tup [IS true (is_ []), i6 1]) hcl (by simp [is_]) ⟨rfl, rfl⟩
    rw [List.append_nil] at this
    exact this
  simp [h0]
  refine CALLv.at (v_rAll7 h hl) fun u T hu => ?_
  obtain ⟨e1, e2⟩ := hu
  subst e1; subst e2
  by_cases h1 : ((kAll K 1).length : Int) < n
  · have e : takeE K n = 6 := by unfold takeE; rw [if_neg h0, if_pos h1]
    have el : takeL K n = [] := by unfold takeL; rw [if_neg (by rw [e]; omega)]
    simp [is_len, h1, Tryd.results18]
    rw [e, takeK_nil (by rw [e]; omega), el, h.self]
    have := GV.ret (H := T) (X := []) (R := fun u U => u = .tup [IS true (is_ []), i6 6] ∧ U = T) (x := .tup [.lit (.slice none 0 0), i6 6]) (.tup [IS true (is_ []), i6 6]) hcl (by simp [is_]) ⟨rfl, rfl⟩
    rw [List.append_nil] at this
    exact this
  have eE : takeE K n = 0 := by unfold takeE; rw [if_neg h0, if_neg h1]
  have el : takeL K n = (kAll K 1).take n.toNat := by unfold takeL; rw [if_pos eE]
  obtain ⟨m, rfl⟩ : ∃ m : Nat, n = m := ⟨n.toNat, by omega⟩
  have hml : m ≤ (kAll K 1).length := by omega
  simp [is_len, h1]
  refine v_loopX hC (fun (j : Nat) e U => U = putK T g w t (setK K ((kAll K 1).take j) 3) ∧ e 0 = .own g w ∧ e 1 = i6 m ∧ e 6 = IS true (is_ (kAll K 1)) ∧ e 7 = i6 j ∧ j ≤ m) (fun j => m - j) 0 (G.refl ?_) ?_
  · exact ⟨by simp [setK, h.self], by simp, by simp, by simp, by simp, by simp⟩
  · rintro j e U ⟨hU, h0, h1, h6, h7, hj⟩
    simp [h1, h7]
    refine CondV.dec (fun hlt => ?_) (fun hge => ?_)
    · have hlt : j < m := by omega
      obtain ⟨q, hq⟩ : ∃ q, (kAll K 1)[j]? = some q := ⟨_, List.getElem?_eq_getElem (by omega)⟩
      have hqK := (mem_kAll.1 (List.mem_of_getElem? hq)).1
      have hqi : (is_ (kAll K 1))[j]? = some (q : Int) := by unfold is_; rw [List.getElem?_map, hq]; rfl
      have htk : (kAll K 1).take (j + 1) = (kAll K 1).take j ++ [q] := by
        rw [List.take_succ_eq_append_getElem (by omega)]
        congr 2
        rw [List.getElem?_eq_getElem (by omega)] at hq
        exact Option.some.inj hq
      have hR : RK U g w t (setK K ((kAll K 1).take j) 3) := by rw [hU]; exact h.put
      have hlen : (setK K ((kAll K 1).take j) 3).length = K.length := setK_len _ _ _
      have hs := setK_snoc K ((kAll K 1).take j) q 3
      rw [← htk] at hs
      obtain ⟨J, hJ⟩ : ∃ J, setK K ((kAll K 1).take j) 3 = J := ⟨_, rfl⟩
      rw [hJ] at hR hlen hs hU
      unfold RK at hR
      simp [h0, h6, h7, hR, hqi, hlen, hqK, w64 (n := (j : Int) + 1) (by omega)]
      exact GH.refl ⟨j + 1, ⟨by rw [hs]; exact rk_set hU q 3, by simp [h0], by simp [h1], by simp [h6], by simp, hlt⟩, by omega⟩
    · have hjm : j = m := by omega
      subst hjm
      have hbd : bounds (is_ (kAll K 1)).length (is_ (kAll K 1)).length none (some (j : Int)) none = some (0, j, (is_ (kAll K 1)).length) := by
        rw [is_len]; simp [bounds]; omega
      simp [h1, h6, hbd, Tryd.results18]
      rw [eE]
      refine GV.refl ⟨?_, by rw [hU]; unfold takeK; rw [el]; rfl⟩
      rw [el]
      simp [is_, List.map_take]
end Go.Proofs.YtldhfdagmaklaaaDoor.VM
end
section
set_option maxHeartbeats 8000000
set_option linter.unusedVariables false
set_option linter.unusedSimpArgs false

/- the document's allocator: Adopt, Give, New. -/
namespace Go.Proofs.YtldhfdagmaklaaaDoor.VM
open Go Go.Proofs AM B
set_option maxRecDepth 100000
theorem v_rAdopt7 {H : Hp} {g w : Nat} {t kk : Bool} {K l : List Int} (h : RK H g w t K) (hl : l.length ≤ 100000) (hK : K.length ≤ 100000) : VC Tryd.prog prims 23 [.own g w, IS kk l] H fun u T => u = i6 (adoptE K l) ∧ T = putK H g w t (adoptK K l) := by
  refine v_enter hC [] (fun _ _ => kn_none rfl) Tryd.func23 rfl ok23 (Nat.le_of_ble_eq_true rfl) fun hcl hbl => ?_
  simp
  refine CALLv.at (v_right7 (kk := kk) (l := l) h hl) fun u T hu => ?_
  obtain ⟨e1, e2⟩ := hu
  subst e1; subst e2
  cases hin : inK K.length l with
  | false =>
    have e : adoptE K l = 10 := by unfold adoptE; rw [if_pos hin]
    have eK : adoptK K l = K := by unfold adoptK; rw [if_neg (by rw [e]; omega)]
    simp [Tryd.results23]
    exact GV.refl ⟨by rw [e]; rfl, by rw [eK, h.self]⟩
  | true =>
    have hll := inK_iff.1 hin
    have hc : adoptE K l = if (TW.twB l || l.any fun p => decide (kindK K p ≠ 1)) = true then 8 else 0 := by unfold adoptE; rw [if_neg (by simp [hin])]
    have bad : (TW.twB l || l.any fun p => decide (kindK K p ≠ 1)) = true → adoptE K l = 8 ∧ adoptK K l = K := fun hb => by
      rw [if_pos hb] at hc
      exact ⟨hc, by unfold adoptK; rw [if_neg (by rw [hc]; omega)]⟩
    have hk : ∀ p ∈ l, kindK K p = K.getD p.toNat 0 := fun p hp => by
      have := hll p hp
      unfold kindK; rw [if_pos (by omega)]
    have hR := h
    unfold RK at h
    simp
    refine v_loopX hC (fun (j : Nat) e U => U = T ∧ e 0 = .own g w ∧ e 1 = IS kk l ∧ e 5 = i6 j ∧ j ≤ l.length ∧ (∀ p ∈ l.take j, K.getD p.toNat 0 = 1) ∧ (0 < j → TW.twB l = false)) (fun j => l.length - j) 0 (G.refl ?_) ?_
    · simp
    · rintro j e U ⟨rfl, h0, h1, h5, hj, hall, htw⟩
      simp [h1, h5]
      refine CondV.dec (fun hlt => ?_) (fun hge => ?_)
      · have hlt : j < l.length := by omega
        obtain ⟨p, hp⟩ : ∃ p, l[j]? = some p := ⟨_, List.getElem?_eq_getElem hlt⟩
        have hpm := List.mem_of_getElem? hp
        have hpb := hll p hpm
        obtain ⟨x, hx, hxe⟩ := getK (K := K) (k := p.toNat) (by omega)
        obtain ⟨q, rfl⟩ : ∃ q : Nat, p = q := ⟨p.toNat, by omega⟩
        rw [Int.toNat_natCast] at hx hxe
        simp [h0, h1, h5, hp, h, hx]
        refine ⟨by omega, ?_⟩
        by_cases hx1 : x = 1
        · simp [hx1, h1]
          refine (v_twice7 (kk := kk) hl).call ?_
          cases ht : TW.twB l with
          | true =>
            obtain ⟨e, eK⟩ := bad (by rw [ht]; rfl)
            simp [Tryd.results23]
            exact GV.refl ⟨by rw [e]; rfl, by rw [eK, hR.self]⟩
          | false =>
            simp [hx1, h5, w64 (n := (j : Int) + 1) (by omega)]
            refine GH.refl ⟨j + 1, ⟨rfl, by simp [h0], by simp [h1], by simp, hlt, fun r hr => ?_, fun _ => (by first | exact ht | rfl)⟩, by omega⟩
            have hpe : l[j] = (q : Int) := by rw [List.getElem?_eq_getElem hlt] at hp; exact Option.some.inj hp
            rw [List.take_succ_eq_append_getElem hlt, hpe] at hr
            rcases List.mem_append.1 hr with hr | hr
            · exact hall r hr
            · rw [List.mem_singleton.1 hr, Int.toNat_natCast, hxe, hx1]
        · have ha : (l.any fun p => decide (kindK K p ≠ 1)) = true := List.any_eq_true.2 ⟨_, hpm, by rw [hk _ hpm, Int.toNat_natCast, hxe]; simpa using hx1⟩
          obtain ⟨e, eK⟩ := bad (by rw [ha]; simp)
          simp [hx1, Tryd.results23]
          exact GV.refl ⟨by rw [e]; rfl, by rw [eK, hR.self]⟩
      · have ht : l.take j = l := List.take_of_length_le (by omega)
        rw [ht] at hall
        have htw2 : TW.twB l = false := by
          by_cases hl0 : l = []
          · subst hl0; rfl
          · exact htw (by have := List.length_pos_iff.2 hl0; omega)
        have ha : (l.any fun p => decide (kindK K p ≠ 1)) = false := List.any_eq_false.2 fun p hp => by rw [hk p hp, hall p hp]; simp
        have hE0 : adoptE K l = 0 := by rw [hc, htw2, ha]; rfl
        have eK : adoptK K l = setK K (nn l) 3 := by unfold adoptK; rw [if_pos hE0]
        simp
        refine v_loopX hC (fun (i : Nat) e U' => U' = putK U g w t (setK K (nn (l.take i)) 3) ∧ e 0 = .own g w ∧ e 1 = IS kk l ∧ e 6 = i6 i ∧ i ≤ l.length) (fun i => l.length - i) 0 (G.refl ?_) ?_
        · exact ⟨by simp [setK, nn, hR.self], by simp [h0], by simp [h1], by simp, by simp⟩
        rintro i e U' ⟨hU, h0, h1, h6, hi⟩
        simp [h1, h6]
        refine CondV.dec (fun hlt => ?_) (fun hge => ?_)
        · have hlt : i < l.length := by omega
          obtain ⟨p, hp⟩ : ∃ p, l[i]? = some p := ⟨_, List.getElem?_eq_getElem hlt⟩
          have hpm := List.mem_of_getElem? hp
          have hpb := hll p hpm
          obtain ⟨q, rfl⟩ : ∃ q : Nat, p = q := ⟨p.toNat, by omega⟩
          have hpe : l[i] = (q : Int) := by rw [List.getElem?_eq_getElem hlt] at hp; exact Option.some.inj hp
          have htk : nn (l.take (i + 1)) = nn (l.take i) ++ [q] := by
            rw [List.take_succ_eq_append_getElem hlt, hpe]; unfold nn; rw [List.map_append]; simp
          have hRU : RK U' g w t (setK K (nn (l.take i)) 3) := by rw [hU]; exact hR.put
          have hlen : (setK K (nn (l.take i)) 3).length = K.length := setK_len _ _ _
          have hs := setK_snoc K (nn (l.take i)) q 3
          rw [← htk] at hs
          obtain ⟨J, hJ⟩ : ∃ J, setK K (nn (l.take i)) 3 = J := ⟨_, rfl⟩
          rw [hJ] at hRU hlen hs hU
          unfold RK at hRU
          have hqK : q < K.length := by omega
          simp [h0, h1, h6, hRU, hp, hlen, hqK, w64 (n := (i : Int) + 1) (by omega)]
          exact GH.refl ⟨i + 1, ⟨by rw [hs]; exact rk_set hU q 3, by simp [h0], by simp [h1], by simp, hlt⟩, by omega⟩
        · have ht2 : l.take i = l := List.take_of_length_le (by omega)
          rw [ht2] at hU
          simp [Tryd.results23]
          exact GV.refl ⟨by rw [hE0]; rfl, by rw [eK, hU]⟩
set_option maxHeartbeats 8000000 in
theorem v_rGive7 {H : Hp} {g w : Nat} {t kk : Bool} {K l : List Int} (h : RK H g w t K) (hok : okK K) (hl : l.length ≤ 100000) : VC Tryd.prog prims 20 [.own g w, IS kk l] H fun u T => u = i6 (giveE K l) ∧ T = putK H g w t (giveK K l) := by
  refine v_enter hC [] (fun _ _ => kn_none rfl) Tryd.func20 rfl ok20 (Nat.le_of_ble_eq_true rfl) fun hcl hbl => ?_
  simp
  refine CALLv.at (v_right7 (kk := kk) (l := l) h hl) fun u T hu => ?_
  obtain ⟨e1, e2⟩ := hu
  subst e1; subst e2
  cases hin : inK K.length l with
  | false =>
    have e : giveE K l = 10 := by unfold giveE; rw [if_pos hin]
    have eK : giveK K l = K := by unfold giveK; rw [if_neg (by rw [e]; omega)]
    simp [Tryd.results20]
    exact GV.refl ⟨by rw [e]; rfl, by rw [eK, h.self]⟩
  | true =>
    have hll := inK_iff.1 hin
    have hc : giveE K l = if (TW.twB l || l.any (bad7 K)) = true then 11 else 0 := by unfold giveE; rw [if_neg (by simp [hin])]
    have bad : (TW.twB l || l.any (bad7 K)) = true → giveE K l = 11 ∧ giveK K l = K := fun hb => by
      rw [if_pos hb] at hc
      exact ⟨hc, by unfold giveK; rw [if_neg (by rw [hc]; omega)]⟩
    have hk : ∀ p ∈ l, kindK K p = K.getD p.toNat 0 := fun p hp => by
      have := hll p hp
      unfold kindK; rw [if_pos (by omega)]
    have hR := h
    unfold RK at h
    simp
    refine v_loopX hC (fun (j : Nat) e U => U = T ∧ e 0 = .own g w ∧ e 1 = IS kk l ∧ e 5 = i6 j ∧ j ≤ l.length ∧ (∀ p ∈ l.take j, bad7 K p = false) ∧ (0 < j → TW.twB l = false)) (fun j => l.length - j) 0 (G.refl ?_) ?_
    · simp
    · rintro j e U ⟨rfl, h0, h1, h5, hj, hall, htw⟩
      simp [h1, h5]
      refine CondV.dec (fun hlt => ?_) (fun hge => ?_)
      · have hlt : j < l.length := by omega
        obtain ⟨p, hp⟩ : ∃ p, l[j]? = some p := ⟨_, List.getElem?_eq_getElem hlt⟩
        have hpm := List.mem_of_getElem? hp
        have hpb := hll p hpm
        obtain ⟨x, hx, hxe⟩ := getK (K := K) (k := p.toNat) (by omega)
        obtain ⟨q, rfl⟩ : ∃ q : Nat, p = q := ⟨p.toNat, by omega⟩
        rw [Int.toNat_natCast] at hx hxe
        have hqK : q < K.length := by omega
        have hbq : bad7 K q = (decide (x = 1) || decide (x = 4)) := by unfold bad7; rw [hk _ hpm, Int.toNat_natCast, hxe]
        simp [h0, h1, h5, hp, h, hx]
        refine ⟨hqK, ?_⟩
        have isbad : bad7 K q = true → giveE K l = 11 ∧ giveK K l = K := fun hb => bad (by rw [List.any_eq_true.2 ⟨_, hpm, hb⟩]; simp)
        by_cases hx1 : x = 1
        · obtain ⟨e, eK⟩ := isbad (by rw [hbq, hx1]; rfl)
          simp [hx1, Tryd.results20]
          exact GV.refl ⟨by rw [e]; rfl, by rw [eK, hR.self]⟩
        · by_cases hx4 : x = 4
          · obtain ⟨e, eK⟩ := isbad (by rw [hbq, hx4]; rfl)
            simp [hx1, hx4, h0, h1, h5, hp, h, hx, Tryd.results20]
            exact ⟨hqK, GV.refl ⟨by rw [e]; rfl, by rw [eK, hR.self]⟩⟩
          · have hb0 : bad7 K q = false := by rw [hbq]; simp [hx1, hx4]
            simp [hx1, hx4, h0, h1, h5, hp, h, hx]
            refine ⟨hqK, ?_⟩
            refine (v_twice7 (kk := kk) hl).call ?_
            cases ht : TW.twB l with
            | true =>
              obtain ⟨e, eK⟩ := bad (by rw [ht]; rfl)
              simp [Tryd.results20]
              exact GV.refl ⟨by rw [e]; rfl, by rw [eK, hR.self]⟩
            | false =>
              simp [h5, w64 (n := (j : Int) + 1) (by omega)]
              refine GH.refl ⟨j + 1, ⟨rfl, by simp [h0], by simp [h1], by simp, hlt, fun r hr => ?_, fun _ => (by first | exact ht | rfl)⟩, by omega⟩
              have hpe : l[j] = (q : Int) := by rw [List.getElem?_eq_getElem hlt] at hp; exact Option.some.inj hp
              rw [List.take_succ_eq_append_getElem hlt, hpe] at hr
              rcases List.mem_append.1 hr with hr | hr
              · exact hall r hr
              · rw [List.mem_singleton.1 hr, hb0]
      · have ht : l.take j = l := List.take_of_length_le (by omega)
        rw [ht] at hall
        have htw2 : TW.twB l = false := by
          by_cases hl0 : l = []
          · subst hl0; rfl
          · exact htw (by have := List.length_pos_iff.2 hl0; omega)
        have ha : l.any (bad7 K) = false := List.any_eq_false.2 fun p hp => by rw [hall p hp]; simp
        have hE0 : giveE K l = 0 := by rw [hc, htw2, ha]; rfl
        have eK : giveK K l = giveF K l := by unfold giveK; rw [if_pos hE0]
        simp
        refine v_loopX hC (fun (i : Nat) e U' => U' = putK U g w t (giveF K (l.take i)) ∧ e 0 = .own g w ∧ e 1 = IS kk l ∧ e 6 = i6 i ∧ i ≤ l.length) (fun i => l.length - i) 0 (G.refl ?_) ?_
        · exact ⟨by simp [giveF, hR.self], by simp [h0], by simp [h1], by simp, by simp⟩
        rintro i e U' ⟨hU, h0, h1, h6, hi⟩
        simp [h1, h6]
        refine CondV.dec (fun hlt => ?_) (fun hge => ?_)
        · have hlt : i < l.length := by omega
          obtain ⟨p, hp⟩ : ∃ p, l[i]? = some p := ⟨_, List.getElem?_eq_getElem hlt⟩
          have hpm := List.mem_of_getElem? hp
          have hpb := hll p hpm
          obtain ⟨q, rfl⟩ : ∃ q : Nat, p = q := ⟨p.toNat, by omega⟩
          have hpe : l[i] = (q : Int) := by rw [List.getElem?_eq_getElem hlt] at hp; exact Option.some.inj hp
          have hs := giveF_snoc K (l.take i) q
          rw [← hpe, ← List.take_succ_eq_append_getElem hlt, hpe] at hs
          have hRU : RK U' g w t (giveF K (l.take i)) := by rw [hU]; exact hR.put
          have hlen : (giveF K (l.take i)).length = K.length := giveF_len _ _
          obtain ⟨J, hJ⟩ : ∃ J, giveF K (l.take i) = J := ⟨_, rfl⟩
          rw [hJ] at hRU hlen hs hU
          unfold RK at hRU
          have hqK : q < K.length := by omega
          obtain ⟨x, hx, hxe⟩ := getK (K := J) (k := q) (by omega)
          unfold give1 at hs
          rw [Int.toNat_natCast, hxe] at hs
          simp [h0, h1, h6, hRU, hp, hlen, hx]
          refine ⟨by omega, ?_⟩
          by_cases hx3 : x = 3
          · rw [if_pos hx3] at hs
            simp [hx3, h0, h1, h6, hRU, hp, hlen, hqK, w64 (n := (i : Int) + 1) (by omega)]
            exact GH.refl ⟨i + 1, ⟨by rw [hs]; exact rk_set hU q 1, by simp [h0], by simp [h1], by simp, hlt⟩, by omega⟩
          · rw [if_neg hx3] at hs
            simp [hx3, h0, h1, h6, hRU, hp, hlen, hqK, w64 (n := (i : Int) + 1) (by omega)]
            exact GH.refl ⟨i + 1, ⟨by rw [hs]; exact rk_set hU q 4, by simp [h0], by simp [h1], by simp, hlt⟩, by omega⟩
        · have ht2 : l.take i = l := List.take_of_length_le (by omega)
          rw [ht2] at hU
          simp [Tryd.results20]
          exact GV.refl ⟨by rw [hE0]; rfl, by rw [eK, hU]⟩
end Go.Proofs.YtldhfdagmaklaaaDoor.VM
end
section
set_option maxHeartbeats 8000000
set_option linter.unusedVariables false
set_option linter.unusedSimpArgs false

/- the document's allocator: New; tells. -/
namespace Go.Proofs.YtldhfdagmaklaaaDoor.VM
open Go Go.Proofs AM B
set_option maxRecDepth 100000
theorem flipN_nodup : ∀ {l : List Int} {m : List Bool}, (∀ p ∈ l, mayM m p = true) → (flipN true m l = l.length ↔ l.Nodup ∧ ∀ p ∈ l, m.getD p.toNat false = false)
  | [], m, _ => by simp [flipN]
  | p :: l, m, h => by
    have hp := h p (by simp)
    have hp2 : 0 ≤ p ∧ p < m.length := by unfold mayM at hp; exact of_decide_eq_true hp
    obtain ⟨q, rfl⟩ : ∃ q : Nat, p = q := ⟨p.toNat, by omega⟩
    have hf1 : flip1 true m (q : Int) = m.set q true := flip1_in (by omega)
    have ih := flipN_nodup (l := l) (m := m.set q true) fun r hr => by
      have := h r (by simp [hr])
      unfold mayM at this ⊢
      rw [List.length_set]; exact this
    have hle := flipN_le true l (m.set q true)
    have hu : flipN true m ((q : Int) :: l) = (if m.getD q false = true then 0 else 1) + flipN true (m.set q true) l := by
      show (if mayM m q && (m.getD (q : Int).toNat false != true) then 1 else 0) + flipN true (flip1 true m q) l = _
      rw [hf1, hp, Int.toNat_natCast]
      cases m.getD q false <;> rfl
    rw [hu, List.length_cons, List.nodup_cons]
    have hset : ∀ r ∈ l, (m.set q true).getD r.toNat false = false ↔ r ≠ q ∧ m.getD r.toNat false = false := fun r hr => by
      have hr2 : 0 ≤ r ∧ r < m.length := by
        have := h r (by simp [hr])
        unfold mayM at this; exact of_decide_eq_true this
      rw [List.getD_eq_getElem?_getD, List.getElem?_set]
      by_cases hrq : q = r.toNat
      · subst hrq
        rw [if_pos rfl, if_pos (by omega)]
        constructor
        · intro h; cases h
        · intro h; exact absurd (by omega) h.1
      · rw [if_neg hrq, ← List.getD_eq_getElem?_getD]
        exact ⟨fun h => ⟨by omega, h⟩, fun h => h.2⟩
    cases hb : m.getD q false with
    | true =>
      rw [if_pos rfl]
      constructor
      · intro h; omega
      · intro h
        have := h.2 q (by simp)
        rw [Int.toNat_natCast, hb] at this
        cases this
    | false =>
      rw [if_neg (by simp)]
      constructor
      · intro h
        obtain ⟨h1, h2⟩ := ih.1 (by omega)
        refine ⟨⟨fun hm => ((hset _ hm).1 (h2 _ hm)).1 rfl, h1⟩, fun r hr => ?_⟩
        rcases List.mem_cons.1 hr with rfl | hr
        · rw [Int.toNat_natCast, hb]
        · exact ((hset r hr).1 (h2 r hr)).2
      · rintro ⟨⟨h1, h2⟩, h3⟩
        have := ih.2 ⟨h2, fun r hr => (hset r hr).2 ⟨fun e => h1 (by rw [← e]; exact hr), h3 r (by simp [hr])⟩⟩
        omega
theorem newE_in {n : Nat} {l : List Int} (h : 2 ≤ n) (h2 : n ≤ 2048) : newE n l = if inK n l = false then 10 else if TW.twB l = true then 8 else 0 := by
  unfold newE
  rw [if_neg (by omega), Int.toNat_natCast]
  cases hin : inK n l with
  | false => rfl
  | true =>
    have hll := inK_iff.1 hin
    simp only [Bool.true_eq_false, if_false]
    have hf := flipN_nodup (l := l) (m := List.replicate n false) fun p hp => by
      have := hll p hp
      unfold mayM
      rw [List.length_replicate]
      exact decide_eq_true (by omega)
    have hz : ∀ p ∈ l, (List.replicate n false).getD p.toNat false = false := fun p hp => by
      have := hll p hp
      rw [List.getD_eq_getElem?_getD, List.getElem?_replicate_of_lt (by omega)]; rfl
    by_cases hd : l.Nodup
    · rw [(TW.twB_nodup l).2 hd, if_neg (fun h => h (hf.2 ⟨hd, hz⟩)), if_neg (by simp)]
    · have ht : TW.twB l = true := by
        cases h : TW.twB l with
        | true => rfl
        | false => exact absurd ((TW.twB_nodup l).1 h) hd
      rw [ht, if_pos (fun h => hd (hf.1 h).1), if_pos rfl]
theorem ints_ext {a b : List Int} (hl : a.length = b.length) (h : ∀ i, i < a.length → a.getD i 0 = b.getD i 0) : a = b := by
  apply List.ext_getElem hl
  intro i h1 h2
  have := h i h1
  rw [List.getD_eq_getElem?_getD, List.getD_eq_getElem?_getD, List.getElem?_eq_getElem h1, List.getElem?_eq_getElem h2] at this
  exact this
theorem K0_getD {n i : Nat} (h : 2 ≤ n) (hi : i < n) : (K0 n).getD i 0 = if i < 2 then 0 else 1 := by
  unfold K0
  rcases (show i = 0 ∨ i = 1 ∨ 2 ≤ i by omega) with rfl | rfl | h2
  · rfl
  · rfl
  · obtain ⟨j, rfl⟩ : ∃ j, i = j + 2 := ⟨i - 2, by omega⟩
    rw [if_neg (by omega)]
    simp only [List.getD_cons_succ]
    rw [List.getD_eq_getElem?_getD, List.getElem?_replicate_of_lt (by omega)]; rfl
theorem setK_get {v : Int} {q : Nat} : ∀ {l : List Nat} {K : List Int}, (setK K l v).getD q 0 = if q ∈ l ∧ q < K.length then v else K.getD q 0
  | [], K => by simp [setK]
  | i :: l, K => by
    show (setK (K.set i v) l v).getD q 0 = _
    rw [setK_get, List.length_set, getD_set]
    by_cases h1 : q ∈ l ∧ q < K.length
    · rw [if_pos h1, if_pos ⟨by simp [h1.1], h1.2⟩]
    · rw [if_neg h1]
      by_cases h2 : i = q ∧ q < K.length
      · rw [if_pos h2, if_pos ⟨by simp [h2.1], h2.2⟩]
      · rw [if_neg h2, if_neg]
        rintro ⟨hm, hl⟩
        rcases List.mem_cons.1 hm with rfl | hm
        · exact h2 ⟨rfl, hl⟩
        · exact h1 ⟨hm, hl⟩
theorem v_rNew7 {H : Hp} {n : Nat} {kk : Bool} {l : List Int} (h2 : 2 ≤ n) (hn : n ≤ 2048) (hl : l.length ≤ 100000) : VC Tryd.prog prims 17 [i6 n, IS kk l] H fun u T => if newE n l = 0 then ∃ w t, u = .tup [.own H.length w, i6 0] ∧ T = H ++ [.vec w ((newK n l).map ic) 1 true t] else (∃ m, u = .tup [m, i6 (newE n l)]) ∧ ∃ X, T = H ++ X := by
  have hE := newE_in (l := l) h2 hn
  refine v_enter hC [] (fun _ _ => kn_none rfl) Tryd.func17 rfl ok17 (Nat.le_of_ble_eq_true rfl) fun hcl hbl => ?_
  simp
  refine ⟨by omega, ?_⟩
  have hz : List.replicate n [V.lit (Value.int IntKind.i64 0)] = (List.replicate n 0).map ic := by simp [ic]
  rw [hz]
  refine v_loopX hC (fun (i : Nat) e T => ∃ (w : Nat) (t : Bool) (J : List Int), T = H ++ [.vec w (J.map ic) 1 true t] ∧ J.length = n ∧ (∀ j, j < n → J.getD j 0 = if 2 ≤ j ∧ j < i then 1 else 0) ∧ e 0 = i6 n ∧ e 1 = IS kk l ∧ e 6 = .own H.length w ∧ e 7 = i6 i ∧ 2 ≤ i ∧ i ≤ n) (fun i => n - i) 2 (G.refl ?_) ?_
  · exact ⟨_, _, List.replicate n 0, rfl, by simp, fun j hj => by rw [if_neg (by omega), List.getD_eq_getElem?_getD, List.getElem?_replicate_of_lt hj]; rfl, by simp, by simp, by simp, by simp, by omega, h2⟩
  rintro i e T ⟨w, t, J, rfl, hJl, hJ, h0, h1, h6, h7, hi2, hi⟩
  simp [h0, h7]
  refine CondV.dec (fun hlt => ?_) (fun hge => ?_)
  · have hlt : i < n := by omega
    have hiJ : i < J.length := by omega
    simp [h0, h6, h7, hiJ, w64 (n := (i : Int) + 1) (by omega)]
    refine GH.refl ⟨i + 1, ⟨w, t, J.set i 1, by simp [ic, List.map_set], by rw [List.length_set, hJl], fun j hj => ?_, by simp [h0], by simp [h1], by simp [h6], by simp, by omega, hlt⟩, by omega⟩
    rw [getD_set]
    by_cases hij : i = j
    · rw [if_pos ⟨hij, by omega⟩, if_pos (by omega)]
    · rw [if_neg (by omega), hJ j hj]
      by_cases h : 2 ≤ j ∧ j < i
      · rw [if_pos h, if_pos (by omega)]
      · rw [if_neg h, if_neg (by omega)]
  have hJK : J = K0 n := ints_ext (by rw [K0_len h2, hJl]) fun j hj => by
    rw [hJ j (by omega), K0_getD h2 (by omega)]
    by_cases h : j < 2
    · rw [if_neg (by omega), if_pos h]
    · rw [if_pos (by omega), if_neg h]
  subst hJK
  simp
  refine v_loopX hC (fun (j : Nat) e T => T = H ++ [.vec w ((K0 n).map ic) 1 true t] ∧ e 0 = i6 n ∧ e 1 = IS kk l ∧ e 6 = .own H.length w ∧ e 8 = i6 j ∧ j ≤ l.length ∧ ∀ p ∈ l.take j, 2 ≤ p ∧ p < n) (fun j => l.length - j) 0 (G.refl ?_) ?_
  · exact ⟨rfl, by simp [h0], by simp [h1], by simp [h6], by simp, by simp, by simp⟩
  rintro j e T ⟨rfl, h0, h1, h6, h8, hj, hall⟩
  simp [h1, h8]
  refine CondV.dec (fun hlt => ?_) (fun hge => ?_)
  · have hlt : j < l.length := by omega
    obtain ⟨p, hp⟩ : ∃ p, l[j]? = some p := ⟨_, List.getElem?_eq_getElem hlt⟩
    have hpm := List.mem_of_getElem? hp
    have bad : ¬ (2 ≤ p ∧ p < n) → newE n l = 10 := fun hb => by
      have : inK n l = false := by
        cases hin : inK n l with
        | true => exact absurd (inK_iff.1 hin p hpm) hb
        | false => rfl
      rw [hE, if_pos this]
    by_cases h2 : p < 2
    · have hb := bad (by omega)
      simp [h1, h8, hp, h2, Tryd.results17]
      refine GV.refl ?_
      show (if newE (n : Int) l = 0 then (_ : Prop) else _)
      rw [if_neg (by rw [hb]; omega), hb]
      exact ⟨⟨_, rfl⟩, _, rfl⟩
    · by_cases h3 : (n : Int) ≤ p
      · have hb := bad (by omega)
        simp [h0, h1, h8, hp, h2, h3, Tryd.results17]
        refine GV.refl ?_
        show (if newE (n : Int) l = 0 then (_ : Prop) else _)
        rw [if_neg (by rw [hb]; omega), hb]
        exact ⟨⟨_, rfl⟩, _, rfl⟩
      · simp [h0, h1, h8, hp, h2, h3, w64 (n := (j : Int) + 1) (by omega)]
        refine GH.refl ⟨j + 1, ⟨rfl, by simp [h0], by simp [h1], by simp [h6], by simp, hlt, fun q hq => ?_⟩, by omega⟩
        have hpe : l[j] = p := by rw [List.getElem?_eq_getElem hlt] at hp; exact Option.some.inj hp
        rw [List.take_succ_eq_append_getElem hlt, hpe] at hq
        rcases List.mem_append.1 hq with hq | hq
        · exact hall q hq
        · rw [List.mem_singleton.1 hq]; omega
  have htl : l.take j = l := List.take_of_length_le (by omega)
  rw [htl] at hall
  have hin := inK_iff.2 hall
  rw [if_neg (by rw [hin]; simp)] at hE
  simp
  refine v_loopX hC (fun (j : Nat) e T => ∃ w t, T = H ++ [.vec w ((setK (K0 n) (nn (l.take j)) 2).map ic) 1 true t] ∧ e 1 = IS kk l ∧ e 6 = .own H.length w ∧ e 9 = i6 j ∧ j ≤ l.length ∧ (l.take j).Nodup) (fun j => l.length - j) 0 (G.refl ?_) ?_
  · exact ⟨w, t, by simp [setK, nn], by simp [h1], by simp [h6], by simp, by simp, by simp⟩
  rintro i e T ⟨w, t, rfl, h1, h6, h9, hi, hnd⟩
  simp [h1, h9]
  refine CondV.dec (fun hlt => ?_) (fun hge => ?_)
  · have hlt : i < l.length := by omega
    obtain ⟨p, hp⟩ : ∃ p, l[i]? = some p := ⟨_, List.getElem?_eq_getElem hlt⟩
    have hpm := List.mem_of_getElem? hp
    have hpb := hall p hpm
    obtain ⟨q, rfl⟩ : ∃ q : Nat, p = q := ⟨p.toNat, by omega⟩
    have hpe : l[i] = (q : Int) := by rw [List.getElem?_eq_getElem hlt] at hp; exact Option.some.inj hp
    have hts : l.take (i + 1) = l.take i ++ [(q : Int)] := by rw [List.take_succ_eq_append_getElem hlt, hpe]
    have htk : nn (l.take (i + 1)) = nn (l.take i) ++ [q] := by rw [hts]; unfold nn; rw [List.map_append]; simp
    have hlen : (setK (K0 n) (nn (l.take i)) 2).length = n := by rw [setK_len, K0_len h2]
    have hs := setK_snoc (K0 n) (nn (l.take i)) q 2
    rw [← htk] at hs
    have hqn : q < n := by omega
    have hmem : (setK (K0 n) (nn (l.take i)) 2).getD q 0 = 2 ↔ (q : Int) ∈ l.take i := by
      rw [setK_get]
      have hm : q ∈ nn (l.take i) ↔ (q : Int) ∈ l.take i := by
        unfold nn
        rw [List.mem_map]
        constructor
        · rintro ⟨r, hr, he⟩
          have := hall r (List.mem_of_mem_take hr)
          rw [show (q : Int) = r by omega]; exact hr
        · intro h
          exact ⟨q, h, by simp⟩
      by_cases hq : (q : Int) ∈ l.take i
      · rw [if_pos ⟨hm.2 hq, by rw [K0_len h2]; exact hqn⟩]
        exact ⟨fun _ => hq, fun _ => rfl⟩
      · rw [if_neg (fun h => hq (hm.1 h.1)), K0_getD h2 hqn]
        constructor
        · intro h; split at h <;> cases h
        · intro h; exact absurd h hq
    obtain ⟨J, hJ⟩ : ∃ J, setK (K0 n) (nn (l.take i)) 2 = J := ⟨_, rfl⟩
    rw [hJ] at hlen hs hmem ⊢
    have hqJ : q < J.length := by omega
    obtain ⟨x, hx, hxe⟩ := getK (K := J) (k := q) hqJ
    rw [hxe] at hmem
    simp [h1, h6, h9, hp, hx]
    refine ⟨hqJ, ?_⟩
    by_cases hx2 : x = 2
    · have ht : TW.twB l = true := by
        cases h : TW.twB l with
        | true => rfl
        | false =>
          have hn := (TW.twB_nodup l).1 h
          rw [← List.take_append_drop (i + 1) l, hts, List.append_assoc, List.nodup_append] at hn
          exact absurd rfl (hn.2.2 q (hmem.1 hx2) q (by simp))
      rw [if_pos ht] at hE
      simp [hx2, Tryd.results17]
      refine GV.refl ?_
      show (if newE (n : Int) l = 0 then (_ : Prop) else _)
      rw [if_neg (by rw [hE]; omega), hE]
      exact ⟨⟨_, rfl⟩, _, rfl⟩
    · simp [hx2, h1, h6, h9, hp, hqJ, w64 (n := (i : Int) + 1) (by omega)]
      refine GH.refl ⟨i + 1, ⟨w, t, by rw [hs]; simp [ic, List.map_set], by simp [h1], by simp [h6], by simp, hlt, ?_⟩, by omega⟩
      rw [hts]
      exact List.nodup_append.2 ⟨hnd, by simp, fun a ha b hb he => hx2 (hmem.2 (by rw [← List.mem_singleton.1 hb, ← he]; exact ha))⟩
  · have htl : l.take i = l := List.take_of_length_le (by omega)
    rw [htl] at hnd
    rw [(TW.twB_nodup l).2 hnd, if_neg (by simp)] at hE
    rw [htl]
    simp [h6, Tryd.results17]
    refine GV.refl ?_
    show (if newE (n : Int) l = 0 then (_ : Prop) else _)
    rw [if_pos hE]
    exact ⟨w, t, rfl, rfl⟩
/-- The pages of two kinds. -/
theorem cnt_c (K : List Int) : (allN (K.map isC)).length = (kAll K 2).length + (kAll K 4).length := by
  rw [allN_map rfl, count_range K isC, show (kAll K 2).length = K.countP (fun k => k == 2) by unfold kAll; exact count_range K (fun k => k == 2), show (kAll K 4).length = K.countP (fun k => k == 4) by unfold kAll; exact count_range K (fun k => k == 4)]
  induction K with
  | nil => rfl
  | cons k K ih =>
    rw [List.countP_cons, List.countP_cons, List.countP_cons, ih]
    unfold isC
    by_cases h2 : k = 2
    · subst h2; simp; omega
    · by_cases h4 : k = 4
      · subst h4; simp; omega
      · simp [h2, h4]
theorem all_s (K : List Int) : allN (K.map isS) = kAll K 3 := allN_map rfl K
theorem all_p (K : List Int) : allN (K.map isP) = kAll K 4 := allN_map rfl K
set_option maxHeartbeats 8000000 in
theorem v_tells7 {H : Hp} {g gk wk : Nat} {t : Bool} {K : List Int} {page : Int} (h : AV H g K) (hR : RK H gk wk t K) (hK : okK K) : VC Tryd.prog prims 24 [.ptr g 0, .own gk wk, i6 page] H fun u T => u = bo true ∧ T = H := by
  have hl := hK.len
  have hgk := get_lt hR
  refine v_enter hC [] (fun _ _ => kn_none rfl) Tryd.func24 rfl ok24 (Nat.le_of_ble_eq_true rfl) fun hcl hbl => ?_
  simp
  refine CALLv.at (v_Sets h) fun u T hu => ?_
  obtain ⟨a, b, c, e1, gc1, gc2, gc3, rfl, rfl, rfl, ⟨X1, hX1⟩, t1, t2, t3⟩ := hu
  subst e1
  have hT : AV T g K := by rw [hX1]; exact h.app
  have hRT : RK T gk wk t K := by rw [hX1]; exact hR.app
  simp
  refine CALLv.at (v_rAll7 (k := 2) hRT.app (by omega)) fun u U hu => ?_
  obtain ⟨e1, e2⟩ := hu
  subst e1; subst e2
  simp
  have hk2 : (kAll K 2).length ≤ K.length := kUp_len K 2 K.length
  have hk4 : (kAll K 4).length ≤ K.length := kUp_len K 4 K.length
  refine ⟨by rw [is_len]; omega, ?_⟩
  refine CALLv.at (v_rAll7 (k := 4) hRT.app (by omega)) fun u U hu => ?_
  obtain ⟨e1, e2⟩ := hu
  subst e1; subst e2
  simp
  refine ⟨by rw [is_len, is_len]; omega, ?_⟩
  rw [← List.map_append, ← is_app]
  obtain ⟨A, hA⟩ : ∃ A, kAll K 2 ++ kAll K 4 = A := ⟨_, rfl⟩
  have hAl : A.length = (kAll K 2).length + (kAll K 4).length := by rw [← hA, List.length_append]
  have hAm : ∀ i ∈ A, i < K.length ∧ isC (K.getD i 0) = true := fun i hi => by
    rw [← hA] at hi
    rcases List.mem_append.1 hi with h | h
    · have := mem_kAll.1 h; exact ⟨this.1, by rw [this.2]; rfl⟩
    · have := mem_kAll.1 h; exact ⟨this.1, by rw [this.2]; rfl⟩
  rw [hA]
  obtain ⟨U, hU⟩ : ∃ U, T ++ [Ob.vec 2 ((is_ A).map ic) 1 true true] = U := ⟨_, rfl⟩
  have hUA : U[T.length]? = some (.vec 2 ((is_ A).map ic) 1 true true) := by rw [← hU]; simp
  have hUK : AV U g K := by rw [← hU]; exact hT.app
  have hUR : RK U gk wk t K := by rw [← hU]; exact hRT.app
  have u1 := t1.v.app (X := [Ob.vec 2 ((is_ A).map ic) 1 true true])
  have u2 := t2.v.app (X := [Ob.vec 2 ((is_ A).map ic) 1 true true])
  have u3 := t3.v.app (X := [Ob.vec 2 ((is_ A).map ic) 1 true true])
  rw [hU] at u1 u2 u3
  have hUX : U = H ++ (X1 ++ [Ob.vec 2 ((is_ A).map ic) 1 true true]) := by rw [← hU, hX1, List.append_assoc]
  rw [hU]
  have hUR' := hUR
  unfold RK at hUR'
  by_cases hp : 0 ≤ page ∧ page < K.length
  · obtain ⟨q, rfl⟩ : ∃ q : Nat, page = q := ⟨page.toNat, by omega⟩
    have hq : q < K.length := by omega
    obtain ⟨y, hy, hye⟩ := getK hq
    have hk : kindK K (q : Int) = y := by unfold kindK; rw [if_pos (by omega), Int.toNat_natCast, hye]
    simp [hUR', hp.2, hy]
    refine ⟨hq, ?_⟩
    refine v_Pages.call hUK ?_
    simp [hUR']
    refine (v_aFree hK).call hUK ?_
    simp
    refine CALLv.at (v_rAll7 (k := 1) hUR (by omega)) fun u U1 hu => ?_
    obtain ⟨e1, e2⟩ := hu
    subst e1; subst e2
    simp [is_len]
    refine (v_Kind hK).call hUK ?_
    rw [hk]
    simp
    refine (v_All (m := K.map isS)).call u2 ?_
    simp
    refine CALLv.at (v_rAll7 (k := 3) hUR (by omega)) fun u U2 hu => ?_
    obtain ⟨e1, e2⟩ := hu
    subst e1; subst e2
    rw [all_s]
    simp
    refine (v_SameI (kk := true) (km := true) (l := is_ (kAll K 3)) (m := is_ (kAll K 3)) (by rw [is_len]; have := kUp_len K 3 K.length; unfold kUp at this; unfold kAll; omega)).call ?_
    simp
    refine (v_All (m := K.map isP)).call u3 ?_
    simp
    refine CALLv.at (v_rAll7 (k := 4) hUR (by omega)) fun u U3 hu => ?_
    obtain ⟨e1, e2⟩ := hu
    subst e1; subst e2
    rw [all_p]
    simp
    refine (v_SameI (kk := true) (km := true) (l := is_ (kAll K 4)) (m := is_ (kAll K 4)) (by rw [is_len]; omega)).call ?_
    simp
    refine (v_Count (m := K.map isC)).call u1 ?_
    rw [cnt_c, ← hAl]
    simp [hUA, is_len]
    refine v_loopX hC (fun (i : Nat) e W => W = U3 ∧ e 0 = .ptr g 0 ∧ e 1 = .own gk wk ∧ e 7 = .ptr gc1 0 ∧ e 10 = .own T.length 2 ∧ e 12 = i6 i ∧ i ≤ A.length) (fun i => A.length - i) 0 (G.refl ?_) ?_
    · exact ⟨rfl, by simp, by simp, by simp, by simp, by simp, by simp⟩
    rintro i e W ⟨rfl, h0, h1, h7, h10, h12, hi⟩
    simp [h10, h12, hUA, is_len]
    refine CondV.dec (fun hlt => ?_) (fun hge => ?_)
    · have hlt : i < A.length := by omega
      obtain ⟨q, hq⟩ : ∃ q, A[i]? = some q := ⟨_, List.getElem?_eq_getElem hlt⟩
      have hqm := hAm q (List.mem_of_getElem? hq)
      have hqi : (is_ A)[i]? = some (q : Int) := by unfold is_; rw [List.getElem?_map, hq]; rfl
      have hh := hasM_map (f := isC) rfl (K := K) (p := (q : Int)) (by omega)
      rw [Int.toNat_natCast, hqm.2] at hh
      simp [h7, h10, h12, hUA, hqi]
      refine ⟨by rw [is_len]; exact hlt, ?_⟩
      refine (v_Has (m := K.map isC) (no := (q : Int))).call u1 ?_
      rw [hh]
      simp [h12, w64 (n := (i : Int) + 1) (by omega)]
      exact GH.refl ⟨i + 1, ⟨rfl, by simp [h0], by simp [h1], by simp [h7], by simp [h10], by simp, hlt⟩, by omega⟩
    simp
    refine v_loopX hC (fun (i : Nat) e W' => W' = W ∧ e 0 = .ptr g 0 ∧ e 1 = .own gk wk ∧ e 13 = i6 i ∧ i ≤ K.length) (fun i => K.length - i) 0 (G.refl ?_) ?_
    · exact ⟨rfl, by simp [h0], by simp [h1], by simp, by simp⟩
    rintro j e W' ⟨rfl, h0, h1, h13, hj⟩
    simp [h1, h13, hUR']
    refine CondV.dec (fun hlt => ?_) (fun hge => ?_)
    · have hlt : j < K.length := by omega
      obtain ⟨x, hx, hxe⟩ := getK hlt
      have hkj : kindK K (j : Int) = x := by unfold kindK; rw [if_pos (by omega), Int.toNat_natCast, hxe]
      simp
      refine v_draw (ord := [0, 1, 2, 3, 4, 5, 6, 7]) (m := 7) (by decide +kernel) (by decide +kernel) ?_
      simp [h0, h1, h13]
      refine (v_Kind hK).call hUK ?_
      rw [hkj]
      simp [h1, h13, hUR', hx]
      exact ⟨hlt, by simp [h13, w64 (n := (j : Int) + 1) (by omega)]; exact GH.refl ⟨j + 1, ⟨rfl, by simp [h0], by simp [h1], by simp, hlt⟩, by omega⟩⟩
    simp [Tryd.results24]
    rw [hUX]
    first | (refine GV.ans hcl ?_; simp []; done) | (refine GV.ans0 ?_; simp []; done)
  · have hk : kindK K page = 5 := by unfold kindK; rw [if_neg hp]
    by_cases h0 : 0 ≤ page
    · have h1 : ¬ page < K.length := by omega
      simp [hUR', h0, h1]
      refine v_Pages.call hUK ?_
      simp [hUR']
      refine (v_aFree hK).call hUK ?_
      simp
      refine CALLv.at (v_rAll7 (k := 1) hUR (by omega)) fun u U1 hu => ?_
      obtain ⟨e1, e2⟩ := hu
      subst e1; subst e2
      simp [is_len]
      refine (v_Kind hK).call hUK ?_
      rw [hk]
      simp
      refine (v_All (m := K.map isS)).call u2 ?_
      simp
      refine CALLv.at (v_rAll7 (k := 3) hUR (by omega)) fun u U2 hu => ?_
      obtain ⟨e1, e2⟩ := hu
      subst e1; subst e2
      rw [all_s]
      simp
      refine (v_SameI (kk := true) (km := true) (l := is_ (kAll K 3)) (m := is_ (kAll K 3)) (by rw [is_len]; have := kUp_len K 3 K.length; unfold kUp at this; unfold kAll; omega)).call ?_
      simp
      refine (v_All (m := K.map isP)).call u3 ?_
      simp
      refine CALLv.at (v_rAll7 (k := 4) hUR (by omega)) fun u U3 hu => ?_
      obtain ⟨e1, e2⟩ := hu
      subst e1; subst e2
      rw [all_p]
      simp
      refine (v_SameI (kk := true) (km := true) (l := is_ (kAll K 4)) (m := is_ (kAll K 4)) (by rw [is_len]; omega)).call ?_
      simp
      refine (v_Count (m := K.map isC)).call u1 ?_
      rw [cnt_c, ← hAl]
      simp [hUA, is_len]
      refine v_loopX hC (fun (i : Nat) e W => W = U3 ∧ e 0 = .ptr g 0 ∧ e 1 = .own gk wk ∧ e 7 = .ptr gc1 0 ∧ e 10 = .own T.length 2 ∧ e 12 = i6 i ∧ i ≤ A.length) (fun i => A.length - i) 0 (G.refl ?_) ?_
      · exact ⟨rfl, by simp, by simp, by simp, by simp, by simp, by simp⟩
      rintro i e W ⟨rfl, h0, h1, h7, h10, h12, hi⟩
      simp [h10, h12, hUA, is_len]
      refine CondV.dec (fun hlt => ?_) (fun hge => ?_)
      · have hlt : i < A.length := by omega
        obtain ⟨q, hq⟩ : ∃ q, A[i]? = some q := ⟨_, List.getElem?_eq_getElem hlt⟩
        have hqm := hAm q (List.mem_of_getElem? hq)
        have hqi : (is_ A)[i]? = some (q : Int) := by unfold is_; rw [List.getElem?_map, hq]; rfl
        have hh := hasM_map (f := isC) rfl (K := K) (p := (q : Int)) (by omega)
        rw [Int.toNat_natCast, hqm.2] at hh
        simp [h7, h10, h12, hUA, hqi]
        refine ⟨by rw [is_len]; exact hlt, ?_⟩
        refine (v_Has (m := K.map isC) (no := (q : Int))).call u1 ?_
        rw [hh]
        simp [h12, w64 (n := (i : Int) + 1) (by omega)]
        exact GH.refl ⟨i + 1, ⟨rfl, by simp [h0], by simp [h1], by simp [h7], by simp [h10], by simp, hlt⟩, by omega⟩
      simp
      refine v_loopX hC (fun (i : Nat) e W' => W' = W ∧ e 0 = .ptr g 0 ∧ e 1 = .own gk wk ∧ e 13 = i6 i ∧ i ≤ K.length) (fun i => K.length - i) 0 (G.refl ?_) ?_
      · exact ⟨rfl, by simp [h0], by simp [h1], by simp, by simp⟩
      rintro j e W' ⟨rfl, h0, h1, h13, hj⟩
      simp [h1, h13, hUR']
      refine CondV.dec (fun hlt => ?_) (fun hge => ?_)
      · have hlt : j < K.length := by omega
        obtain ⟨x, hx, hxe⟩ := getK hlt
        have hkj : kindK K (j : Int) = x := by unfold kindK; rw [if_pos (by omega), Int.toNat_natCast, hxe]
        simp
        refine v_draw (ord := [0, 1, 2, 3, 4, 5, 6, 7]) (m := 7) (by decide +kernel) (by decide +kernel) ?_
        simp [h0, h1, h13]
        refine (v_Kind hK).call hUK ?_
        rw [hkj]
        simp [h1, h13, hUR', hx]
        exact ⟨hlt, by simp [h13, w64 (n := (j : Int) + 1) (by omega)]; exact GH.refl ⟨j + 1, ⟨rfl, by simp [h0], by simp [h1], by simp, hlt⟩, by omega⟩⟩
      simp [Tryd.results24]
      rw [hUX]
      first | (refine GV.ans hcl ?_; simp []; done) | (refine GV.ans0 ?_; simp []; done)
    · simp [h0]
      refine v_Pages.call hUK ?_
      simp [hUR']
      refine (v_aFree hK).call hUK ?_
      simp
      refine CALLv.at (v_rAll7 (k := 1) hUR (by omega)) fun u U1 hu => ?_
      obtain ⟨e1, e2⟩ := hu
      subst e1; subst e2
      simp [is_len]
      refine (v_Kind hK).call hUK ?_
      rw [hk]
      simp
      refine (v_All (m := K.map isS)).call u2 ?_
      simp
      refine CALLv.at (v_rAll7 (k := 3) hUR (by omega)) fun u U2 hu => ?_
      obtain ⟨e1, e2⟩ := hu
      subst e1; subst e2
      rw [all_s]
      simp
      refine (v_SameI (kk := true) (km := true) (l := is_ (kAll K 3)) (m := is_ (kAll K 3)) (by rw [is_len]; have := kUp_len K 3 K.length; unfold kUp at this; unfold kAll; omega)).call ?_
      simp
      refine (v_All (m := K.map isP)).call u3 ?_
      simp
      refine CALLv.at (v_rAll7 (k := 4) hUR (by omega)) fun u U3 hu => ?_
      obtain ⟨e1, e2⟩ := hu
      subst e1; subst e2
      rw [all_p]
      simp
      refine (v_SameI (kk := true) (km := true) (l := is_ (kAll K 4)) (m := is_ (kAll K 4)) (by rw [is_len]; omega)).call ?_
      simp
      refine (v_Count (m := K.map isC)).call u1 ?_
      rw [cnt_c, ← hAl]
      simp [hUA, is_len]
      refine v_loopX hC (fun (i : Nat) e W => W = U3 ∧ e 0 = .ptr g 0 ∧ e 1 = .own gk wk ∧ e 7 = .ptr gc1 0 ∧ e 10 = .own T.length 2 ∧ e 12 = i6 i ∧ i ≤ A.length) (fun i => A.length - i) 0 (G.refl ?_) ?_
      · exact ⟨rfl, by simp, by simp, by simp, by simp, by simp, by simp⟩
      rintro i e W ⟨rfl, h0, h1, h7, h10, h12, hi⟩
      simp [h10, h12, hUA, is_len]
      refine CondV.dec (fun hlt => ?_) (fun hge => ?_)
      · have hlt : i < A.length := by omega
        obtain ⟨q, hq⟩ : ∃ q, A[i]? = some q := ⟨_, List.getElem?_eq_getElem hlt⟩
        have hqm := hAm q (List.mem_of_getElem? hq)
        have hqi : (is_ A)[i]? = some (q : Int) := by unfold is_; rw [List.getElem?_map, hq]; rfl
        have hh := hasM_map (f := isC) rfl (K := K) (p := (q : Int)) (by omega)
        rw [Int.toNat_natCast, hqm.2] at hh
        simp [h7, h10, h12, hUA, hqi]
        refine ⟨by rw [is_len]; exact hlt, ?_⟩
        refine (v_Has (m := K.map isC) (no := (q : Int))).call u1 ?_
        rw [hh]
        simp [h12, w64 (n := (i : Int) + 1) (by omega)]
        exact GH.refl ⟨i + 1, ⟨rfl, by simp [h0], by simp [h1], by simp [h7], by simp [h10], by simp, hlt⟩, by omega⟩
      simp
      refine v_loopX hC (fun (i : Nat) e W' => W' = W ∧ e 0 = .ptr g 0 ∧ e 1 = .own gk wk ∧ e 13 = i6 i ∧ i ≤ K.length) (fun i => K.length - i) 0 (G.refl ?_) ?_
      · exact ⟨rfl, by simp [h0], by simp [h1], by simp, by simp⟩
      rintro j e W' ⟨rfl, h0, h1, h13, hj⟩
      simp [h1, h13, hUR']
      refine CondV.dec (fun hlt => ?_) (fun hge => ?_)
      · have hlt : j < K.length := by omega
        obtain ⟨x, hx, hxe⟩ := getK hlt
        have hkj : kindK K (j : Int) = x := by unfold kindK; rw [if_pos (by omega), Int.toNat_natCast, hxe]
        simp
        refine v_draw (ord := [0, 1, 2, 3, 4, 5, 6, 7]) (m := 7) (by decide +kernel) (by decide +kernel) ?_
        simp [h0, h1, h13]
        refine (v_Kind hK).call hUK ?_
        rw [hkj]
        simp [h1, h13, hUR', hx]
        exact ⟨hlt, by simp [h13, w64 (n := (j : Int) + 1) (by omega)]; exact GH.refl ⟨j + 1, ⟨rfl, by simp [h0], by simp [h1], by simp, hlt⟩, by omega⟩⟩
      simp [Tryd.results24]
      rw [hUX]
      first | (refine GV.ans hcl ?_; simp []; done) | (refine GV.ans0 ?_; simp []; done)
end Go.Proofs.YtldhfdagmaklaaaDoor.VM
end
section
set_option maxHeartbeats 8000000
set_option linter.unusedVariables false
set_option linter.unusedSimpArgs false

/- Law AllocPlays. -/
namespace Go.Proofs.YtldhfdagmaklaaaDoor.VM
open Go Go.Proofs AM B
set_option maxRecDepth 100000
theorem RK.fr {T U : Hp} {l : List Nat} {g w : Nat} {t : Bool} {K : List Int} (h : RK T g w t K) (hf : FrA T U l) (hl : g ∉ l) : RK U g w t K := by
  unfold RK
  rw [hf.2 g (get_lt h) hl]; exact h
theorem frA_putK {H : Hp} {g w : Nat} {t : Bool} {K : List Int} : FrA H (putK H g w t K) [g] :=
  ⟨by unfold putK; simp, fun i _ hi => by
    unfold putK
    rw [List.getElem?_set_ne]
    intro e; subst e; exact hi (by simp)⟩
theorem AW.putRK {T : Hp} {g gk wk : Nat} {tk : Bool} {x : Ax} {K J J' : List Int} (h : AW T g x K) (hr : RK T gk wk tk J) (hn : gk ∉ fp g x) : AW (putK T gk wk tk J') g x K := by
  have hf : FrA T (putK T gk wk tk J') [gk] := frA_putK
  have ne : ∀ {i : Nat} {cs : List V} {r : Bool}, T[i]? = some (.mem cs r) → i ∉ [gk] := fun {i cs r} hi hm => by
    rw [List.mem_singleton.1 hm, hr] at hi; cases hi
  have nw : ∀ {i : Nat}, i ∈ fp g x → i ∉ [gk] := fun hi hm => hn (by rw [← List.mem_singleton.1 hm]; exact hi)
  exact ⟨by rw [hf.2 g (get_lt h.ob) (ne h.ob), h.ob], h.c.fr hf (ne h.c.2.1) (nw (by simp [fp])), h.s.fr hf (ne h.s.2.1) (nw (by simp [fp])), h.p.fr hf (ne h.p.2.1) (nw (by simp [fp])), h.cs, h.cp, h.sp⟩
/-- The allocator and the document's, side by side. -/
structure Jn (H T : Hp) (ga gk wk : Nat) (tk : Bool) (x : Ax) (K : List Int) : Prop where
  pre : ∃ Z, T = H ++ Z
  aw : AW T ga x K
  ge : ∀ i ∈ fp ga x, H.length ≤ i
  rk : RK T gk wk tk K
  nk : gk ∉ fp ga x
  gek : H.length ≤ gk
theorem Jn.step {H T U : Hp} {ga gk wk : Nat} {tk : Bool} {x y : Ax} {J J' : List Int} (h : Jn H T ga gk wk tk x J) (m : Mut T U ga x y J') : RK U gk wk tk J ∧ Jn H (putK U gk wk tk J') ga gk wk tk y J' := by
  have hr := h.rk.fr m.fr h.nk
  have hnk : gk ∉ fp ga y := fun hm => by
    rcases m.nw gk hm with h1 | h1
    · exact h.nk h1
    · have := get_lt h.rk; omega
  have hlT : H.length ≤ T.length := by obtain ⟨Z, hZ⟩ := h.pre; rw [hZ]; simp
  have hp := pre_fr h.pre m.fr h.ge
  exact ⟨hr, pre_fr hp frA_putK (fun i hi => by rw [List.mem_singleton.1 hi]; exact h.gek), m.aw.putRK hr hnk, m.nw.ge h.ge hlT, hr.put, hnk, h.gek⟩
set_option maxHeartbeats 8000000 in
theorem v_AllocPlays {kk kl : Bool} {pages page : Int} {fl : List Int} {ls : List Ac} (hn : fl.length < 2 ^ 63) (hls : ls.length < 2 ^ 63) (hb : ∀ a ∈ ls, a.l.length < 2 ^ 63) : A 4 [i6 pages, IS kk fl, AS kl ls, i6 page] (bo true) := by
  intro H
  refine v_enter hC [] (fun _ _ => kn_none rfl) Tryd.func4 rfl ok4 (Nat.le_of_ble_eq_true rfl) fun hcl hbl => ?_
  simp [min10]
  rw [← List.map_take]
  obtain ⟨F, hF⟩ : ∃ F, fl.take (min fl.length 10) = F := ⟨_, rfl⟩
  have hFl : F.length ≤ 10 := by rw [← hF, List.length_take]; omega
  rw [hF]
  refine CALLv.at (v_aNew (n := pages) (kk := kk) (l := F) (by omega)) fun u T1 hu => ?_
  obtain ⟨⟨X1, hX1⟩, hu1⟩ := hu
  by_cases hpg : pages < 2 ∨ 2048 < pages
  · have hE : newE pages F = 1 := by unfold newE; rw [if_pos hpg]
    rw [if_neg (by rw [hE]; omega), hE] at hu1
    subst hu1
    rw [hX1]
    by_cases h2 : pages < 2
    · simp [h2, nilP]
      refine v_known7.call ?_
      simp [Tryd.results4]
      first | (refine GV.ans hcl ?_; simp []; done) | (refine GV.ans0 ?_; simp []; done)
    · have h3 : 2048 < pages := by omega
      simp [h2, h3, nilP]
      refine v_known7.call ?_
      simp [Tryd.results4]
      first | (refine GV.ans hcl ?_; simp []; done) | (refine GV.ans0 ?_; simp []; done)
  have hp2 : ¬ pages < 2 := by omega
  have hp3 : ¬ 2048 < pages := by omega
  obtain ⟨v1, E1, hu2⟩ : ∃ v1 E1, u = .tup [v1, i6 E1] := by
    split at hu1
    · obtain ⟨g, x, h, _⟩ := hu1; exact ⟨_, _, h⟩
    · exact ⟨_, _, hu1⟩
  clear hu1
  subst hu2
  obtain ⟨n, hn2, hnr⟩ : ∃ n : Nat, (2 ≤ n ∧ n < 42) ∧ IntKind.i64.wrap (2 + pages.tmod 40) = (n : Int) := by
    obtain ⟨q, rfl⟩ : ∃ q : Nat, pages = q := ⟨pages.toNat, by omega⟩
    have h1 : ((q : Int)).tmod 40 = ((q % 40 : Nat) : Int) := rfl
    have h2 := Nat.mod_lt q (show 0 < 40 by omega)
    refine ⟨2 + q % 40, by omega, ?_⟩
    rw [h1, w64 (by omega)]; omega
  simp [hp2, hp3]
  rw [hnr]
  refine CALLv.at (v_aNew (n := (n : Int)) (kk := kk) (l := F) (by omega)) fun u T2 hu => ?_
  obtain ⟨⟨X2, hX2⟩, hu2⟩ := hu
  rw [Int.toNat_natCast] at hu2
  by_cases hE : newE n F = 0
  · rw [if_pos hE] at hu2
    obtain ⟨ga, xa, e1, hA, hxa⟩ := hu2
    subst e1
    simp
    refine CALLv.at (v_rNew7 (n := n) (kk := kk) (l := F) hn2.1 (by omega) (by omega)) fun u T3 hu => ?_
    rw [if_pos hE] at hu
    obtain ⟨wk, tk, e1, hT3⟩ := hu
    subst e1
    have hin : inK n F = true := by
      rw [newE_in hn2.1 (by omega)] at hE
      cases h : inK n F with
      | true => rfl
      | false => rw [h] at hE; simp at hE
    have hok : okK (newK n F) := newK_ok hn2.1 (by omega) hin
    have hlT1 : H.length ≤ T1.length := by rw [hX1]; simp
    have hlT2 : H.length ≤ T2.length := by rw [hX2]; simp; omega
    have hJn : Jn H T3 ga T2.length wk tk xa (newK n F) := by
      refine ⟨⟨X1 ++ (X2 ++ [_]), by rw [hT3, hX2, hX1, List.append_assoc, List.append_assoc]⟩, by rw [hT3]; exact hA.app, fun i hi => Nat.le_trans hlT1 (hxa i hi), ?_, fun hm => by have := hA.fp_lt _ hm; omega, hlT2⟩
      unfold RK
      rw [hT3]; simp
    clear hA hT3 hX1 hX2 hxa hlT1 hlT2
    obtain ⟨gk, hgk⟩ : ∃ gk, T2.length = gk := ⟨_, rfl⟩
    rw [hgk] at hJn ⊢
    obtain ⟨K, hK⟩ : ∃ K, newK n F = K := ⟨_, rfl⟩
    rw [hK] at hJn hok
    simp
    refine v_loopX hC (fun (X : Nat × List Int) e T => (∃ xa, Jn H T ga gk wk tk xa X.2) ∧ okK X.2 ∧ e 2 = AS kl ls ∧ e 3 = i6 page ∧ e 9 = .ptr ga 0 ∧ e 11 = .own gk wk ∧ e 13 = i6 X.1 ∧ X.1 ≤ 20) (fun X => 20 - X.1) (0, K) (G.refl ?_) ?_
    · exact ⟨⟨xa, hJn⟩, hok, by simp, by simp, by simp, by simp, by simp, by simp⟩
    · rintro ⟨i, J⟩ e T ⟨⟨ya, hj⟩, hJok, h2, h3, h9, h11, h13, hi⟩
      simp only at hj hJok h13 hi
      have hJl := hJok.len
      simp [h2, h13]
      by_cases hc : i < ls.length ∧ i < 20
      · obtain ⟨hlt, hlt20⟩ := hc
        have hlt9 : (i : Int) < 20 := by omega
        obtain ⟨p, hp⟩ : ∃ p, ls[i] = p := ⟨_, rfl⟩
        have hbp := hb _ (List.getElem_mem hlt)
        rw [hp] at hbp
        simp [h2, h13, hlt, hlt9, hp]
        refine v_draw (ord := [0, 1, 2, 3, 4, 5, 6, 7, 8, 9, 10, 11, 12, 13]) (m := 10) (by decide +kernel) (by decide +kernel) ?_
        simp [h2, h13, hlt, hp, min10]
        rw [← List.map_take]
        obtain ⟨L, hL⟩ : ∃ L, p.l.take (min p.l.length 10) = L := ⟨_, rfl⟩
        have hLl : L.length ≤ 12 := by rw [← hL, List.length_take]; omega
        rw [hL]
        obtain ⟨r, hr, hrr⟩ := rem_small p.k 5 (by omega)
        have hrr : (IntKind.u64.wrap p.k).tmod 5 = (r : Int) := hrr
        rw [hrr]
        rcases (show r = 0 ∨ r = 1 ∨ r = 2 ∨ r = 3 ∨ r = 4 by omega) with rfl | rfl | rfl | rfl | rfl
        · simp [h2, h9, h13, hlt, hp]
          refine CALLv.at (v_Take (n := p.n) hj.aw hJok) fun u U hu => ?_
          obtain ⟨e1, m⟩ := hu
          obtain ⟨hrk, hj2⟩ := hj.step m
          subst e1
          simp [h2, h11, h13, hlt, hp]
          refine CALLv.at (v_rTake7 (n := p.n) hrk (by omega)) fun u U2 hu => ?_
          obtain ⟨e1, e2⟩ := hu
          rw [← e2] at hj2
          subst e1
          simp
          refine (v_SameI (kk := true) (km := true) (l := is_ (takeL J p.n)) (m := is_ (takeL J p.n)) ?_).call ?_
          · rw [is_len]
            unfold takeL
            split
            · rw [List.length_take]; have := kUp_len J 1 J.length; unfold kUp at this; unfold kAll; omega
            · simp
          simp [h3, h9, h11]
          have hJok' : okK (takeK J p.n) := takeK_ok hJok
          obtain ⟨J', hJ'⟩ : ∃ J', takeK J p.n = J' := ⟨_, rfl⟩
          rw [hJ'] at hj2 hJok'
          obtain ⟨y, hy⟩ : ∃ y, y = ya := ⟨_, rfl⟩
          rw [← hy] at hj2
          refine CALLv.at (v_tells7 (page := page) hj2.aw.v hj2.rk hJok') fun u W hu => ?_
          obtain ⟨e1, e2⟩ := hu
          subst e1; subst e2
          simp [h13, w64 (n := (i : Int) + 1) (by omega)]
          exact GH.refl ⟨(i + 1, J'), ⟨⟨y, hj2⟩, hJok', by simp [h2], by simp [h3], by simp [h9], by simp [h11], by simp, hlt20⟩, by simp only; omega⟩
        · simp [h9]
          refine CALLv.at (v_Give (kk := p.kk) (l := L) hj.aw hJok hLl) fun u U hu => ?_
          obtain ⟨e1, m⟩ := hu
          obtain ⟨hrk, hj2⟩ := hj.step m
          subst e1
          simp [h11]
          refine CALLv.at (v_rGive7 (kk := p.kk) (l := L) hrk hJok (by omega)) fun u U2 hu => ?_
          obtain ⟨e1, e2⟩ := hu
          rw [← e2] at hj2
          subst e1
          simp [h3, h9, h11]
          have hJok' : okK (giveK J L) := giveK_ok hJok
          obtain ⟨J', hJ'⟩ : ∃ J', giveK J L = J' := ⟨_, rfl⟩
          rw [hJ'] at hj2 hJok'
          obtain ⟨y, hy⟩ : ∃ y, y = ya := ⟨_, rfl⟩
          rw [← hy] at hj2
          refine CALLv.at (v_tells7 (page := page) hj2.aw.v hj2.rk hJok') fun u W hu => ?_
          obtain ⟨e1, e2⟩ := hu
          subst e1; subst e2
          simp [h13, w64 (n := (i : Int) + 1) (by omega)]
          exact GH.refl ⟨(i + 1, J'), ⟨⟨y, hj2⟩, hJok', by simp [h2], by simp [h3], by simp [h9], by simp [h11], by simp, hlt20⟩, by simp only; omega⟩
        · simp [h9]
          refine CALLv.at (v_Commit hj.aw hJok) fun u U hu => ?_
          obtain ⟨e1, y, m⟩ := hu
          obtain ⟨hrk, hj2⟩ := hj.step m
          subst e1
          simp [h11]
          refine CALLv.at (v_rCommit7 hrk (by omega)) fun u U2 hu => ?_
          obtain ⟨e1, e2⟩ := hu
          rw [← e2] at hj2
          subst e1
          rw [all_p]
          simp
          refine (v_SameI (kk := true) (km := true) (l := is_ (kAll J 4)) (m := is_ (kAll J 4)) ?_).call ?_
          · rw [is_len]; have := kUp_len J 4 J.length; unfold kUp at this; unfold kAll; omega
          simp [h3, h9, h11]
          have hJok' : okK (commitK J) := commitK_ok hJok
          obtain ⟨J', hJ'⟩ : ∃ J', commitK J = J' := ⟨_, rfl⟩
          rw [hJ'] at hj2 hJok'
          refine CALLv.at (v_tells7 (page := page) hj2.aw.v hj2.rk hJok') fun u W hu => ?_
          obtain ⟨e1, e2⟩ := hu
          subst e1; subst e2
          simp [h13, w64 (n := (i : Int) + 1) (by omega)]
          exact GH.refl ⟨(i + 1, J'), ⟨⟨y, hj2⟩, hJok', by simp [h2], by simp [h3], by simp [h9], by simp [h11], by simp, hlt20⟩, by simp only; omega⟩
        · simp [h9]
          refine CALLv.at (v_Abort hj.aw hJok) fun u U hu => ?_
          obtain ⟨e1, y, m⟩ := hu
          obtain ⟨hrk, hj2⟩ := hj.step m
          subst e1
          simp [h11]
          refine CALLv.at (v_rAbort7 hrk (by omega)) fun u U2 hu => ?_
          obtain ⟨e1, e2⟩ := hu
          rw [← e2] at hj2
          subst e1
          rw [all_s]
          simp
          refine (v_SameI (kk := true) (km := true) (l := is_ (kAll J 3)) (m := is_ (kAll J 3)) ?_).call ?_
          · rw [is_len]; have := kUp_len J 3 J.length; unfold kUp at this; unfold kAll; omega
          simp [h3, h9, h11]
          have hJok' : okK (abortK J) := abortK_ok hJok
          obtain ⟨J', hJ'⟩ : ∃ J', abortK J = J' := ⟨_, rfl⟩
          rw [hJ'] at hj2 hJok'
          refine CALLv.at (v_tells7 (page := page) hj2.aw.v hj2.rk hJok') fun u W hu => ?_
          obtain ⟨e1, e2⟩ := hu
          subst e1; subst e2
          simp [h13, w64 (n := (i : Int) + 1) (by omega)]
          exact GH.refl ⟨(i + 1, J'), ⟨⟨y, hj2⟩, hJok', by simp [h2], by simp [h3], by simp [h9], by simp [h11], by simp, hlt20⟩, by simp only; omega⟩
        · simp [h9]
          refine CALLv.at (v_Adopt (kk := p.kk) (l := L) hj.aw hJok hLl) fun u U hu => ?_
          obtain ⟨e1, m⟩ := hu
          obtain ⟨hrk, hj2⟩ := hj.step m
          subst e1
          simp [h11]
          refine CALLv.at (v_rAdopt7 (kk := p.kk) (l := L) hrk (by omega) (by omega)) fun u U2 hu => ?_
          obtain ⟨e1, e2⟩ := hu
          rw [← e2] at hj2
          subst e1
          simp [h3, h9, h11]
          have hJok' : okK (adoptK J L) := adoptK_ok hJok
          obtain ⟨J', hJ'⟩ : ∃ J', adoptK J L = J' := ⟨_, rfl⟩
          rw [hJ'] at hj2 hJok'
          obtain ⟨y, hy⟩ : ∃ y, y = ya := ⟨_, rfl⟩
          rw [← hy] at hj2
          refine CALLv.at (v_tells7 (page := page) hj2.aw.v hj2.rk hJok') fun u W hu => ?_
          obtain ⟨e1, e2⟩ := hu
          subst e1; subst e2
          simp [h13, w64 (n := (i : Int) + 1) (by omega)]
          exact GH.refl ⟨(i + 1, J'), ⟨⟨y, hj2⟩, hJok', by simp [h2], by simp [h3], by simp [h9], by simp [h11], by simp, hlt20⟩, by simp only; omega⟩
      · have hx : True := trivial
        by_cases hlt : i < ls.length
        · have hge : ¬ (i : Int) < 20 := by omega
          simp [h13, hlt, hge]
          refine v_known7.call ?_
          simp [h3, h9, h11]
          refine CALLv.at (v_tells7 (page := page) hj.aw.v hj.rk hJok) fun u W hu => ?_
          obtain ⟨e1, e2⟩ := hu
          subst e1; subst e2
          obtain ⟨Z, hZ⟩ := hj.pre
          simp [Tryd.results4]
          rw [hZ]
          first | (refine GV.ans hcl ?_; simp []; done) | (refine GV.ans0 ?_; simp []; done)
        · simp [hlt]
          refine v_known7.call ?_
          simp [h3, h9, h11]
          refine CALLv.at (v_tells7 (page := page) hj.aw.v hj.rk hJok) fun u W hu => ?_
          obtain ⟨e1, e2⟩ := hu
          subst e1; subst e2
          obtain ⟨Z, hZ⟩ := hj.pre
          simp [Tryd.results4]
          rw [hZ]
          first | (refine GV.ans hcl ?_; simp []; done) | (refine GV.ans0 ?_; simp []; done)
  · rw [if_neg hE] at hu2
    subst hu2
    simp
    refine CALLv.at (v_rNew7 (n := n) (kk := kk) (l := F) hn2.1 (by omega) (by omega)) fun u T3 hu => ?_
    rw [if_neg hE] at hu
    obtain ⟨⟨m, e1⟩, X3, hX3⟩ := hu
    subst e1
    simp [hE, nilP]
    refine v_known7.call ?_
    simp [Tryd.results4]
    rw [hX3, hX2, hX1, List.append_assoc, List.append_assoc]
    first | (refine GV.ans hcl ?_; simp []; done) | (refine GV.ans0 ?_; simp []; done)
end Go.Proofs.YtldhfdagmaklaaaDoor.VM
end
section
set_option maxHeartbeats 8000000
set_option linter.unusedVariables false
set_option linter.unusedSimpArgs false

/- AllocPlays at the arguments as they read. -/
namespace Go.Proofs.YtldhfdagmaklaaaDoor
open Go Go.RowKit AM VM B
theorem allocPlays_row {H : Type} {enc : TypeId × Value → H} (a0 : Int) (A1 : Option Addr) (n1 c1 : Nat) (A2 : Option Addr) (n2 c2 : Nat) (a3 : Int) (w : World) (hg : Globs w.heap) (h0 : (Lit.int .i64 a0).wf = true) (h1 : Rd enc Tryd.prog w 22 [.slice A1 n1 c1]) (h2 : Rd enc Tryd.prog w 23 [.slice A2 n2 c2]) (h3 : (Lit.int .i64 a3).wf = true) :
    Calls Tryd.prog 4 #[.int .i64 a0, .slice A1 n1 c1, .slice A2 n2 c2, .int .i64 a3] w fun e w' => e = .returned (.bool true) ∧ Below w.heap.size w w' := by
  obtain ⟨kk, l, hl, ha⟩ := arg_ints h1
  obtain ⟨kl, ls, hls, hb, has⟩ := arg_acts h2
  exact (v_AllocPlays (pages := a0) (page := a3) hl hls fun a h => (hb a h).1).law mixed prims_ok ⟨_, _, Tryd.func4, rfl, by decide +kernel⟩ ⟨_, _, rfl, (CellV.lit rfl).arg, _, _, rfl, ha, _, _, rfl, has, _, _, rfl, (CellV.lit rfl).arg, rfl⟩ hg
end Go.Proofs.YtldhfdagmaklaaaDoor
end
