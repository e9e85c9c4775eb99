/- What the proof of AllocParts rests on, part 7 of 7. -/
import Derived.Test.YtldhfdagmaklaaaDoorAllocPartsP6
import Derived.Test.YtldhfdagmaklaaaDoorAllocPartsS
import Derived.Deep.Strs
section
set_option maxHeartbeats 8000000
set_option linter.unusedVariables false
set_option linter.unusedSimpArgs false

/- alloc: New. -/
namespace Go.Proofs.YtldhfdagmaklaaaDoor.VM
open Go Go.Proofs AM B
set_option maxRecDepth 100000
/-- Pages of which nothing is taken. -/
def K0 (n : Nat) : List Int := 0 :: 0 :: List.replicate (n - 2) 1
theorem K0_len {n : Nat} (h : 2 ≤ n) : (K0 n).length = n := by unfold K0; simp; omega
theorem K0_ok {n : Nat} (h : 2 ≤ n) (h2 : n ≤ 2048) : okK (K0 n) := ⟨List.replicate (n - 2) 1, rfl, by rw [K0_len h]; exact h2, fun k hk => by rw [List.eq_of_mem_replicate hk]; omega⟩
theorem K0_map {f : Int → Bool} {n : Nat} (h : 2 ≤ n) (h0 : f 0 = false) (h1 : f 1 = false) : (K0 n).map f = List.replicate n false := by
  obtain ⟨m, rfl⟩ : ∃ m, n = m + 2 := ⟨n - 2, by omega⟩
  unfold K0
  simp [h0, h1, List.replicate_succ]
theorem K0_get {f : Int → Bool} {n : Nat} (h : 2 ≤ n) (h0 : f 0 = false) (h1 : f 1 = false) (i : Nat) : f ((K0 n).getD i 0) = false := by
  rw [← map_getD h0, K0_map h h0 h1, List.getD_eq_getElem?_getD]
  by_cases hi : i < n
  · rw [List.getElem?_replicate_of_lt hi]; rfl
  · rw [List.getElem?_eq_none (by simp; omega)]; rfl
def newE (n : Int) (l : List Int) : Int := if n < 2 ∨ 2048 < n then 1 else if inK n.toNat l = false then 10 else if flipN true (List.replicate n.toNat false) l ≠ l.length then 8 else 0
def newK (n : Nat) (l : List Int) : List Int := setK (K0 n) (nn l) 2
theorem newK_len {n : Nat} {l : List Int} (h : 2 ≤ n) : (newK n l).length = n := by unfold newK; rw [setK_len, K0_len h]
theorem newK_ok {n : Nat} {l : List Int} (h : 2 ≤ n) (h2 : n ≤ 2048) (hl : inK n l = true) : okK (newK n l) := setK_ok (by omega) (K0_ok h h2) fun i hi => by
  obtain ⟨p, hp, rfl⟩ := List.mem_map.1 hi
  have := inK_iff.1 hl p hp
  omega
/-- What New made. -/
def NewR (H T : Hp) (u : V) (n : Int) (l : List Int) : Prop := (∃ X, T = H ++ X) ∧ (if newE n l = 0 then ∃ g x, u = .tup [.ptr g 0, i6 0] ∧ AW T g x (newK n.toNat l) ∧ ∀ i ∈ fp g x, H.length ≤ i else u = .tup [nilP, i6 (newE n l)])
theorem v_aNew {H : Hp} {n : Int} {kk : Bool} {l : List Int} (hl : l.length < 2 ^ 40) : VC Tryd.prog prims 7 [i6 n, IS kk l] H fun u T => NewR H T u n l := by
  refine v_enter hC [] (fun _ _ => kn_none rfl) Tryd.func7 rfl ok7 (Nat.le_of_ble_eq_true rfl) fun hcl hbl => ?_
  by_cases h0 : n < 2
  · have e : newE n l = 1 := by unfold newE; rw [if_pos (.inl h0)]
    simp [h0, Tryd.results7]
    exact GV.refl ⟨⟨[], by simp⟩, by rw [if_neg (by rw [e]; omega), e]; rfl⟩
  by_cases h1 : 2048 < n
  · have e : newE n l = 1 := by unfold newE; rw [if_pos (.inr h1)]
    simp [h0, h1, Tryd.results7]
    exact GV.refl ⟨⟨[], by simp⟩, by rw [if_neg (by rw [e]; omega), e]; rfl⟩
  obtain ⟨m, rfl⟩ : ∃ m : Nat, n = m := ⟨n.toNat, by omega⟩
  have hm2 : 2 ≤ m := by omega
  have hmt : ((m : Int)).toNat = m := by omega
  have hE : newE m l = if inK m l = false then 10 else if flipN true (List.replicate m false) l ≠ l.length then 8 else 0 := by unfold newE; rw [if_neg (by omega), hmt]
  simp [h0, h1]
  refine (v_empty (n := m) (by omega) (by omega)).call fun w1 t1 => ?_
  obtain ⟨U1, hU1⟩ : ∃ U1, H ++ setO H.length w1 t1 (List.replicate m false) = U1 := ⟨_, rfl⟩
  have l1 : U1.length = H.length + 2 := by rw [← hU1, List.length_append, setO_len]
  have s1 : SetW U1 H.length (H.length + 1) w1 t1 (List.replicate m false) := by rw [← hU1]; exact setO_v (by simp; omega)
  rw [hU1]
  simp
  refine (v_empty (n := m) (by omega) (by omega)).call fun w2 t2 => ?_
  obtain ⟨U2, hU2⟩ : ∃ U2, U1 ++ setO U1.length w2 t2 (List.replicate m false) = U2 := ⟨_, rfl⟩
  have l2 : U2.length = U1.length + 2 := by rw [← hU2, List.length_append, setO_len]
  have s2 : SetW U2 U1.length (U1.length + 1) w2 t2 (List.replicate m false) := by rw [← hU2]; exact setO_v (by simp; omega)
  rw [hU2]
  simp
  refine (v_empty (n := m) (by omega) (by omega)).call fun w3 t3 => ?_
  obtain ⟨U3, hU3⟩ : ∃ U3, U2 ++ setO U2.length w3 t3 (List.replicate m false) = U3 := ⟨_, rfl⟩
  have l3 : U3.length = U2.length + 2 := by rw [← hU3, List.length_append, setO_len]
  have s3 : SetW U3 U2.length (U2.length + 1) w3 t3 (List.replicate m false) := by rw [← hU3]; exact setO_v (by simp; omega)
  rw [hU3]
  simp
  obtain ⟨U4, hU4⟩ : ∃ U4, U3 ++ [Ob.mem [i6 m, .ptr H.length 0, .ptr U1.length 0, .ptr U2.length 0] true] = U4 := ⟨_, rfl⟩
  have l4 : U4.length = U3.length + 1 := by rw [← hU4]; simp
  obtain ⟨X4, hX4⟩ : ∃ X4, U4 = H ++ X4 := ⟨_, by rw [← hU4, ← hU3, ← hU2, ← hU1, List.append_assoc, List.append_assoc, List.append_assoc]⟩
  have hA : AW U4 U3.length ⟨H.length, H.length + 1, w1, t1, U1.length, U1.length + 1, w2, t2, U2.length, U2.length + 1, w3, t3⟩ (K0 m) := by
    refine ⟨by rw [← hU4, K0_len hm2]; simp, ?_, ?_, ?_, by simp only; omega, by simp only; omega, by simp only; omega⟩
    · rw [K0_map hm2 rfl rfl, ← hU4, ← hU3, ← hU2]; exact s1.app.app.app
    · rw [K0_map hm2 rfl rfl, ← hU4, ← hU3]; exact s2.app.app
    · rw [K0_map hm2 rfl rfl, ← hU4]; exact s3.app
  simp only [i6] at hU4
  rw [hU4]
  have hin' : (K0 m).length = m := K0_len hm2
  refine CALLv.at (v_within (kk := kk) (l := l) (by omega) _ hA.v) fun u T hu => ?_
  obtain ⟨e1, e2⟩ := hu
  rw [hin'] at e1
  subst e1; subst e2
  cases hin : inK m l with
  | false =>
    have e : newE m l = 10 := by rw [hE, if_pos hin]
    simp [Tryd.results7]
    exact GV.refl ⟨⟨X4, hX4⟩, by rw [if_neg (by rw [e]; omega), e]; rfl⟩
  | true =>
    have hE2 : newE m l = if flipN true (List.replicate m false) l ≠ l.length then 8 else 0 := by rw [hE, if_neg (by simp [hin])]
    have hll := inK_iff.1 hin
    simp [hA.ob]
    refine CALLv.at (v_Add (kk := kk) (m := (K0 m).map isC) (l := l) (g := H.length) (gw := H.length + 1) (v := w1) (t := t1) hA.c (by omega)) fun u T hu => ?_
    obtain ⟨e1, e2⟩ := hu
    have hc : flipM true ((K0 m).map isC) l = (newK m l).map isC := by
      have := flipM_setK (f := isC) (v := 2) (l := nn l) (K := K0 m) fun i hi => by
        obtain ⟨p, hp, rfl⟩ := List.mem_map.1 hi
        have := hll p hp
        rw [K0_len hm2]; omega
      rw [is_nn fun p hp => by have := hll p hp; omega] at this
      exact this
    have hA2 : AW T U3.length ⟨H.length, H.length + 1, w1, t1, U1.length, U1.length + 1, w2, t2, U2.length, U2.length + 1, w3, t3⟩ (newK m l) := by
      rw [e2, hc]
      exact hA.putC (K' := newK m l) (by rw [newK_len hm2, K0_len hm2]) (setK_same rfl fun i _ => K0_get hm2 rfl rfl i) (setK_same rfl fun i _ => K0_get hm2 rfl rfl i)
    obtain ⟨X5, hX5⟩ : ∃ X5, T = H ++ X5 := ⟨_, by rw [e2, hX4]; unfold putW; rw [List.set_append_right _ _ (by omega)]⟩
    rw [K0_map hm2 rfl rfl] at e1
    clear e2
    subst e1
    by_cases hn : flipN true (List.replicate m false) l ≠ l.length
    · have e : newE m l = 8 := by rw [hE2, if_pos hn]
      have hn' : ¬ ((flipN true (List.replicate m false) l : Nat) : Int) = l.length := by omega
      have hd : decide (((flipN true (List.replicate m false) l : Nat) : Int) = l.length) = false := decide_eq_false hn'
      simp [hd, Tryd.results7]
      exact GV.refl ⟨⟨X5, hX5⟩, by rw [if_neg (by rw [e]; omega), e]; rfl⟩
    · have e : newE m l = 0 := by rw [hE2, if_neg hn]
      have hn' : flipN true (List.replicate m false) l = l.length := by simpa using hn
      have hd : decide (((flipN true (List.replicate m false) l : Nat) : Int) = l.length) = true := decide_eq_true (by omega)
      simp [hd, Tryd.results7]
      refine GV.refl ⟨⟨X5, hX5⟩, ?_⟩
      rw [if_pos e]
      refine ⟨_, _, rfl, hA2, fun i hi => ?_⟩
      simp only [fp, List.mem_cons, List.not_mem_nil, or_false] at hi
      omega
end Go.Proofs.YtldhfdagmaklaaaDoor.VM
end
section
set_option maxHeartbeats 8000000
set_option linter.unusedVariables false
set_option linter.unusedSimpArgs false

/- alloc: the law's known; what a nil allocator answers; law AllocNil. -/
namespace Go.Proofs.YtldhfdagmaklaaaDoor.VM
open Go Go.Proofs AM B
set_option maxRecDepth 100000
theorem pre_fr {H T U : Hp} {l : List Nat} (h : ∃ X, T = H ++ X) (hf : FrA T U l) (hl : ∀ i ∈ l, H.length ≤ i) : ∃ X, U = H ++ X := by
  obtain ⟨X, rfl⟩ := h
  refine ⟨U.drop H.length, ?_⟩
  have e : U.take H.length = H := by
    apply List.ext_getElem?
    intro i
    by_cases hi : i < H.length
    · rw [List.getElem?_take, if_pos hi, hf.2 i (by rw [List.length_append]; omega) (fun hm => by have := hl i hm; omega), List.getElem?_append_left hi]
    · rw [List.getElem?_eq_none (by rw [List.length_take]; omega), List.getElem?_eq_none (by omega)]
  conv => lhs; rw [← List.take_append_drop H.length U, e]
theorem NewF.ge {H : Hp} {g : Nat} {x x' : Ax} {n : Nat} (h : NewF H g x x') (hx : ∀ i ∈ fp g x, n ≤ i) (hn : n ≤ H.length) : ∀ i ∈ fp g x', n ≤ i := fun i hi => (h i hi).elim (hx i) fun h => Nat.le_trans hn h
theorem v_known7 : A 8 [] (bo true) := by
  intro H
  refine v_enter hC [] (fun _ _ => kn_none rfl) Tryd.func8 rfl ok8 (Nat.le_of_ble_eq_true rfl) fun hcl hbl => ?_
  simp
  refine CALLv.at (v_aNew (n := 6) (kk := true) (l := [2, 3]) (by simp)) fun u T1 hu => ?_
  obtain ⟨hp1, hu⟩ := hu
  have q1 : newE 6 [2, 3] = 0 := by decide
  rw [if_pos q1] at hu
  obtain ⟨g, x, e1, hA1, hx1⟩ := hu
  have q2 : newK (6 : Int).toNat [2, 3] = [0, 0, 2, 2, 1, 1] := by decide
  rw [q2] at hA1
  have k1 : okK [0, 0, 2, 2, 1, 1] := ⟨_, rfl, by decide, by decide⟩
  subst e1
  simp
  refine CALLv.at (v_Take (n := 1) hA1 k1) fun u T2 hu => ?_
  obtain ⟨e1, hM2⟩ := hu
  have q3 : takeL [0, 0, 2, 2, 1, 1] 1 = [4] := by decide
  have q4 : takeE [0, 0, 2, 2, 1, 1] 1 = 0 := by decide
  have q5 : takeK [0, 0, 2, 2, 1, 1] 1 = [0, 0, 2, 2, 3, 1] := by decide
  rw [q3, q4] at e1
  rw [q5] at hM2
  have k2 : okK [0, 0, 2, 2, 3, 1] := ⟨_, rfl, by decide, by decide⟩
  have hp2 := pre_fr hp1 hM2.fr hx1
  subst e1
  simp
  refine CALLv.at (v_Give (kk := true) (l := [2]) hM2.aw k2 (by simp)) fun u T3 hu => ?_
  obtain ⟨e1, hM3⟩ := hu
  have q6 : giveE [0, 0, 2, 2, 3, 1] [2] = 0 := by decide
  have q7 : giveK [0, 0, 2, 2, 3, 1] [2] = [0, 0, 4, 2, 3, 1] := by decide
  rw [q6] at e1
  rw [q7] at hM3
  have k3 : okK [0, 0, 4, 2, 3, 1] := ⟨_, rfl, by decide, by decide⟩
  have hp3 := pre_fr hp2 hM3.fr hx1
  subst e1
  simp
  refine CALLv.at (v_Commit hM3.aw k3) fun u T4 hu => ?_
  obtain ⟨e1, x', hM4⟩ := hu
  have q8 : allN (List.map isP [0, 0, 4, 2, 3, 1]) = [2] := by decide
  have q9 : commitK [0, 0, 4, 2, 3, 1] = [0, 0, 1, 2, 2, 1] := by decide
  rw [q8] at e1
  rw [q9] at hM4
  have k4 : okK [0, 0, 1, 2, 2, 1] := ⟨_, rfl, by decide, by decide⟩
  have hp4 := pre_fr hp3 hM4.fr hx1
  subst e1
  simp
  refine (v_SameI (kk := true) (km := true) (l := is_ [4]) (m := [4]) (by simp [is_])).callU [IS true (is_ [4]), IS true [4]] (by simp [is_]) ?_
  simp [is_]
  refine (v_SameI (kk := true) (km := true) (l := is_ [2]) (m := [2]) (by simp [is_])).callU [IS true (is_ [2]), IS true [2]] (by simp [is_]) ?_
  simp [is_]
  refine (v_Kind (p := 2) k4).call hM4.aw.v ?_
  have q10 : kindK [0, 0, 1, 2, 2, 1] 2 = 1 := by decide
  simp [q10, Tryd.results8]
  obtain ⟨X, rfl⟩ := hp4
  first | (refine GV.ans hcl ?_; simp []; done) | (refine GV.ans0 ?_; simp []; done)
theorem v_Take0 {n : Int} : A 10 [nilP, i6 n] (.tup [.lit (.slice none 0 0), i6 11]) := by
  intro H
  refine v_enter hC [] (fun _ _ => kn_none rfl) Tryd.func10 rfl ok10 (Nat.le_of_ble_eq_true rfl) fun hcl hbl => ?_
  simp [nilP, Tryd.results10]
  first | (refine GV.ans hcl ?_; simp []; done) | (refine GV.ans0 ?_; simp []; done)
theorem v_Sets0 : A 9 [nilP] (.tup [nilP, nilP, nilP]) := by
  intro H
  refine v_enter hC [] (fun _ _ => kn_none rfl) Tryd.func9 rfl ok9 (Nat.le_of_ble_eq_true rfl) fun hcl hbl => ?_
  simp [nilP, Tryd.results9]
  first | (refine GV.ans hcl ?_; simp []; done) | (refine GV.ans0 ?_; simp []; done)
theorem v_Give0 {kk : Bool} {l : List Int} : A 12 [nilP, IS kk l] (i6 11) := by
  intro H
  refine v_enter hC [] (fun _ _ => kn_none rfl) Tryd.func12 rfl ok12 (Nat.le_of_ble_eq_true rfl) fun hcl hbl => ?_
  simp [nilP, Tryd.results12]
  first | (refine GV.ans hcl ?_; simp []; done) | (refine GV.ans0 ?_; simp []; done)
theorem v_Adopt0 {kk : Bool} {l : List Int} : A 15 [nilP, IS kk l] (i6 11) := by
  intro H
  refine v_enter hC [] (fun _ _ => kn_none rfl) Tryd.func15 rfl ok15 (Nat.le_of_ble_eq_true rfl) fun hcl hbl => ?_
  simp [nilP, Tryd.results15]
  first | (refine GV.ans hcl ?_; simp []; done) | (refine GV.ans0 ?_; simp []; done)
theorem v_Commit0 : A 13 [nilP] (.lit (.slice none 0 0)) := by
  intro H
  refine v_enter hC [] (fun _ _ => kn_none rfl) Tryd.func13 rfl ok13 (Nat.le_of_ble_eq_true rfl) fun hcl hbl => ?_
  simp [nilP, Tryd.results13]
  first | (refine GV.ans hcl ?_; simp []; done) | (refine GV.ans0 ?_; simp []; done)
theorem v_Abort0 : A 14 [nilP] (.lit (.slice none 0 0)) := by
  intro H
  refine v_enter hC [] (fun _ _ => kn_none rfl) Tryd.func14 rfl ok14 (Nat.le_of_ble_eq_true rfl) fun hcl hbl => ?_
  simp [nilP, Tryd.results14]
  first | (refine GV.ans hcl ?_; simp []; done) | (refine GV.ans0 ?_; simp []; done)
theorem v_aFree0 : A 16 [nilP] (i6 0) := by
  intro H
  refine v_enter hC [] (fun _ _ => kn_none rfl) Tryd.func16 rfl ok16 (Nat.le_of_ble_eq_true rfl) fun hcl hbl => ?_
  simp [nilP, Tryd.results16]
  first | (refine GV.ans hcl ?_; simp []; done) | (refine GV.ans0 ?_; simp []; done)
theorem v_Kind0 {n : Int} : A 26 [nilP, i6 n] (i6 5) := by
  intro H
  refine v_enter hC [] (fun _ _ => kn_none rfl) Tryd.func26 rfl ok26 (Nat.le_of_ble_eq_true rfl) fun hcl hbl => ?_
  simp [nilP, Tryd.results26]
  first | (refine GV.ans hcl ?_; simp []; done) | (refine GV.ans0 ?_; simp []; done)
theorem v_Pages0 : A 27 [nilP] (i6 0) := by
  intro H
  refine v_enter hC [] (fun _ _ => kn_none rfl) Tryd.func27 rfl ok27 (Nat.le_of_ble_eq_true rfl) fun hcl hbl => ?_
  simp [nilP, Tryd.results27]
  first | (refine GV.ans hcl ?_; simp []; done) | (refine GV.ans0 ?_; simp []; done)
theorem v_AllocNil {n : Int} {kk : Bool} {l : List Int} : A 6 [i6 n, IS kk l] (bo true) := by
  intro H
  refine v_enter hC [] (fun _ _ => kn_none rfl) Tryd.func6 rfl ok6 (Nat.le_of_ble_eq_true rfl) fun hcl hbl => ?_
  simp
  refine (v_Take0 (n := n)).call ?_
  simp
  refine v_Sets0.call ?_
  simp [nilP]
  refine v_known7.call ?_
  simp
  refine (v_Give0 (kk := kk) (l := l)).call ?_
  simp
  refine (v_Adopt0 (kk := kk) (l := l)).call ?_
  simp
  refine v_Commit0.call ?_
  simp
  refine v_Abort0.call ?_
  simp
  refine v_aFree0.call ?_
  simp
  refine (v_Kind0 (n := n)).call ?_
  simp
  refine v_Pages0.call ?_
  simp
  refine v_aSameN.call ?_
  simp [Tryd.results6]
  first | (refine GV.ans hcl ?_; simp []; done) | (refine GV.ans0 ?_; simp []; done)
end Go.Proofs.YtldhfdagmaklaaaDoor.VM
end
section
set_option maxHeartbeats 8000000
set_option linter.unusedVariables false
set_option linter.unusedSimpArgs false

/- Law AllocAborts. -/
namespace Go.Proofs.YtldhfdagmaklaaaDoor.VM
open Go Go.Proofs AM B
set_option maxRecDepth 100000
/-- An act. -/
structure Ac where
  k : Int
  n : Int
  kk : Bool
  l : List Int
def acK (a : Ac) : List V := [i6 a.k, i6 a.n, IS a.kk a.l]
attribute [simp] acK
@[simp] def AS (kl : Bool) (ls : List Ac) : V := .fsl kl 3 (ls.map acK)
theorem setK_sameG {β : Type} {f : Int → β} {v : Int} : ∀ {l : List Nat} {K : List Int}, (∀ i ∈ l, i < K.length ∧ f (K.getD i 0) = f v) → (setK K l v).map f = K.map f
  | [], K, _ => rfl
  | i :: l, K, h => by
    show (setK (K.set i v) l v).map f = _
    have e : (K.set i v).map f = K.map f := by
      rw [List.map_set]
      apply List.ext_getElem
      · simp
      · intro j h1 h2
        rw [List.getElem_set]
        split
        · rename_i hj; subst hj
          have := (h i (by simp)).2
          simp only [List.length_map] at h2
          rw [List.getD_eq_getElem?_getD, List.getElem?_eq_getElem h2] at this
          simp only [List.getElem_map]
          exact this.symm
        · rfl
    rw [setK_sameG (K := K.set i v) fun j hj => ?_, e]
    refine ⟨by rw [List.length_set]; exact (h j (by simp [hj])).1, ?_⟩
    rw [getD_set]
    split
    · rfl
    · exact (h j (by simp [hj])).2
theorem abort_take {K : List Int} {n : Int} : abortK (takeK K n) = abortK K := setK_sameG fun i hi => ⟨(takeL_lt hi).1, by rw [(takeL_lt hi).2]; rfl⟩
theorem abort_adopt {K : List Int} {l : List Int} : abortK (adoptK K l) = abortK K := by
  unfold adoptK
  split
  · rename_i h
    obtain ⟨h1, _, h3⟩ := adopt_in h
    refine setK_sameG fun i hi => ?_
    obtain ⟨p, hp, rfl⟩ := List.mem_map.1 hi
    have := h1 p hp
    exact ⟨by omega, by rw [h3 p hp]; rfl⟩
  · rfl
theorem abort_give1 {K : List Int} {p : Int} (hp : p.toNat < K.length) (hk : K.getD p.toNat 0 = 2 ∨ K.getD p.toNat 0 = 3) : abortK (give1 K p) = abortK K := by
  have := setK_sameG (f := fun k => if k = 3 then (1 : Int) else if k = 4 then 2 else k) (v := if K.getD p.toNat 0 = 3 then 1 else 4) (l := [p.toNat]) (K := K) fun i hi => by
    simp only [List.mem_singleton] at hi
    subst hi
    refine ⟨hp, ?_⟩
    rcases hk with h | h <;> rw [h] <;> rfl
  exact this
theorem abort_giveF : ∀ {l : List Int} {K : List Int}, l.Nodup → (∀ p ∈ l, 0 ≤ p ∧ p < K.length ∧ (K.getD p.toNat 0 = 2 ∨ K.getD p.toNat 0 = 3)) → abortK (giveF K l) = abortK K
  | [], K, _, _ => rfl
  | p :: l, K, hn, h => by
    show abortK (giveF (give1 K p) l) = _
    have h1 := h p (by simp)
    rw [List.nodup_cons] at hn
    rw [abort_giveF hn.2 fun q hq => ?_, abort_give1 (by omega) h1.2.2]
    have h2 := h q (by simp [hq])
    have hne : p ≠ q := fun e => hn.1 (by rw [e]; exact hq)
    unfold give1
    rw [List.length_set, getD_set, if_neg (by omega)]
    exact h2
theorem abort_give {K : List Int} {l : List Int} (hK : okK K) : abortK (giveK K l) = abortK K := by
  unfold giveK
  split
  · rename_i h
    obtain ⟨h1, h2, h3⟩ := give_in hK h
    exact abort_giveF ((TW.twB_nodup l).1 h2) fun p hp => ⟨by have := h1 p hp; omega, (h1 p hp).2, h3 p hp⟩
  · rfl
theorem abort_new {n : Nat} {l : List Int} (h : 2 ≤ n) : abortK (newK n l) = newK n l := by
  have h3 : ∀ f : Int → Bool, f 0 = false → f 1 = false → f 2 = false → (newK n l).map f = List.replicate n false := fun f h0 h1 h2 => by
    unfold newK
    rw [setK_same h0 fun i _ => by rw [K0_get h h0 h1, h2], K0_map h h0 h1]
  have h4 := h3 isS rfl rfl rfl
  have h5 := h3 isP rfl rfl rfl
  unfold abortK
  conv => rhs; rw [← List.map_id (newK n l)]
  refine List.map_congr_left fun k hk => ?_
  have h6 : isS k = false := List.eq_of_mem_replicate (by rw [← h4]; exact List.mem_map_of_mem hk)
  have h7 : isP k = false := List.eq_of_mem_replicate (by rw [← h5]; exact List.mem_map_of_mem hk)
  unfold isS at h6
  unfold isP at h7
  rw [if_neg (by simpa using h6), if_neg (by simpa using h7)]; rfl
theorem SetW.fr {T U : Hp} {l : List Nat} {g gw v : Nat} {t : Bool} {m : List Bool} (h : SetW T g gw v t m) (hf : FrA T U l) (h1 : g ∉ l) (h2 : gw ∉ l) : SetW U g gw v t m :=
  ⟨h.1, by rw [hf.2 g (get_lt h.2.1) h1, h.2.1], by rw [hf.2 gw (get_lt h.2.2) h2, h.2.2]⟩
theorem AW.set_ne {T : Hp} {g : Nat} {x : Ax} {K : List Int} (h : AW T g x K) {a b : V} {r : Bool} {i : Nat} (hi : T[i]? = some (.mem [a, b] r)) : i ∉ fp g x := fun hm => by
  simp only [fp, List.mem_cons, List.not_mem_nil, or_false] at hm
  rcases hm with rfl | rfl | rfl | rfl
  · rw [h.ob] at hi; cases hi
  · rw [h.c.2.2] at hi; cases hi
  · rw [h.s.2.2] at hi; cases hi
  · rw [h.p.2.2] at hi; cases hi
theorem AW.keep {T U : Hp} {ga gb : Nat} {xa xb : Ax} {Ka Kb : List Int} (ha : AW T ga xa Ka) (hb : AW T gb xb Kb) (hd : ∀ i ∈ fp gb xb, i ∉ fp ga xa) (hf : FrA T U (fp ga xa)) : AW U gb xb Kb :=
  ⟨by rw [hf.2 gb (get_lt hb.ob) (hd gb (by simp [fp])), hb.ob], hb.c.fr hf (ha.set_ne hb.c.2.1) (hd _ (by simp [fp])), hb.s.fr hf (ha.set_ne hb.s.2.1) (hd _ (by simp [fp])), hb.p.fr hf (ha.set_ne hb.p.2.1) (hd _ (by simp [fp])), hb.cs, hb.cp, hb.sp⟩
theorem AW.fp_lt {T : Hp} {g : Nat} {x : Ax} {K : List Int} (h : AW T g x K) : ∀ i ∈ fp g x, i < T.length := fun i hi => by
  simp only [fp, List.mem_cons, List.not_mem_nil, or_false] at hi
  rcases hi with rfl | rfl | rfl | rfl
  · exact get_lt h.ob
  · exact get_lt h.c.2.2
  · exact get_lt h.s.2.2
  · exact get_lt h.p.2.2
theorem rem_small (k : Int) (d : Nat) (hd : 0 < d ∧ d < 100) : ∃ r : Nat, r < d ∧ (IntKind.u64.wrap k).tmod d = (r : Int) := by
  obtain ⟨n, hn⟩ : ∃ n : Nat, IntKind.u64.wrap k = (n : Int) := by
    have h0 : 0 ≤ IntKind.u64.wrap k := by
      simp only [IntKind.wrap, IntKind.bits, IntKind.signed]; simp; omega
    exact ⟨(IntKind.u64.wrap k).toNat, by omega⟩
  exact ⟨n % d, Nat.mod_lt n hd.1, by rw [hn]; rfl⟩
theorem min10 (n : Nat) : bounds n n none (some (if (10 : Int) < (n : Int) then 10 else (n : Int))) none = some (0, min n 10, n) := by
  rw [show (if (10 : Int) < (n : Int) then 10 else (n : Int)) = ((min n 10 : Nat) : Int) by split <;> omega]
  simp [bounds]; omega
set_option maxHeartbeats 8000000 in
theorem v_AllocAborts {kk kl : Bool} {fl : List Int} {ls : List Ac} (hn : fl.length < 2 ^ 63) (hls : ls.length < 2 ^ 63) (hb : ∀ a ∈ ls, a.l.length < 2 ^ 63) : A 5 [IS kk fl, AS kl ls] (bo true) := by
  intro H
  refine v_enter hC [] (fun _ _ => kn_none rfl) Tryd.func5 rfl ok5 (Nat.le_of_ble_eq_true rfl) fun hcl hbl => ?_
  simp [min10]
  rw [← List.map_take]
  obtain ⟨F, hF⟩ : ∃ F, fl.take (min fl.length 10) = F := ⟨_, rfl⟩
  have hFl : F.length ≤ 10 := by rw [← hF, List.length_take]; omega
  rw [hF]
  refine CALLv.at (v_aNew (n := 30) (kk := kk) (l := F) (by omega)) fun u T1 hu => ?_
  obtain ⟨hp1, hu1⟩ := hu
  by_cases hE : newE 30 F = 0
  · rw [if_pos hE] at hu1
    obtain ⟨ga, xa, e1, hA, hxa⟩ := hu1
    rw [show (30 : Int).toNat = 30 from rfl] at hA
    subst e1
    simp
    refine CALLv.at (v_aNew (n := 30) (kk := kk) (l := F) (by omega)) fun u T2 hu => ?_
    obtain ⟨⟨X2, hX2⟩, hu2⟩ := hu
    rw [if_pos hE] at hu2
    obtain ⟨gb, xb, e1, hB, hxb⟩ := hu2
    rw [show (30 : Int).toNat = 30 from rfl] at hB
    subst e1
    have hA2 : AW T2 ga xa (newK 30 F) := by rw [hX2]; exact hA.app
    obtain ⟨X1, hX1⟩ := hp1
    have hp2 : ∃ X, T2 = H ++ X := ⟨X1 ++ X2, by rw [hX2, hX1, List.append_assoc]⟩
    have hd : ∀ i ∈ fp gb xb, i ∉ fp ga xa := fun i hi hm => by
      have := hxb i hi
      have := hA.fp_lt i hm
      omega
    have hin : inK 30 F = true := by
      unfold newE at hE
      rw [if_neg (by omega)] at hE
      rw [show (30 : Int).toNat = 30 from rfl] at hE
      cases h : inK 30 F with
      | true => rfl
      | false => rw [h] at hE; simp at hE
    have hok : okK (newK 30 F) := newK_ok (by omega) (by omega) hin
    have hab : abortK (newK 30 F) = newK 30 F := abort_new (by omega)
    have hlb : H.length ≤ T1.length := by rw [hX1]; simp
    have hxb2 : ∀ i ∈ fp gb xb, H.length ≤ i := fun i hi => Nat.le_trans hlb (hxb i hi)
    clear hA hX2 hX1 hlb hxb
    obtain ⟨K, hK⟩ : ∃ K, newK 30 F = K := ⟨_, rfl⟩
    rw [hK] at hA2 hB hok hab
    simp
    refine v_loopX hC (fun (X : Nat × List Int) e T => (∃ Z, T = H ++ Z) ∧ (∃ xa, AW T ga xa X.2 ∧ (∀ i ∈ fp ga xa, H.length ≤ i) ∧ ∀ i ∈ fp gb xb, i ∉ fp ga xa) ∧ AW T gb xb K ∧ okK X.2 ∧ abortK X.2 = K ∧ e 1 = AS kl ls ∧ e 5 = .ptr ga 0 ∧ e 7 = .ptr gb 0 ∧ e 9 = i6 X.1 ∧ X.1 ≤ 20) (fun X => 20 - X.1) (0, K) (G.refl ?_) ?_
    · exact ⟨hp2, ⟨xa, hA2, hxa, hd⟩, hB, hok, hab, by simp, by simp, by simp, by simp, by simp⟩
    · rintro ⟨i, J⟩ e T ⟨hpT, ⟨ya, hJA, hya, hdj⟩, hJB, hJok, hJab, h1, h5, h7, h9, hi⟩
      simp only at hJA hJok hJab h9 hi
      have fin : ∀ {U : Hp} {y : Ax} {J' : List Int} (m : Mut T U ga ya y J'), (∃ Z, U = H ++ Z) ∧ (∃ xa, AW U ga xa J' ∧ (∀ i ∈ fp ga xa, H.length ≤ i) ∧ ∀ i ∈ fp gb xb, i ∉ fp ga xa) ∧ AW U gb xb K := fun {U y J'} m => by
        have hp := pre_fr hpT m.fr hya
        obtain ⟨Z, hZ⟩ := hpT
        have hlT : H.length ≤ T.length := by rw [hZ]; simp
        refine ⟨hp, ⟨y, m.aw, m.nw.ge hya hlT, fun i hi hm => ?_⟩, hJA.keep hJB hdj m.fr⟩
        rcases m.nw i hm with h | h
        · exact hdj i hi h
        · have := hJB.fp_lt i hi
          omega
      simp [h1, h9]
      by_cases hc : i < ls.length ∧ i < 20
      · obtain ⟨hlt, hlt20⟩ := hc
        have hlt9 : (i : Int) < 20 := by omega
        obtain ⟨p, hp⟩ : ∃ p, ls[i] = p := ⟨_, rfl⟩
        have hbp := hb _ (List.getElem_mem hlt)
        rw [hp] at hbp
        simp [h1, h9, hlt, hlt9, hp]
        refine v_draw (ord := [0, 1, 2, 3, 4, 5, 6, 7, 8, 9, 10, 11, 12, 13]) (m := 10) (by decide +kernel) (by decide +kernel) ?_
        simp [h1, h9, hlt, hp, min10]
        rw [← List.map_take]
        obtain ⟨L, hL⟩ : ∃ L, p.l.take (min p.l.length 10) = L := ⟨_, rfl⟩
        have hLl : L.length ≤ 12 := by rw [← hL, List.length_take]; omega
        rw [hL]
        obtain ⟨r, hr, hrr⟩ := rem_small p.k 3 (by omega)
        have hrr : (IntKind.u64.wrap p.k).tmod 3 = (r : Int) := hrr
        rw [hrr]
        rcases (show r = 0 ∨ r = 1 ∨ r = 2 by omega) with rfl | rfl | rfl
        · simp [h1, h5, h9, hlt, hp]
          refine CALLv.at (v_Take (n := p.n) hJA hJok) fun u U hu => ?_
          obtain ⟨e1, m⟩ := hu
          obtain ⟨f1, f2, f3⟩ := fin m
          subst e1
          simp [h9, w64 (n := (i : Int) + 1) (by omega)]
          exact GH.refl ⟨(i + 1, takeK J p.n), ⟨f1, f2, f3, takeK_ok hJok, by rw [abort_take]; exact hJab, by simp [h1], by simp [h5], by simp [h7], by simp, hlt20⟩, by simp only; omega⟩
        · simp [h1, h5, h9, hlt, hp]
          refine CALLv.at (v_Give (kk := p.kk) (l := L) hJA hJok hLl) fun u U hu => ?_
          obtain ⟨e1, m⟩ := hu
          obtain ⟨f1, f2, f3⟩ := fin m
          subst e1
          simp [h9, w64 (n := (i : Int) + 1) (by omega)]
          exact GH.refl ⟨(i + 1, giveK J L), ⟨f1, f2, f3, giveK_ok hJok, by rw [abort_give hJok]; exact hJab, by simp [h1], by simp [h5], by simp [h7], by simp, hlt20⟩, by simp only; omega⟩
        · simp [h1, h5, h9, hlt, hp]
          refine CALLv.at (v_Adopt (kk := p.kk) (l := L) hJA hJok hLl) fun u U hu => ?_
          obtain ⟨e1, m⟩ := hu
          obtain ⟨f1, f2, f3⟩ := fin m
          subst e1
          simp [h9, w64 (n := (i : Int) + 1) (by omega)]
          exact GH.refl ⟨(i + 1, adoptK J L), ⟨f1, f2, f3, adoptK_ok hJok, by rw [abort_adopt]; exact hJab, by simp [h1], by simp [h5], by simp [h7], by simp, hlt20⟩, by simp only; omega⟩
      · have hx : True := trivial
        by_cases hlt : i < ls.length
        · have hge : ¬ (i : Int) < 20 := by omega
          simp [h9, hlt, hge, h5]
          refine CALLv.at (v_Abort hJA hJok) fun u U hu => ?_
          obtain ⟨e1, y, m⟩ := hu
          obtain ⟨⟨Z, hZ⟩, _, f3⟩ := fin m
          have hAv := m.aw.v
          rw [hJab] at hAv
          subst e1
          simp
          refine v_known7.call ?_
          simp [h5, h7]
          refine CALLv.at (v_aSame hAv f3.v) fun u V hu => ?_
          obtain ⟨e1, e2⟩ := hu
          subst e1; subst e2
          simp [h5, h7]
          refine CALLv.at (v_aSame f3.v hAv) fun u V hu => ?_
          obtain ⟨e1, e2⟩ := hu
          subst e1; subst e2
          simp [h5]
          refine v_aSamePN.call ?_
          simp [Tryd.results5]
          rw [hZ]
          first | (refine GV.ans hcl ?_; simp []; done) | (refine GV.ans0 ?_; simp []; done)
        · simp [hlt, h5]
          refine CALLv.at (v_Abort hJA hJok) fun u U hu => ?_
          obtain ⟨e1, y, m⟩ := hu
          obtain ⟨⟨Z, hZ⟩, _, f3⟩ := fin m
          have hAv := m.aw.v
          rw [hJab] at hAv
          subst e1
          simp
          refine v_known7.call ?_
          simp [h5, h7]
          refine CALLv.at (v_aSame hAv f3.v) fun u V hu => ?_
          obtain ⟨e1, e2⟩ := hu
          subst e1; subst e2
          simp [h5, h7]
          refine CALLv.at (v_aSame f3.v hAv) fun u V hu => ?_
          obtain ⟨e1, e2⟩ := hu
          subst e1; subst e2
          simp [h5]
          refine v_aSamePN.call ?_
          simp [Tryd.results5]
          rw [hZ]
          first | (refine GV.ans hcl ?_; simp []; done) | (refine GV.ans0 ?_; simp []; done)
  · rw [if_neg hE] at hu1
    subst hu1
    simp
    refine CALLv.at (v_aNew (n := 30) (kk := kk) (l := F) (by omega)) fun u T2 hu => ?_
    obtain ⟨⟨X2, hX2⟩, hu2⟩ := hu
    rw [if_neg hE] at hu2
    subst hu2
    simp [hE, nilP]
    refine v_known7.call ?_
    simp
    refine v_aSameN.call ?_
    simp [Tryd.results5]
    obtain ⟨X1, hX1⟩ := hp1
    rw [hX2, hX1, List.append_assoc]
    first | (refine GV.ans hcl ?_; simp []; done) | (refine GV.ans0 ?_; simp []; done)
end Go.Proofs.YtldhfdagmaklaaaDoor.VM
end
section
set_option maxHeartbeats 8000000
set_option linter.unusedVariables false
set_option linter.unusedSimpArgs false

/- Acts as arguments; AllocAborts at the arguments as they read. -/
namespace Go.Proofs.YtldhfdagmaklaaaDoor
open Go Go.RowKit AM VM B
namespace VM
theorem rd_three {H : Type} {enc : TypeId × Value → H} {P : Program} {w : World} {t : TypeId} {f0 f1 f2 : Field} {cs : List Value} (h : Rd enc P w t cs) (ht : P.underlying t = some (.struct #[f0, f1, f2])) {a b c : Nat} (o0 : f0.offset = 0) (c0 : P.cellsOf f0.type = a) (o1 : f1.offset = a) (c1 : P.cellsOf f1.type = b) (o2 : f2.offset = a + b) (c2 : P.cellsOf f2.type = c) (hc : P.cellsOf t = a + b + c) :
    ∃ x y z, cs = x ++ (y ++ z) ∧ x.length = a ∧ y.length = b ∧ z.length = c ∧ Rd enc P w f0.type x ∧ Rd enc P w f1.type y ∧ Rd enc P w f2.type z := by
  obtain ⟨m, x, hm⟩ := h
  obtain ⟨y0, y1, y2, n, _, hl, h0, h1, h2⟩ := Go.Deep.trod_struct3 ht hm
  rw [o0, c0, List.drop_zero] at h0
  rw [o1, c1] at h1
  rw [o2, c2] at h2
  have e1 : (cs.drop (a + b)).take c = cs.drop (a + b) := List.take_of_length_le (by simp; omega)
  rw [e1] at h2
  refine ⟨cs.take a, (cs.drop a).take b, cs.drop (a + b), ?_, by simp; omega, by simp; omega, by simp; omega, ⟨n, _, h0⟩, ⟨n, _, h1⟩, ⟨n, _, h2⟩⟩
  rw [← List.drop_drop, List.take_append_drop, List.take_append_drop]
theorem wf64 {x : Int} (h : (Lit.int .i64 x).wf = true) : -9223372036854775808 ≤ x ∧ x ≤ 9223372036854775807 := by
  simp [Lit.wf, IntKind.min, IntKind.max, IntKind.signed, IntKind.bits] at h
  omega
/-- An act's cells. -/
theorem rd_act {H : Type} {enc : TypeId × Value → H} {w : World} {cs : List Value} (h : Rd enc Tryd.prog w 30 cs) : ∃ a : Ac, a.l.length < 2 ^ 63 ∧ (-9223372036854775808 ≤ a.n ∧ a.n ≤ 9223372036854775807) ∧ CellsV w (acK a) cs := by
  obtain ⟨x, y, z, e, _, _, _, hx, hy, hz⟩ := rd_three h Tryd.underlying30 (a := 1) (b := 1) (c := 1) rfl (by kernel_rfl) rfl (by kernel_rfl) rfl (by kernel_rfl) (by kernel_rfl)
  obtain ⟨d, rfl, hw⟩ := hx.int Tryd.underlying3
  obtain ⟨s, rfl, hw2⟩ := hy.int Tryd.underlying3
  obtain ⟨v, k, l, rfl, h1, h3⟩ := rd_ints hz
  exact ⟨⟨d, s, k, l⟩, h1, wf64 hw2, by rw [e]; exact ⟨_, _, rfl, .lit rfl, _, _, rfl, .lit rfl, _, _, rfl, h3, rfl⟩⟩
theorem rows_acts : ∀ {rows : List (List V)}, (∀ r ∈ rows, ∃ a : Ac, (a.l.length < 2 ^ 63 ∧ (-9223372036854775808 ≤ a.n ∧ a.n ≤ 9223372036854775807)) ∧ r = acK a) → ∃ ls : List Ac, rows = ls.map acK ∧ ∀ a ∈ ls, a.l.length < 2 ^ 63 ∧ (-9223372036854775808 ≤ a.n ∧ a.n ≤ 9223372036854775807)
  | [], _ => ⟨[], rfl, by simp⟩
  | r :: rs, h => by
    obtain ⟨a, he1, he2⟩ := h r (by simp)
    obtain ⟨ls, hl, hb⟩ := rows_acts (rows := rs) fun x hx => h x (by simp [hx])
    refine ⟨a :: ls, by rw [he2, hl]; rfl, fun x hx => ?_⟩
    rcases List.mem_cons.1 hx with rfl | hx
    · exact he1
    · exact hb x hx
theorem arg_acts {H : Type} {enc : TypeId × Value → H} {w : World} {v : Value} (h : Rd enc Tryd.prog w 23 [v]) : ∃ kl, ∃ ls : List Ac, ls.length < 2 ^ 63 ∧ (∀ a ∈ ls, a.l.length < 2 ^ 63 ∧ (-9223372036854775808 ≤ a.n ∧ a.n ≤ 9223372036854775807)) ∧ ArgV w (AS kl ls) v := by
  obtain ⟨u, kl, rows, e, hc, hl, hg⟩ := rd_sliceV (fun r => ∃ a : Ac, (a.l.length < 2 ^ 63 ∧ (-9223372036854775808 ≤ a.n ∧ a.n ≤ 9223372036854775807)) ∧ r = acK a) h Tryd.underlying23 (by kernel_rfl : Tryd.prog.cellsOf 30 = 3) (by omega) (by omega) (fun es h1 h2 => by
    obtain ⟨a, g1, g2, g3⟩ := rd_act h2
    exact ⟨acK a, rfl, g3, a, ⟨g1, g2⟩, rfl⟩)
  obtain ⟨ls, rfl, hb⟩ := rows_acts hg
  cases e
  exact ⟨kl, ls, by simp only [List.length_map, maxLen] at hl; omega, hb, hc.arg⟩
end VM
theorem allocAborts_row {H : Type} {enc : TypeId × Value → H} (A0 : Option Addr) (n0 c0 : Nat) (A1 : Option Addr) (n1 c1 : Nat) (w : World) (hg : Globs w.heap) (h0 : Rd enc Tryd.prog w 22 [.slice A0 n0 c0]) (h1 : Rd enc Tryd.prog w 23 [.slice A1 n1 c1]) :
    Calls Tryd.prog 5 #[.slice A0 n0 c0, .slice A1 n1 c1] w fun e w' => e = .returned (.bool true) ∧ Below w.heap.size w w' := by
  obtain ⟨kk, l, hl, ha⟩ := arg_ints h0
  obtain ⟨kl, ls, hls, hb, has⟩ := arg_acts h1
  exact (v_AllocAborts hl hls fun a h => (hb a h).1).law mixed prims_ok ⟨_, _, Tryd.func5, rfl, by decide +kernel⟩ ⟨_, _, rfl, ha, _, _, rfl, has, rfl⟩ hg
end Go.Proofs.YtldhfdagmaklaaaDoor
end
section
set_option maxHeartbeats 8000000
set_option linter.unusedVariables false
set_option linter.unusedSimpArgs false

/- Law AllocParts. -/
namespace Go.Proofs.YtldhfdagmaklaaaDoor.VM
open Go Go.Proofs AM B
set_option maxRecDepth 100000
theorem SetF.fr {n : Nat} {T U : Hp} {l : List Nat} {g : Nat} {m : List Bool} (h : SetF n T g m) (hf : FrA T U l) (hl : ∀ i ∈ l, i < n) : SetF n U g m := by
  obtain ⟨gw, v, t, h, h1, h2⟩ := h
  exact ⟨gw, v, t, h.fr hf (fun hm => by have := hl _ hm; omega) (fun hm => by have := hl _ hm; omega), h1, h2⟩
theorem takeK_len {K : List Int} {n : Int} : (takeK K n).length = K.length := setK_len _ _ _
theorem adoptK_len {K l : List Int} : (adoptK K l).length = K.length := by unfold adoptK; split; exact setK_len _ _ _; rfl
theorem giveK_len {K l : List Int} : (giveK K l).length = K.length := by unfold giveK; split; exact giveF_len _ _; rfl
/-- What a page's kind says of the sets. -/
theorem kinds {K : List Int} (hK : okK K) {p : Nat} (h2 : 2 ≤ p) (hp : p < K.length) : ∃ x, (x = 1 ∨ x = 2 ∨ x = 3 ∨ x = 4) ∧ K.getD p 0 = x ∧ hasM (K.map isC) p = isC x ∧ hasM (K.map isS) p = isS x ∧ hasM (K.map isP) p = isP x := by
  have h := hK.high h2 hp
  refine ⟨K.getD p 0, by omega, rfl, ?_, ?_, ?_⟩
  · exact hasM_map rfl (p := (p : Int)) (by omega)
  · exact hasM_map rfl (p := (p : Int)) (by omega)
  · exact hasM_map rfl (p := (p : Int)) (by omega)
set_option maxHeartbeats 8000000 in
theorem v_AllocParts {kk kl : Bool} {fl : List Int} {ls : List Ac} (hn : fl.length < 2 ^ 63) (hls : ls.length < 2 ^ 63) (hb : ∀ a ∈ ls, a.l.length < 2 ^ 63) : A 3 [IS kk fl, AS kl ls] (bo true) := by
  intro H
  refine v_enter hC [] (fun _ _ => kn_none rfl) Tryd.func3 rfl ok3 (Nat.le_of_ble_eq_true rfl) fun hcl hbl => ?_
  simp [min10]
  rw [← List.map_take]
  obtain ⟨F, hF⟩ : ∃ F, fl.take (min fl.length 10) = F := ⟨_, rfl⟩
  have hFl : F.length ≤ 10 := by rw [← hF, List.length_take]; omega
  rw [hF]
  refine CALLv.at (v_aNew (n := 30) (kk := kk) (l := F) (by omega)) fun u T1 hu => ?_
  obtain ⟨hp1, hu1⟩ := hu
  by_cases hE : newE 30 F = 0
  · rw [if_pos hE] at hu1
    obtain ⟨ga, xa, e1, hA, hxa⟩ := hu1
    rw [show (30 : Int).toNat = 30 from rfl] at hA
    subst e1
    have hin : inK 30 F = true := by
      unfold newE at hE
      rw [if_neg (by omega)] at hE
      rw [show (30 : Int).toNat = 30 from rfl] at hE
      cases h : inK 30 F with
      | true => rfl
      | false => rw [h] at hE; simp at hE
    have hok : okK (newK 30 F) := newK_ok (by omega) (by omega) hin
    have hKl : (newK 30 F).length = 30 := newK_len (by omega)
    obtain ⟨K, hK⟩ : ∃ K, newK 30 F = K := ⟨_, rfl⟩
    rw [hK] at hA hok hKl
    simp
    refine v_loopX hC (fun (X : Nat × List Int) e T => (∃ Z, T = H ++ Z) ∧ (∃ xa, AW T ga xa X.2 ∧ ∀ i ∈ fp ga xa, H.length ≤ i) ∧ okK X.2 ∧ X.2.length = 30 ∧ e 1 = AS kl ls ∧ e 5 = .ptr ga 0 ∧ e 7 = i6 X.1 ∧ X.1 ≤ 20) (fun X => 20 - X.1) (0, K) (G.refl ?_) ?_
    · exact ⟨hp1, ⟨xa, hA, hxa⟩, hok, hKl, by simp, by simp, by simp, by simp⟩
    · rintro ⟨i, J⟩ e T ⟨hpT, ⟨ya, hJA, hya⟩, hJok, hJl, h1, h5, h7, hi⟩
      simp only at hJA hJok hJl h7 hi
      simp [h1, h7]
      by_cases hc : i < ls.length ∧ i < 20
      · obtain ⟨hlt, hlt20⟩ := hc
        have hlt9 : (i : Int) < 20 := by omega
        obtain ⟨p, hp⟩ : ∃ p, ls[i] = p := ⟨_, rfl⟩
        have hbp := hb _ (List.getElem_mem hlt)
        rw [hp] at hbp
        simp [h1, h7, hlt, hlt9, hp]
        refine v_draw (ord := [0, 1, 2, 3, 4, 5, 6, 7, 8, 9, 10, 11, 12, 13]) (m := 10) (by decide +kernel) (by decide +kernel) ?_
        simp [h1, h7, hlt, hp, min10]
        rw [← List.map_take]
        obtain ⟨L, hL⟩ : ∃ L, p.l.take (min p.l.length 10) = L := ⟨_, rfl⟩
        have hLl : L.length ≤ 12 := by rw [← hL, List.length_take]; omega
        rw [hL]
        simp [h5]
        refine CALLv.at (v_Sets hJA.v) fun u T0 hu => ?_
        obtain ⟨a, b, c, e1, gw1, gw2, gw3, rfl, rfl, rfl, ⟨X0, hX0⟩, s1, s2, s3⟩ := hu
        subst e1
        have hJA0 : AW T0 ga ya J := by rw [hX0]; exact hJA.app
        have hpT0 : ∃ Z, T0 = H ++ Z := by
          obtain ⟨Z, hZ⟩ := hpT
          exact ⟨Z ++ X0, by rw [hX0, hZ, List.append_assoc]⟩
        have hlT0 : H.length ≤ T0.length := by obtain ⟨Z, hZ⟩ := hpT0; rw [hZ]; simp
        have hfl := hJA.fp_lt
        have fin : ∀ {U : Hp} {y : Ax} {J' : List Int} (m : Mut T0 U ga ya y J'), (∃ Z, U = H ++ Z) ∧ AW U ga y J' ∧ ∀ i ∈ fp ga y, H.length ≤ i := fun m => ⟨pre_fr hpT0 m.fr hya, m.aw, m.nw.ge hya hlT0⟩
        obtain ⟨r, hr, hrr⟩ := rem_small p.k 5 (by omega)
        have hrr : (IntKind.u64.wrap p.k).tmod 5 = (r : Int) := hrr
        simp [h1, h5, h7, hlt, hp]
        rw [hrr]
        rcases (show r = 0 ∨ r = 1 ∨ r = 2 ∨ r = 3 ∨ r = 4 by omega) with rfl | rfl | rfl | rfl | rfl
        · simp [h1, h5, h7, hlt, hp]
          refine CALLv.at (v_Take (n := p.n) hJA0 hJok) fun u U hu => ?_
          obtain ⟨e1, m⟩ := hu
          obtain ⟨hpU, hU, hyU⟩ := fin m
          obtain ⟨J', hJ'⟩ : ∃ J', takeK J p.n = J' := ⟨_, rfl⟩
          have hJok' : okK J' := hJ' ▸ takeK_ok hJok
          have hJl' : J'.length = 30 := by rw [← hJ', takeK_len, hJl]
          obtain ⟨y, hy⟩ : ∃ y, y = ya := ⟨_, rfl⟩
          rw [hJ'] at hU
          rw [← hy] at hU hyU
          have s1' := s1.fr m.fr hfl
          subst e1
          simp
          have htl : (takeL J p.n).length ≤ 30 := by
            unfold takeL
            split
            · have := freeK hJok
              rw [List.length_take]; omega
            · simp
          refine v_loopX hC (fun (k : Nat) e W => W = U ∧ e 1 = AS kl ls ∧ e 5 = .ptr ga 0 ∧ e 7 = i6 i ∧ e 9 = .ptr gw1 0 ∧ e 12 = IS true (is_ (takeL J p.n)) ∧ e 14 = i6 k ∧ k ≤ (takeL J p.n).length) (fun k => (takeL J p.n).length - k) 0 (G.refl ?_) ?_
          · exact ⟨rfl, by simp [h1], by simp [h5], by simp [h7], by simp, by simp, by simp, by simp⟩
          rintro k e W ⟨rfl, h1, h5, h7, h9, h12, h14, hk⟩
          simp [h12, h14, is_len]
          refine CondV.dec (fun hkl => ?_) (fun hkg => ?_)
          · have hkl : k < (takeL J p.n).length := by omega
            obtain ⟨q, hq⟩ : ∃ q, (takeL J p.n)[k]? = some q := ⟨_, List.getElem?_eq_getElem hkl⟩
            have hqm := takeL_lt (List.mem_of_getElem? hq)
            have hq2 : 2 ≤ q := by
              rcases Nat.lt_or_ge q 2 with h | h
              · have := hJok.low h; omega
              · exact h
            have hqi : (is_ (takeL J p.n))[k]? = some (q : Int) := by unfold is_; rw [List.getElem?_map, hq]; rfl
            obtain ⟨x, _, hxe, hxC, _, _⟩ := kinds hJok hq2 hqm.1
            have hx1 : x = 1 := hxe.symm.trans hqm.2
            subst hx1
            simp [h9, h12, h14, hqi]
            refine (v_Has (m := J.map isC) (no := (q : Int))).call s1'.v ?_
            rw [hxC]
            simp [isC, h12, h14, hqi, show ¬ ((q : Int) < 2) by omega, w64 (n := (k : Int) + 1) (by omega)]
            exact GH.refl ⟨k + 1, ⟨rfl, by simp [h1], by simp [h5], by simp [h7], by simp [h9], by simp [h12], by simp, hkl⟩, by omega⟩
          · simp [h5]
            refine CALLv.at (v_Sets hU.v) fun u W hu => ?_
            obtain ⟨a, b, c, e1, gc1, gc2, gc3, rfl, rfl, rfl, ⟨X1, hX1⟩, t1, t2, t3⟩ := hu
            subst e1
            have hUW : AW W ga y J' := by rw [hX1]; exact hU.app
            have hpW : ∃ Z, W = H ++ Z := by
              obtain ⟨Z, hZ⟩ := hpU
              exact ⟨Z ++ X1, by rw [hX1, hZ, List.append_assoc]⟩
            simp
            refine v_loopX hC (fun (q : Nat) e W' => W' = W ∧ e 1 = AS kl ls ∧ e 5 = .ptr ga 0 ∧ e 7 = i6 i ∧ e 15 = .ptr gc1 0 ∧ e 16 = .ptr gc2 0 ∧ e 17 = .ptr gc3 0 ∧ e 18 = i6 (frK J' q).length ∧ e 19 = i6 q ∧ 2 ≤ q ∧ q ≤ 30) (fun q => 30 - q) 2 (G.refl ?_) ?_
            · exact ⟨rfl, by simp [h1], by simp [h5], by simp [h7], by simp, by simp, by simp, by simp [frK_2 hJok'], by simp, by simp, by simp⟩
            rintro q e W' ⟨rfl, h1, h5, h7, h15, h16, h17, h18, h19, hq2, hq⟩
            simp [h19]
            refine CondV.dec (fun hql => ?_) (fun hqg => ?_)
            · have hql : q < 30 := by omega
              obtain ⟨x, hx, hxe, hxC, hxS, hxP⟩ := kinds hJok' hq2 (by omega)
              have hfs := frK_succ J' q
              rw [hxe] at hfs
              have hfp := (frK_pre (K := J') (p := q) (by omega)).length_le
              have hfk := freeK hJok'
              simp [h15, h19]
              refine (v_Has (m := J'.map isC) (no := (q : Int))).call t1.v ?_
              rw [hxC]
              rcases hx with rfl | rfl | rfl | rfl
              · simp [isC, h17, h19]
                refine (v_Has (m := J'.map isP) (no := (q : Int))).call t3.v ?_
                rw [hxP]
                simp [isP, h15, h19]
                refine (v_Has (m := J'.map isC) (no := (q : Int))).call t1.v ?_
                rw [hxC]
                simp [isC, h16, h19]
                refine (v_Has (m := J'.map isS) (no := (q : Int))).call t2.v ?_
                rw [hxS]
                rw [if_pos rfl] at hfs
                simp [isS, h18, h19, w64 (n := (q : Int) + 1) (by omega), w64 (n := ((frK J' q).length : Int) + 1) (by omega)]
                exact GH.refl ⟨q + 1, ⟨rfl, by simp [h1], by simp [h5], by simp [h7], by simp [h15], by simp [h16], by simp [h17], by simp [hfs], by simp, by omega, hql⟩, by omega⟩
              · simp [isC, h16, h19]
                refine (v_Has (m := J'.map isS) (no := (q : Int))).call t2.v ?_
                rw [hxS]
                simp [isS, h17, h19]
                refine (v_Has (m := J'.map isP) (no := (q : Int))).call t3.v ?_
                rw [hxP]
                simp [isP, h15, h19]
                refine (v_Has (m := J'.map isC) (no := (q : Int))).call t1.v ?_
                rw [hxC]
                rw [if_neg (by omega)] at hfs
                simp [isC, h19, w64 (n := (q : Int) + 1) (by omega)]
                exact GH.refl ⟨q + 1, ⟨rfl, by simp [h1], by simp [h5], by simp [h7], by simp [h15], by simp [h16], by simp [h17], by simp [hfs, h18], by simp, by omega, hql⟩, by omega⟩
              · simp [isC, h17, h19]
                refine (v_Has (m := J'.map isP) (no := (q : Int))).call t3.v ?_
                rw [hxP]
                simp [isP, h15, h19]
                refine (v_Has (m := J'.map isC) (no := (q : Int))).call t1.v ?_
                rw [hxC]
                simp [isC, h16, h19]
                refine (v_Has (m := J'.map isS) (no := (q : Int))).call t2.v ?_
                rw [hxS]
                rw [if_neg (by omega)] at hfs
                simp [isS, h19, w64 (n := (q : Int) + 1) (by omega)]
                exact GH.refl ⟨q + 1, ⟨rfl, by simp [h1], by simp [h5], by simp [h7], by simp [h15], by simp [h16], by simp [h17], by simp [hfs, h18], by simp, by omega, hql⟩, by omega⟩
              · simp [isC, h16, h19]
                refine (v_Has (m := J'.map isS) (no := (q : Int))).call t2.v ?_
                rw [hxS]
                simp [isS, h17, h19]
                refine (v_Has (m := J'.map isP) (no := (q : Int))).call t3.v ?_
                rw [hxP]
                simp [isP, h15, h19]
                refine (v_Has (m := J'.map isC) (no := (q : Int))).call t1.v ?_
                rw [hxC]
                simp [isC, h15, h19]
                refine (v_Has (m := J'.map isC) (no := (q : Int))).call t1.v ?_
                rw [hxC]
                rw [if_neg (by omega)] at hfs
                simp [isC, h19, w64 (n := (q : Int) + 1) (by omega)]
                exact GH.refl ⟨q + 1, ⟨rfl, by simp [h1], by simp [h5], by simp [h7], by simp [h15], by simp [h16], by simp [h17], by simp [hfs, h18], by simp, by omega, hql⟩, by omega⟩
            · have hq30 : q = J'.length := by omega
              have hfk : frK J' q = kAll J' 1 := by rw [hq30]; rfl
              have h0C : hasM (J'.map isC) 0 = false := by
                have := hasM_map (f := isC) rfl (K := J') (p := 0) (by omega)
                rw [this, show ((0 : Int)).toNat = 0 from rfl, hJok'.low (i := 0) (by omega)]; rfl
              have h1S : hasM (J'.map isS) 1 = false := by
                have := hasM_map (f := isS) rfl (K := J') (p := 1) (by omega)
                rw [this, show ((1 : Int)).toNat = 1 from rfl, hJok'.low (i := 1) (by omega)]; rfl
              rw [hfk] at h18
              simp [h5, h18]
              refine (v_aFree hJok').call hUW.v ?_
              simp [h15]
              refine (v_Has (m := J'.map isC) (no := 0)).call t1.v ?_
              simp [h0C, h16]
              refine (v_Has (m := J'.map isS) (no := 1)).call t2.v ?_
              simp [h1S, h7, w64 (n := (i : Int) + 1) (by omega)]
              exact GH.refl ⟨(i + 1, J'), ⟨hpW, ⟨y, hUW, hyU⟩, hJok', hJl', by simp [h1], by simp [h5], by simp, hlt20⟩, by simp only; omega⟩
        · simp [h5]
          refine CALLv.at (v_Give (kk := p.kk) (l := L) hJA0 hJok hLl) fun u U hu => ?_
          obtain ⟨e1, m⟩ := hu
          obtain ⟨hpU, hU, hyU⟩ := fin m
          obtain ⟨J', hJ'⟩ : ∃ J', giveK J L = J' := ⟨_, rfl⟩
          have hJok' : okK J' := hJ' ▸ giveK_ok hJok
          have hJl' : J'.length = 30 := by rw [← hJ', giveK_len, hJl]
          obtain ⟨y, hy⟩ : ∃ y, y = ya := ⟨_, rfl⟩
          rw [hJ'] at hU
          rw [← hy] at hU hyU
          subst e1
          simp [h5]
          refine CALLv.at (v_Sets hU.v) fun u W hu => ?_
          obtain ⟨a, b, c, e1, gc1, gc2, gc3, rfl, rfl, rfl, ⟨X1, hX1⟩, t1, t2, t3⟩ := hu
          subst e1
          have hUW : AW W ga y J' := by rw [hX1]; exact hU.app
          have hpW : ∃ Z, W = H ++ Z := by
            obtain ⟨Z, hZ⟩ := hpU
            exact ⟨Z ++ X1, by rw [hX1, hZ, List.append_assoc]⟩
          simp
          refine v_loopX hC (fun (q : Nat) e W' => W' = W ∧ e 1 = AS kl ls ∧ e 5 = .ptr ga 0 ∧ e 7 = i6 i ∧ e 15 = .ptr gc1 0 ∧ e 16 = .ptr gc2 0 ∧ e 17 = .ptr gc3 0 ∧ e 18 = i6 (frK J' q).length ∧ e 19 = i6 q ∧ 2 ≤ q ∧ q ≤ 30) (fun q => 30 - q) 2 (G.refl ?_) ?_
          · exact ⟨rfl, by simp [h1], by simp [h5], by simp [h7], by simp, by simp, by simp, by simp [frK_2 hJok'], by simp, by simp, by simp⟩
          rintro q e W' ⟨rfl, h1, h5, h7, h15, h16, h17, h18, h19, hq2, hq⟩
          simp [h19]
          refine CondV.dec (fun hql => ?_) (fun hqg => ?_)
          · have hql : q < 30 := by omega
            obtain ⟨x, hx, hxe, hxC, hxS, hxP⟩ := kinds hJok' hq2 (by omega)
            have hfs := frK_succ J' q
            rw [hxe] at hfs
            have hfp := (frK_pre (K := J') (p := q) (by omega)).length_le
            have hfk := freeK hJok'
            simp [h15, h19]
            refine (v_Has (m := J'.map isC) (no := (q : Int))).call t1.v ?_
            rw [hxC]
            rcases hx with rfl | rfl | rfl | rfl
            · simp [isC, h17, h19]
              refine (v_Has (m := J'.map isP) (no := (q : Int))).call t3.v ?_
              rw [hxP]
              simp [isP, h15, h19]
              refine (v_Has (m := J'.map isC) (no := (q : Int))).call t1.v ?_
              rw [hxC]
              simp [isC, h16, h19]
              refine (v_Has (m := J'.map isS) (no := (q : Int))).call t2.v ?_
              rw [hxS]
              rw [if_pos rfl] at hfs
              simp [isS, h18, h19, w64 (n := (q : Int) + 1) (by omega), w64 (n := ((frK J' q).length : Int) + 1) (by omega)]
              exact GH.refl ⟨q + 1, ⟨rfl, by simp [h1], by simp [h5], by simp [h7], by simp [h15], by simp [h16], by simp [h17], by simp [hfs], by simp, by omega, hql⟩, by omega⟩
            · simp [isC, h16, h19]
              refine (v_Has (m := J'.map isS) (no := (q : Int))).call t2.v ?_
              rw [hxS]
              simp [isS, h17, h19]
              refine (v_Has (m := J'.map isP) (no := (q : Int))).call t3.v ?_
              rw [hxP]
              simp [isP, h15, h19]
              refine (v_Has (m := J'.map isC) (no := (q : Int))).call t1.v ?_
              rw [hxC]
              rw [if_neg (by omega)] at hfs
              simp [isC, h19, w64 (n := (q : Int) + 1) (by omega)]
              exact GH.refl ⟨q + 1, ⟨rfl, by simp [h1], by simp [h5], by simp [h7], by simp [h15], by simp [h16], by simp [h17], by simp [hfs, h18], by simp, by omega, hql⟩, by omega⟩
            · simp [isC, h17, h19]
              refine (v_Has (m := J'.map isP) (no := (q : Int))).call t3.v ?_
              rw [hxP]
              simp [isP, h15, h19]
              refine (v_Has (m := J'.map isC) (no := (q : Int))).call t1.v ?_
              rw [hxC]
              simp [isC, h16, h19]
              refine (v_Has (m := J'.map isS) (no := (q : Int))).call t2.v ?_
              rw [hxS]
              rw [if_neg (by omega)] at hfs
              simp [isS, h19, w64 (n := (q : Int) + 1) (by omega)]
              exact GH.refl ⟨q + 1, ⟨rfl, by simp [h1], by simp [h5], by simp [h7], by simp [h15], by simp [h16], by simp [h17], by simp [hfs, h18], by simp, by omega, hql⟩, by omega⟩
            · simp [isC, h16, h19]
              refine (v_Has (m := J'.map isS) (no := (q : Int))).call t2.v ?_
              rw [hxS]
              simp [isS, h17, h19]
              refine (v_Has (m := J'.map isP) (no := (q : Int))).call t3.v ?_
              rw [hxP]
              simp [isP, h15, h19]
              refine (v_Has (m := J'.map isC) (no := (q : Int))).call t1.v ?_
              rw [hxC]
              simp [isC, h15, h19]
              refine (v_Has (m := J'.map isC) (no := (q : Int))).call t1.v ?_
              rw [hxC]
              rw [if_neg (by omega)] at hfs
              simp [isC, h19, w64 (n := (q : Int) + 1) (by omega)]
              exact GH.refl ⟨q + 1, ⟨rfl, by simp [h1], by simp [h5], by simp [h7], by simp [h15], by simp [h16], by simp [h17], by simp [hfs, h18], by simp, by omega, hql⟩, by omega⟩
          · have hq30 : q = J'.length := by omega
            have hfk : frK J' q = kAll J' 1 := by rw [hq30]; rfl
            have h0C : hasM (J'.map isC) 0 = false := by
              have := hasM_map (f := isC) rfl (K := J') (p := 0) (by omega)
              rw [this, show ((0 : Int)).toNat = 0 from rfl, hJok'.low (i := 0) (by omega)]; rfl
            have h1S : hasM (J'.map isS) 1 = false := by
              have := hasM_map (f := isS) rfl (K := J') (p := 1) (by omega)
              rw [this, show ((1 : Int)).toNat = 1 from rfl, hJok'.low (i := 1) (by omega)]; rfl
            rw [hfk] at h18
            simp [h5, h18]
            refine (v_aFree hJok').call hUW.v ?_
            simp [h15]
            refine (v_Has (m := J'.map isC) (no := 0)).call t1.v ?_
            simp [h0C, h16]
            refine (v_Has (m := J'.map isS) (no := 1)).call t2.v ?_
            simp [h1S, h7, w64 (n := (i : Int) + 1) (by omega)]
            exact GH.refl ⟨(i + 1, J'), ⟨hpW, ⟨y, hUW, hyU⟩, hJok', hJl', by simp [h1], by simp [h5], by simp, hlt20⟩, by simp only; omega⟩
        · simp [h5]
          refine CALLv.at (v_Commit hJA0 hJok) fun u U hu => ?_
          obtain ⟨e1, y, m⟩ := hu
          obtain ⟨hpU, hU, hyU⟩ := fin m
          obtain ⟨J', hJ'⟩ : ∃ J', commitK J = J' := ⟨_, rfl⟩
          have hJok' : okK J' := hJ' ▸ commitK_ok hJok
          have hJl' : J'.length = 30 := by rw [← hJ', commitK_len, hJl]
          rw [hJ'] at hU
          subst e1
          simp [h5]
          refine CALLv.at (v_Sets hU.v) fun u W hu => ?_
          obtain ⟨a, b, c, e1, gc1, gc2, gc3, rfl, rfl, rfl, ⟨X1, hX1⟩, t1, t2, t3⟩ := hu
          subst e1
          have hUW : AW W ga y J' := by rw [hX1]; exact hU.app
          have hpW : ∃ Z, W = H ++ Z := by
            obtain ⟨Z, hZ⟩ := hpU
            exact ⟨Z ++ X1, by rw [hX1, hZ, List.append_assoc]⟩
          simp
          refine v_loopX hC (fun (q : Nat) e W' => W' = W ∧ e 1 = AS kl ls ∧ e 5 = .ptr ga 0 ∧ e 7 = i6 i ∧ e 15 = .ptr gc1 0 ∧ e 16 = .ptr gc2 0 ∧ e 17 = .ptr gc3 0 ∧ e 18 = i6 (frK J' q).length ∧ e 19 = i6 q ∧ 2 ≤ q ∧ q ≤ 30) (fun q => 30 - q) 2 (G.refl ?_) ?_
          · exact ⟨rfl, by simp [h1], by simp [h5], by simp [h7], by simp, by simp, by simp, by simp [frK_2 hJok'], by simp, by simp, by simp⟩
          rintro q e W' ⟨rfl, h1, h5, h7, h15, h16, h17, h18, h19, hq2, hq⟩
          simp [h19]
          refine CondV.dec (fun hql => ?_) (fun hqg => ?_)
          · have hql : q < 30 := by omega
            obtain ⟨x, hx, hxe, hxC, hxS, hxP⟩ := kinds hJok' hq2 (by omega)
            have hfs := frK_succ J' q
            rw [hxe] at hfs
            have hfp := (frK_pre (K := J') (p := q) (by omega)).length_le
            have hfk := freeK hJok'
            simp [h15, h19]
            refine (v_Has (m := J'.map isC) (no := (q : Int))).call t1.v ?_
            rw [hxC]
            rcases hx with rfl | rfl | rfl | rfl
            · simp [isC, h17, h19]
              refine (v_Has (m := J'.map isP) (no := (q : Int))).call t3.v ?_
              rw [hxP]
              simp [isP, h15, h19]
              refine (v_Has (m := J'.map isC) (no := (q : Int))).call t1.v ?_
              rw [hxC]
              simp [isC, h16, h19]
              refine (v_Has (m := J'.map isS) (no := (q : Int))).call t2.v ?_
              rw [hxS]
              rw [if_pos rfl] at hfs
              simp [isS, h18, h19, w64 (n := (q : Int) + 1) (by omega), w64 (n := ((frK J' q).length : Int) + 1) (by omega)]
              exact GH.refl ⟨q + 1, ⟨rfl, by simp [h1], by simp [h5], by simp [h7], by simp [h15], by simp [h16], by simp [h17], by simp [hfs], by simp, by omega, hql⟩, by omega⟩
            · simp [isC, h16, h19]
              refine (v_Has (m := J'.map isS) (no := (q : Int))).call t2.v ?_
              rw [hxS]
              simp [isS, h17, h19]
              refine (v_Has (m := J'.map isP) (no := (q : Int))).call t3.v ?_
              rw [hxP]
              simp [isP, h15, h19]
              refine (v_Has (m := J'.map isC) (no := (q : Int))).call t1.v ?_
              rw [hxC]
              rw [if_neg (by omega)] at hfs
              simp [isC, h19, w64 (n := (q : Int) + 1) (by omega)]
              exact GH.refl ⟨q + 1, ⟨rfl, by simp [h1], by simp [h5], by simp [h7], by simp [h15], by simp [h16], by simp [h17], by simp [hfs, h18], by simp, by omega, hql⟩, by omega⟩
            · simp [isC, h17, h19]
              refine (v_Has (m := J'.map isP) (no := (q : Int))).call t3.v ?_
              rw [hxP]
              simp [isP, h15, h19]
              refine (v_Has (m := J'.map isC) (no := (q : Int))).call t1.v ?_
              rw [hxC]
              simp [isC, h16, h19]
              refine (v_Has (m := J'.map isS) (no := (q : Int))).call t2.v ?_
              rw [hxS]
              rw [if_neg (by omega)] at hfs
              simp [isS, h19, w64 (n := (q : Int) + 1) (by omega)]
              exact GH.refl ⟨q + 1, ⟨rfl, by simp [h1], by simp [h5], by simp [h7], by simp [h15], by simp [h16], by simp [h17], by simp [hfs, h18], by simp, by omega, hql⟩, by omega⟩
            · simp [isC, h16, h19]
              refine (v_Has (m := J'.map isS) (no := (q : Int))).call t2.v ?_
              rw [hxS]
              simp [isS, h17, h19]
              refine (v_Has (m := J'.map isP) (no := (q : Int))).call t3.v ?_
              rw [hxP]
              simp [isP, h15, h19]
              refine (v_Has (m := J'.map isC) (no := (q : Int))).call t1.v ?_
              rw [hxC]
              simp [isC, h15, h19]
              refine (v_Has (m := J'.map isC) (no := (q : Int))).call t1.v ?_
              rw [hxC]
              rw [if_neg (by omega)] at hfs
              simp [isC, h19, w64 (n := (q : Int) + 1) (by omega)]
              exact GH.refl ⟨q + 1, ⟨rfl, by simp [h1], by simp [h5], by simp [h7], by simp [h15], by simp [h16], by simp [h17], by simp [hfs, h18], by simp, by omega, hql⟩, by omega⟩
          · have hq30 : q = J'.length := by omega
            have hfk : frK J' q = kAll J' 1 := by rw [hq30]; rfl
            have h0C : hasM (J'.map isC) 0 = false := by
              have := hasM_map (f := isC) rfl (K := J') (p := 0) (by omega)
              rw [this, show ((0 : Int)).toNat = 0 from rfl, hJok'.low (i := 0) (by omega)]; rfl
            have h1S : hasM (J'.map isS) 1 = false := by
              have := hasM_map (f := isS) rfl (K := J') (p := 1) (by omega)
              rw [this, show ((1 : Int)).toNat = 1 from rfl, hJok'.low (i := 1) (by omega)]; rfl
            rw [hfk] at h18
            simp [h5, h18]
            refine (v_aFree hJok').call hUW.v ?_
            simp [h15]
            refine (v_Has (m := J'.map isC) (no := 0)).call t1.v ?_
            simp [h0C, h16]
            refine (v_Has (m := J'.map isS) (no := 1)).call t2.v ?_
            simp [h1S, h7, w64 (n := (i : Int) + 1) (by omega)]
            exact GH.refl ⟨(i + 1, J'), ⟨hpW, ⟨y, hUW, hyU⟩, hJok', hJl', by simp [h1], by simp [h5], by simp, hlt20⟩, by simp only; omega⟩
        · simp [h5]
          refine CALLv.at (v_Abort hJA0 hJok) fun u U hu => ?_
          obtain ⟨e1, y, m⟩ := hu
          obtain ⟨hpU, hU, hyU⟩ := fin m
          obtain ⟨J', hJ'⟩ : ∃ J', abortK J = J' := ⟨_, rfl⟩
          have hJok' : okK J' := hJ' ▸ abortK_ok hJok
          have hJl' : J'.length = 30 := by rw [← hJ', abortK_len, hJl]
          rw [hJ'] at hU
          subst e1
          simp [h5]
          refine CALLv.at (v_Sets hU.v) fun u W hu => ?_
          obtain ⟨a, b, c, e1, gc1, gc2, gc3, rfl, rfl, rfl, ⟨X1, hX1⟩, t1, t2, t3⟩ := hu
          subst e1
          have hUW : AW W ga y J' := by rw [hX1]; exact hU.app
          have hpW : ∃ Z, W = H ++ Z := by
            obtain ⟨Z, hZ⟩ := hpU
            exact ⟨Z ++ X1, by rw [hX1, hZ, List.append_assoc]⟩
          simp
          refine v_loopX hC (fun (q : Nat) e W' => W' = W ∧ e 1 = AS kl ls ∧ e 5 = .ptr ga 0 ∧ e 7 = i6 i ∧ e 15 = .ptr gc1 0 ∧ e 16 = .ptr gc2 0 ∧ e 17 = .ptr gc3 0 ∧ e 18 = i6 (frK J' q).length ∧ e 19 = i6 q ∧ 2 ≤ q ∧ q ≤ 30) (fun q => 30 - q) 2 (G.refl ?_) ?_
          · exact ⟨rfl, by simp [h1], by simp [h5], by simp [h7], by simp, by simp, by simp, by simp [frK_2 hJok'], by simp, by simp, by simp⟩
          rintro q e W' ⟨rfl, h1, h5, h7, h15, h16, h17, h18, h19, hq2, hq⟩
          simp [h19]
          refine CondV.dec (fun hql => ?_) (fun hqg => ?_)
          · have hql : q < 30 := by omega
            obtain ⟨x, hx, hxe, hxC, hxS, hxP⟩ := kinds hJok' hq2 (by omega)
            have hfs := frK_succ J' q
            rw [hxe] at hfs
            have hfp := (frK_pre (K := J') (p := q) (by omega)).length_le
            have hfk := freeK hJok'
            simp [h15, h19]
            refine (v_Has (m := J'.map isC) (no := (q : Int))).call t1.v ?_
            rw [hxC]
            rcases hx with rfl | rfl | rfl | rfl
            · simp [isC, h17, h19]
              refine (v_Has (m := J'.map isP) (no := (q : Int))).call t3.v ?_
              rw [hxP]
              simp [isP, h15, h19]
              refine (v_Has (m := J'.map isC) (no := (q : Int))).call t1.v ?_
              rw [hxC]
              simp [isC, h16, h19]
              refine (v_Has (m := J'.map isS) (no := (q : Int))).call t2.v ?_
              rw [hxS]
              rw [if_pos rfl] at hfs
              simp [isS, h18, h19, w64 (n := (q : Int) + 1) (by omega), w64 (n := ((frK J' q).length : Int) + 1) (by omega)]
              exact GH.refl ⟨q + 1, ⟨rfl, by simp [h1], by simp [h5], by simp [h7], by simp [h15], by simp [h16], by simp [h17], by simp [hfs], by simp, by omega, hql⟩, by omega⟩
            · simp [isC, h16, h19]
              refine (v_Has (m := J'.map isS) (no := (q : Int))).call t2.v ?_
              rw [hxS]
              simp [isS, h17, h19]
              refine (v_Has (m := J'.map isP) (no := (q : Int))).call t3.v ?_
              rw [hxP]
              simp [isP, h15, h19]
              refine (v_Has (m := J'.map isC) (no := (q : Int))).call t1.v ?_
              rw [hxC]
              rw [if_neg (by omega)] at hfs
              simp [isC, h19, w64 (n := (q : Int) + 1) (by omega)]
              exact GH.refl ⟨q + 1, ⟨rfl, by simp [h1], by simp [h5], by simp [h7], by simp [h15], by simp [h16], by simp [h17], by simp [hfs, h18], by simp, by omega, hql⟩, by omega⟩
            · simp [isC, h17, h19]
              refine (v_Has (m := J'.map isP) (no := (q : Int))).call t3.v ?_
              rw [hxP]
              simp [isP, h15, h19]
              refine (v_Has (m := J'.map isC) (no := (q : Int))).call t1.v ?_
              rw [hxC]
              simp [isC, h16, h19]
              refine (v_Has (m := J'.map isS) (no := (q : Int))).call t2.v ?_
              rw [hxS]
              rw [if_neg (by omega)] at hfs
              simp [isS, h19, w64 (n := (q : Int) + 1) (by omega)]
              exact GH.refl ⟨q + 1, ⟨rfl, by simp [h1], by simp [h5], by simp [h7], by simp [h15], by simp [h16], by simp [h17], by simp [hfs, h18], by simp, by omega, hql⟩, by omega⟩
            · simp [isC, h16, h19]
              refine (v_Has (m := J'.map isS) (no := (q : Int))).call t2.v ?_
              rw [hxS]
              simp [isS, h17, h19]
              refine (v_Has (m := J'.map isP) (no := (q : Int))).call t3.v ?_
              rw [hxP]
              simp [isP, h15, h19]
              refine (v_Has (m := J'.map isC) (no := (q : Int))).call t1.v ?_
              rw [hxC]
              simp [isC, h15, h19]
              refine (v_Has (m := J'.map isC) (no := (q : Int))).call t1.v ?_
              rw [hxC]
              rw [if_neg (by omega)] at hfs
              simp [isC, h19, w64 (n := (q : Int) + 1) (by omega)]
              exact GH.refl ⟨q + 1, ⟨rfl, by simp [h1], by simp [h5], by simp [h7], by simp [h15], by simp [h16], by simp [h17], by simp [hfs, h18], by simp, by omega, hql⟩, by omega⟩
          · have hq30 : q = J'.length := by omega
            have hfk : frK J' q = kAll J' 1 := by rw [hq30]; rfl
            have h0C : hasM (J'.map isC) 0 = false := by
              have := hasM_map (f := isC) rfl (K := J') (p := 0) (by omega)
              rw [this, show ((0 : Int)).toNat = 0 from rfl, hJok'.low (i := 0) (by omega)]; rfl
            have h1S : hasM (J'.map isS) 1 = false := by
              have := hasM_map (f := isS) rfl (K := J') (p := 1) (by omega)
              rw [this, show ((1 : Int)).toNat = 1 from rfl, hJok'.low (i := 1) (by omega)]; rfl
            rw [hfk] at h18
            simp [h5, h18]
            refine (v_aFree hJok').call hUW.v ?_
            simp [h15]
            refine (v_Has (m := J'.map isC) (no := 0)).call t1.v ?_
            simp [h0C, h16]
            refine (v_Has (m := J'.map isS) (no := 1)).call t2.v ?_
            simp [h1S, h7, w64 (n := (i : Int) + 1) (by omega)]
            exact GH.refl ⟨(i + 1, J'), ⟨hpW, ⟨y, hUW, hyU⟩, hJok', hJl', by simp [h1], by simp [h5], by simp, hlt20⟩, by simp only; omega⟩
        · simp [h5]
          refine CALLv.at (v_Adopt (kk := p.kk) (l := L) hJA0 hJok hLl) fun u U hu => ?_
          obtain ⟨e1, m⟩ := hu
          obtain ⟨hpU, hU, hyU⟩ := fin m
          obtain ⟨J', hJ'⟩ : ∃ J', adoptK J L = J' := ⟨_, rfl⟩
          have hJok' : okK J' := hJ' ▸ adoptK_ok hJok
          have hJl' : J'.length = 30 := by rw [← hJ', adoptK_len, hJl]
          obtain ⟨y, hy⟩ : ∃ y, y = ya := ⟨_, rfl⟩
          rw [hJ'] at hU
          rw [← hy] at hU hyU
          subst e1
          simp [h5]
          refine CALLv.at (v_Sets hU.v) fun u W hu => ?_
          obtain ⟨a, b, c, e1, gc1, gc2, gc3, rfl, rfl, rfl, ⟨X1, hX1⟩, t1, t2, t3⟩ := hu
          subst e1
          have hUW : AW W ga y J' := by rw [hX1]; exact hU.app
          have hpW : ∃ Z, W = H ++ Z := by
            obtain ⟨Z, hZ⟩ := hpU
            exact ⟨Z ++ X1, by rw [hX1, hZ, List.append_assoc]⟩
          simp
          refine v_loopX hC (fun (q : Nat) e W' => W' = W ∧ e 1 = AS kl ls ∧ e 5 = .ptr ga 0 ∧ e 7 = i6 i ∧ e 15 = .ptr gc1 0 ∧ e 16 = .ptr gc2 0 ∧ e 17 = .ptr gc3 0 ∧ e 18 = i6 (frK J' q).length ∧ e 19 = i6 q ∧ 2 ≤ q ∧ q ≤ 30) (fun q => 30 - q) 2 (G.refl ?_) ?_
          · exact ⟨rfl, by simp [h1], by simp [h5], by simp [h7], by simp, by simp, by simp, by simp [frK_2 hJok'], by simp, by simp, by simp⟩
          rintro q e W' ⟨rfl, h1, h5, h7, h15, h16, h17, h18, h19, hq2, hq⟩
          simp [h19]
          refine CondV.dec (fun hql => ?_) (fun hqg => ?_)
          · have hql : q < 30 := by omega
            obtain ⟨x, hx, hxe, hxC, hxS, hxP⟩ := kinds hJok' hq2 (by omega)
            have hfs := frK_succ J' q
            rw [hxe] at hfs
            have hfp := (frK_pre (K := J') (p := q) (by omega)).length_le
            have hfk := freeK hJok'
            simp [h15, h19]
            refine (v_Has (m := J'.map isC) (no := (q : Int))).call t1.v ?_
            rw [hxC]
            rcases hx with rfl | rfl | rfl | rfl
            · simp [isC, h17, h19]
              refine (v_Has (m := J'.map isP) (no := (q : Int))).call t3.v ?_
              rw [hxP]
              simp [isP, h15, h19]
              refine (v_Has (m := J'.map isC) (no := (q : Int))).call t1.v ?_
              rw [hxC]
              simp [isC, h16, h19]
              refine (v_Has (m := J'.map isS) (no := (q : Int))).call t2.v ?_
              rw [hxS]
              rw [if_pos rfl] at hfs
              simp [isS, h18, h19, w64 (n := (q : Int) + 1) (by omega), w64 (n := ((frK J' q).length : Int) + 1) (by omega)]
              exact GH.refl ⟨q + 1, ⟨rfl, by simp [h1], by simp [h5], by simp [h7], by simp [h15], by simp [h16], by simp [h17], by simp [hfs], by simp, by omega, hql⟩, by omega⟩
            · simp [isC, h16, h19]
              refine (v_Has (m := J'.map isS) (no := (q : Int))).call t2.v ?_
              rw [hxS]
              simp [isS, h17, h19]
              refine (v_Has (m := J'.map isP) (no := (q : Int))).call t3.v ?_
              rw [hxP]
              simp [isP, h15, h19]
              refine (v_Has (m := J'.map isC) (no := (q : Int))).call t1.v ?_
              rw [hxC]
              rw [if_neg (by omega)] at hfs
              simp [isC, h19, w64 (n := (q : Int) + 1) (by omega)]
              exact GH.refl ⟨q + 1, ⟨rfl, by simp [h1], by simp [h5], by simp [h7], by simp [h15], by simp [h16], by simp [h17], by simp [hfs, h18], by simp, by omega, hql⟩, by omega⟩
            · simp [isC, h17, h19]
              refine (v_Has (m := J'.map isP) (no := (q : Int))).call t3.v ?_
              rw [hxP]
              simp [isP, h15, h19]
              refine (v_Has (m := J'.map isC) (no := (q : Int))).call t1.v ?_
              rw [hxC]
              simp [isC, h16, h19]
              refine (v_Has (m := J'.map isS) (no := (q : Int))).call t2.v ?_
              rw [hxS]
              rw [if_neg (by omega)] at hfs
              simp [isS, h19, w64 (n := (q : Int) + 1) (by omega)]
              exact GH.refl ⟨q + 1, ⟨rfl, by simp [h1], by simp [h5], by simp [h7], by simp [h15], by simp [h16], by simp [h17], by simp [hfs, h18], by simp, by omega, hql⟩, by omega⟩
            · simp [isC, h16, h19]
              refine (v_Has (m := J'.map isS) (no := (q : Int))).call t2.v ?_
              rw [hxS]
              simp [isS, h17, h19]
              refine (v_Has (m := J'.map isP) (no := (q : Int))).call t3.v ?_
              rw [hxP]
              simp [isP, h15, h19]
              refine (v_Has (m := J'.map isC) (no := (q : Int))).call t1.v ?_
              rw [hxC]
              simp [isC, h15, h19]
              refine (v_Has (m := J'.map isC) (no := (q : Int))).call t1.v ?_
              rw [hxC]
              rw [if_neg (by omega)] at hfs
              simp [isC, h19, w64 (n := (q : Int) + 1) (by omega)]
              exact GH.refl ⟨q + 1, ⟨rfl, by simp [h1], by simp [h5], by simp [h7], by simp [h15], by simp [h16], by simp [h17], by simp [hfs, h18], by simp, by omega, hql⟩, by omega⟩
          · have hq30 : q = J'.length := by omega
            have hfk : frK J' q = kAll J' 1 := by rw [hq30]; rfl
            have h0C : hasM (J'.map isC) 0 = false := by
              have := hasM_map (f := isC) rfl (K := J') (p := 0) (by omega)
              rw [this, show ((0 : Int)).toNat = 0 from rfl, hJok'.low (i := 0) (by omega)]; rfl
            have h1S : hasM (J'.map isS) 1 = false := by
              have := hasM_map (f := isS) rfl (K := J') (p := 1) (by omega)
              rw [this, show ((1 : Int)).toNat = 1 from rfl, hJok'.low (i := 1) (by omega)]; rfl
            rw [hfk] at h18
            simp [h5, h18]
            refine (v_aFree hJok').call hUW.v ?_
            simp [h15]
            refine (v_Has (m := J'.map isC) (no := 0)).call t1.v ?_
            simp [h0C, h16]
            refine (v_Has (m := J'.map isS) (no := 1)).call t2.v ?_
            simp [h1S, h7, w64 (n := (i : Int) + 1) (by omega)]
            exact GH.refl ⟨(i + 1, J'), ⟨hpW, ⟨y, hUW, hyU⟩, hJok', hJl', by simp [h1], by simp [h5], by simp, hlt20⟩, by simp only; omega⟩
      · obtain ⟨Z, hZ⟩ := hpT
        by_cases hlt : i < ls.length
        · have hge : ¬ (i : Int) < 20 := by omega
          simp [h7, hlt, hge]
          refine v_known7.call ?_
          simp [Tryd.results3]
          rw [hZ]
          first | (refine GV.ans hcl ?_; simp []; done) | (refine GV.ans0 ?_; simp []; done)
        · simp [hlt]
          refine v_known7.call ?_
          simp [Tryd.results3]
          rw [hZ]
          first | (refine GV.ans hcl ?_; simp []; done) | (refine GV.ans0 ?_; simp []; done)
  · rw [if_neg hE] at hu1
    subst hu1
    simp [hE, nilP]
    refine v_known7.call ?_
    simp [Tryd.results3]
    obtain ⟨X1, hX1⟩ := hp1
    rw [hX1]
    first | (refine GV.ans hcl ?_; simp []; done) | (refine GV.ans0 ?_; simp []; done)
end Go.Proofs.YtldhfdagmaklaaaDoor.VM
end
section
set_option maxHeartbeats 8000000
set_option linter.unusedVariables false
set_option linter.unusedSimpArgs false

/- AllocParts at the arguments as they read. -/
namespace Go.Proofs.YtldhfdagmaklaaaDoor
open Go Go.RowKit AM VM B
theorem allocParts_row {H : Type} {enc : TypeId × Value → H} (A0 : Option Addr) (n0 c0 : Nat) (A1 : Option Addr) (n1 c1 : Nat) (w : World) (hg : Globs w.heap) (h0 : Rd enc Tryd.prog w 22 [.slice A0 n0 c0]) (h1 : Rd enc Tryd.prog w 23 [.slice A1 n1 c1]) :
    Calls Tryd.prog 3 #[.slice A0 n0 c0, .slice A1 n1 c1] w fun e w' => e = .returned (.bool true) ∧ Below w.heap.size w w' := by
  obtain ⟨kk, l, hl, ha⟩ := arg_ints h0
  obtain ⟨kl, ls, hls, hb, has⟩ := arg_acts h1
  exact (v_AllocParts hl hls fun a h => (hb a h).1).law mixed prims_ok ⟨_, _, Tryd.func3, rfl, by decide +kernel⟩ ⟨_, _, rfl, ha, _, _, rfl, has, rfl⟩ hg
end Go.Proofs.YtldhfdagmaklaaaDoor
end
