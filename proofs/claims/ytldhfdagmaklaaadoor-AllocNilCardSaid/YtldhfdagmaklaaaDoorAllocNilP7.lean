/- What the proof of AllocNil rests on, part 7 of 7. -/
import Derived.Test.YtldhfdagmaklaaaDoorAllocNilP6
import Derived.Test.YtldhfdagmaklaaaDoorAllocNilS
section
set_option maxHeartbeats 8000000
set_option linter.unusedVariables false
set_option linter.unusedSimpArgs false

/- alloc: New. -/
namespace Go.Proofs.YtldhfdagmaklaaaDoor.VM
open Go Go.Proofs AM B
set_option maxRecDepth 100000
/-- Pages of which nothing is taken. -/
def K0 (n : Nat) : List Int := 0 :: 0 :: List.replicate (n - 2) 1
theorem K0_len {n : Nat} (h : 2 ≤ n) : (K0 n).length = n := by unfold K0; simp; omega
theorem K0_ok {n : Nat} (h : 2 ≤ n) (h2 : n ≤ 2048) : okK (K0 n) := ⟨List.replicate (n - 2) 1, rfl, by rw [K0_len h]; exact h2, fun k hk => by rw [List.eq_of_mem_replicate hk]; omega⟩
theorem K0_map {f : Int → Bool} {n : Nat} (h : 2 ≤ n) (h0 : f 0 = false) (h1 : f 1 = false) : (K0 n).map f = List.replicate n false := by
  obtain ⟨m, rfl⟩ : ∃ m, n = m + 2 := ⟨n - 2, by omega⟩
  unfold K0
  simp [h0, h1, List.replicate_succ]
theorem K0_get {f : Int → Bool} {n : Nat} (h : 2 ≤ n) (h0 : f 0 = false) (h1 : f 1 = false) (i : Nat) : f ((K0 n).getD i 0) = false := by
  rw [← map_getD h0, K0_map h h0 h1, List.getD_eq_getElem?_getD]
  by_cases hi : i < n
  · rw [List.getElem?_replicate_of_lt hi]; rfl
  · rw [List.getElem?_eq_none (by simp; omega)]; rfl
def newE (n : Int) (l : List Int) : Int := if n < 2 ∨ 2048 < n then 1 else if inK n.toNat l = false then 10 else if flipN true (List.replicate n.toNat false) l ≠ l.length then 8 else 0
def newK (n : Nat) (l : List Int) : List Int := setK (K0 n) (nn l) 2
theorem newK_len {n : Nat} {l : List Int} (h : 2 ≤ n) : (newK n l).length = n := by unfold newK; rw [setK_len, K0_len h]
theorem newK_ok {n : Nat} {l : List Int} (h : 2 ≤ n) (h2 : n ≤ 2048) (hl : inK n l = true) : okK (newK n l) := setK_ok (by omega) (K0_ok h h2) fun i hi => by
  obtain ⟨p, hp, rfl⟩ := List.mem_map.1 hi
  have := inK_iff.1 hl p hp
  omega
/-- What New made. -/
def NewR (H T : Hp) (u : V) (n : Int) (l : List Int) : Prop := (∃ X, T = H ++ X) ∧ (if newE n l = 0 then ∃ g x, u = .tup [.ptr g 0, i6 0] ∧ AW T g x (newK n.toNat l) ∧ ∀ i ∈ fp g x, H.length ≤ i else u = .tup [nilP, i6 (newE n l)])
theorem v_aNew {H : Hp} {n : Int} {kk : Bool} {l : List Int} (hl : l.length < 2 ^ 40) : VC Tryd.prog prims 7 [i6 n, IS kk l] H fun u T => NewR H T u n l := by
  refine v_enter hC [] (fun _ _ => kn_none rfl) Tryd.func7 rfl ok7 (Nat.le_of_ble_eq_true rfl) fun hcl hbl => ?_
  by_cases h0 : n < 2
  · have e : newE n l = 1 := by unfold newE; rw [if_pos (.inl h0)]
    simp [h0, Tryd.results7]
    exact GV.refl ⟨⟨[], by simp⟩, by rw [if_neg (by rw [e]; omega), e]; rfl⟩
  by_cases h1 : 2048 < n
  · have e : newE n l = 1 := by unfold newE; rw [if_pos (.inr h1)]
    simp [h0, h1, Tryd.results7]
    exact GV.refl ⟨⟨[], by simp⟩, by rw [if_neg (by rw [e]; omega), e]; rfl⟩
  obtain ⟨m, rfl⟩ : ∃ m : Nat, n = m := ⟨n.toNat, by omega⟩
  have hm2 : 2 ≤ m := by omega
  have hmt : ((m : Int)).toNat = m := by omega
  have hE : newE m l = if inK m l = false then 10 else if flipN true (List.replicate m false) l ≠ l.length then 8 else 0 := by unfold newE; rw [if_neg (by omega), hmt]
  simp [h0, h1]
  refine (v_empty (n := m) (by omega) (by omega)).call fun w1 t1 => ?_
  obtain ⟨U1, hU1⟩ : ∃ U1, H ++ setO H.length w1 t1 (List.replicate m false) = U1 := ⟨_, rfl⟩
  have l1 : U1.length = H.length + 2 := by rw [← hU1, List.length_append, setO_len]
  have s1 : SetW U1 H.length (H.length + 1) w1 t1 (List.replicate m false) := by rw [← hU1]; exact setO_v (by simp; omega)
  rw [hU1]
  simp
  refine (v_empty (n := m) (by omega) (by omega)).call fun w2 t2 => ?_
  obtain ⟨U2, hU2⟩ : ∃ U2, U1 ++ setO U1.length w2 t2 (List.replicate m false) = U2 := ⟨_, rfl⟩
  have l2 : U2.length = U1.length + 2 := by rw [← hU2, List.length_append, setO_len]
  have s2 : SetW U2 U1.length (U1.length + 1) w2 t2 (List.replicate m false) := by rw [← hU2]; exact setO_v (by simp; omega)
  rw [hU2]
  simp
  refine (v_empty (n := m) (by omega) (by omega)).call fun w3 t3 => ?_
  obtain ⟨U3, hU3⟩ : ∃ U3, U2 ++ setO U2.length w3 t3 (List.replicate m false) = U3 := ⟨_, rfl⟩
  have l3 : U3.length = U2.length + 2 := by rw [← hU3, List.length_append, setO_len]
  have s3 : SetW U3 U2.length (U2.length + 1) w3 t3 (List.replicate m false) := by rw [← hU3]; exact setO_v (by simp; omega)
  rw [hU3]
  simp
  obtain ⟨U4, hU4⟩ : ∃ U4, U3 ++ [Ob.mem [i6 m, .ptr H.length 0, .ptr U1.length 0, .ptr U2.length 0] true] = U4 := ⟨_, rfl⟩
  have l4 : U4.length = U3.length + 1 := by rw [← hU4]; simp
  obtain ⟨X4, hX4⟩ : ∃ X4, U4 = H ++ X4 := ⟨_, by rw [← hU4, ← hU3, ← hU2, ← hU1, List.append_assoc, List.append_assoc, List.append_assoc]⟩
  have hA : AW U4 U3.length ⟨H.length, H.length + 1, w1, t1, U1.length, U1.length + 1, w2, t2, U2.length, U2.length + 1, w3, t3⟩ (K0 m) := by
    refine ⟨by rw [← hU4, K0_len hm2]; simp, ?_, ?_, ?_, by simp only; omega, by simp only; omega, by simp only; omega⟩
    · rw [K0_map hm2 rfl rfl, ← hU4, ← hU3, ← hU2]; exact s1.app.app.app
    · rw [K0_map hm2 rfl rfl, ← hU4, ← hU3]; exact s2.app.app
    · rw [K0_map hm2 rfl rfl, ← hU4]; exact s3.app
  simp only [i6] at hU4
  rw [hU4]
  have hin' : (K0 m).length = m := K0_len hm2
  refine CALLv.at (v_within (kk := kk) (l := l) (by omega) _ hA.v) fun u T hu => ?_
  obtain ⟨e1, e2⟩ := hu
  rw [hin'] at e1
  subst e1; subst e2
  cases hin : inK m l with
  | false =>
    have e : newE m l = 10 := by rw [hE, if_pos hin]
    simp [Tryd.results7]
    exact GV.refl ⟨⟨X4, hX4⟩, by rw [if_neg (by rw [e]; omega), e]; rfl⟩
  | true =>
    have hE2 : newE m l = if flipN true (List.replicate m false) l ≠ l.length then 8 else 0 := by rw [hE, if_neg (by simp [hin])]
    have hll := inK_iff.1 hin
    simp [hA.ob]
    refine CALLv.at (v_Add (kk := kk) (m := (K0 m).map isC) (l := l) (g := H.length) (gw := H.length + 1) (v := w1) (t := t1) hA.c (by omega)) fun u T hu => ?_
    obtain ⟨e1, e2⟩ := hu
    have hc : flipM true ((K0 m).map isC) l = (newK m l).map isC := by
      have := flipM_setK (f := isC) (v := 2) (l := nn l) (K := K0 m) fun i hi => by
        obtain ⟨p, hp, rfl⟩ := List.mem_map.1 hi
        have := hll p hp
        rw [K0_len hm2]; omega
      rw [is_nn fun p hp => by have := hll p hp; omega] at this
      exact this
    have hA2 : AW T U3.length ⟨H.length, H.length + 1, w1, t1, U1.length, U1.length + 1, w2, t2, U2.length, U2.length + 1, w3, t3⟩ (newK m l) := by
      rw [e2, hc]
      exact hA.putC (K' := newK m l) (by rw [newK_len hm2, K0_len hm2]) (setK_same rfl fun i _ => K0_get hm2 rfl rfl i) (setK_same rfl fun i _ => K0_get hm2 rfl rfl i)
    obtain ⟨X5, hX5⟩ : ∃ X5, T = H ++ X5 := ⟨_, by rw [e2, hX4]; unfold putW; rw [List.set_append_right _ _ (by omega)]⟩
    rw [K0_map hm2 rfl rfl] at e1
    clear e2
    subst e1
    by_cases hn : flipN true (List.replicate m false) l ≠ l.length
    · have e : newE m l = 8 := by rw [hE2, if_pos hn]
      have hn' : ¬ ((flipN true (List.replicate m false) l : Nat) : Int) = l.length := by omega
      have hd : decide (((flipN true (List.replicate m false) l : Nat) : Int) = l.length) = false := decide_eq_false hn'
      simp [hd, Tryd.results7]
      exact GV.refl ⟨⟨X5, hX5⟩, by rw [if_neg (by rw [e]; omega), e]; rfl⟩
    · have e : newE m l = 0 := by rw [hE2, if_neg hn]
      have hn' : flipN true (List.replicate m false) l = l.length := by simpa using hn
      have hd : decide (((flipN true (List.replicate m false) l : Nat) : Int) = l.length) = true := decide_eq_true (by omega)
      simp [hd, Tryd.results7]
      refine GV.refl ⟨⟨X5, hX5⟩, ?_⟩
      rw [if_pos e]
      refine ⟨_, _, rfl, hA2, fun i hi => ?_⟩
      simp only [fp, List.mem_cons, List.not_mem_nil, or_false] at hi
      omega
end Go.Proofs.YtldhfdagmaklaaaDoor.VM
end
section
set_option maxHeartbeats 8000000
set_option linter.unusedVariables false
set_option linter.unusedSimpArgs false

/- alloc: the law's known; what a nil allocator answers; law AllocNil. -/
namespace Go.Proofs.YtldhfdagmaklaaaDoor.VM
open Go Go.Proofs AM B
set_option maxRecDepth 100000
theorem pre_fr {H T U : Hp} {l : List Nat} (h : ∃ X, T = H ++ X) (hf : FrA T U l) (hl : ∀ i ∈ l, H.length ≤ i) : ∃ X, U = H ++ X := by
  obtain ⟨X, rfl⟩ := h
  refine ⟨U.drop H.length, ?_⟩
  have e : U.take H.length = H := by
    apply List.ext_getElem?
    intro i
    by_cases hi : i < H.length
    · rw [List.getElem?_take, if_pos hi, hf.2 i (by rw [List.length_append]; omega) (fun hm => by have := hl i hm; omega), List.getElem?_append_left hi]
    · rw [List.getElem?_eq_none (by rw [List.length_take]; omega), List.getElem?_eq_none (by omega)]
  conv => lhs; rw [← List.take_append_drop H.length U, e]
theorem NewF.ge {H : Hp} {g : Nat} {x x' : Ax} {n : Nat} (h : NewF H g x x') (hx : ∀ i ∈ fp g x, n ≤ i) (hn : n ≤ H.length) : ∀ i ∈ fp g x', n ≤ i := fun i hi => (h i hi).elim (hx i) fun h => Nat.le_trans hn h
theorem v_known7 : A 8 [] (bo true) := by
  intro H
  refine v_enter hC [] (fun _ _ => kn_none rfl) Tryd.func8 rfl ok8 (Nat.le_of_ble_eq_true rfl) fun hcl hbl => ?_
  simp
  refine CALLv.at (v_aNew (n := 6) (kk := true) (l := [2, 3]) (by simp)) fun u T1 hu => ?_
  obtain ⟨hp1, hu⟩ := hu
  have q1 : newE 6 [2, 3] = 0 := by decide
  rw [if_pos q1] at hu
  obtain ⟨g, x, e1, hA1, hx1⟩ := hu
  have q2 : newK (6 : Int).toNat [2, 3] = [0, 0, 2, 2, 1, 1] := by decide
  rw [q2] at hA1
  have k1 : okK [0, 0, 2, 2, 1, 1] := ⟨_, rfl, by decide, by decide⟩
  subst e1
  simp
  refine CALLv.at (v_Take (n := 1) hA1 k1) fun u T2 hu => ?_
  obtain ⟨e1, hM2⟩ := hu
  have q3 : takeL [0, 0, 2, 2, 1, 1] 1 = [4] := by decide
  have q4 : takeE [0, 0, 2, 2, 1, 1] 1 = 0 := by decide
  have q5 : takeK [0, 0, 2, 2, 1, 1] 1 = [0, 0, 2, 2, 3, 1] := by decide
  rw [q3, q4] at e1
  rw [q5] at hM2
  have k2 : okK [0, 0, 2, 2, 3, 1] := ⟨_, rfl, by decide, by decide⟩
  have hp2 := pre_fr hp1 hM2.fr hx1
  subst e1
  simp
  refine CALLv.at (v_Give (kk := true) (l := [2]) hM2.aw k2 (by simp)) fun u T3 hu => ?_
  obtain ⟨e1, hM3⟩ := hu
  have q6 : giveE [0, 0, 2, 2, 3, 1] [2] = 0 := by decide
  have q7 : giveK [0, 0, 2, 2, 3, 1] [2] = [0, 0, 4, 2, 3, 1] := by decide
  rw [q6] at e1
  rw [q7] at hM3
  have k3 : okK [0, 0, 4, 2, 3, 1] := ⟨_, rfl, by decide, by decide⟩
  have hp3 := pre_fr hp2 hM3.fr hx1
  subst e1
  simp
  refine CALLv.at (v_Commit hM3.aw k3) fun u T4 hu => ?_
  obtain ⟨e1, x', hM4⟩ := hu
  have q8 : allN (List.map isP [0, 0, 4, 2, 3, 1]) = [2] := by decide
  have q9 : commitK [0, 0, 4, 2, 3, 1] = [0, 0, 1, 2, 2, 1] := by decide
  rw [q8] at e1
  rw [q9] at hM4
  have k4 : okK [0, 0, 1, 2, 2, 1] := ⟨_, rfl, by decide, by decide⟩
  have hp4 := pre_fr hp3 hM4.fr hx1
  subst e1
  simp
  refine (v_SameI (kk := true) (km := true) (l := is_ [4]) (m := [4]) (by simp [is_])).callU [IS true (is_ [4]), IS true [4]] (by simp [is_]) ?_
  simp [is_]
  refine (v_SameI (kk := true) (km := true) (l := is_ [2]) (m := [2]) (by simp [is_])).callU [IS true (is_ [2]), IS true [2]] (by simp [is_]) ?_
  simp [is_]
  refine (v_Kind (p := 2) k4).call hM4.aw.v ?_
  have q10 : kindK [0, 0, 1, 2, 2, 1] 2 = 1 := by decide
  simp [q10, Tryd.results8]
  obtain ⟨X, rfl⟩ := hp4
  first | (refine GV.ans hcl ?_; simp []; done) | (refine GV.ans0 ?_; simp []; done)
theorem v_Take0 {n : Int} : A 10 [nilP, i6 n] (.tup [.lit (.slice none 0 0), i6 11]) := by
  intro H
  refine v_enter hC [] (fun _ _ => kn_none rfl) Tryd.func10 rfl ok10 (Nat.le_of_ble_eq_true rfl) fun hcl hbl => ?_
  simp [nilP, Tryd.results10]
  first | (refine GV.ans hcl ?_; simp []; done) | (refine GV.ans0 ?_; simp []; done)
theorem v_Sets0 : A 9 [nilP] (.tup [nilP, nilP, nilP]) := by
  intro H
  refine v_enter hC [] (fun _ _ => kn_none rfl) Tryd.func9 rfl ok9 (Nat.le_of_ble_eq_true rfl) fun hcl hbl => ?_
  simp [nilP, Tryd.results9]
  first | (refine GV.ans hcl ?_; simp []; done) | (refine GV.ans0 ?_; simp []; done)
theorem v_Give0 {kk : Bool} {l : List Int} : A 12 [nilP, IS kk l] (i6 11) := by
  intro H
  refine v_enter hC [] (fun _ _ => kn_none rfl) Tryd.func12 rfl ok12 (Nat.le_of_ble_eq_true rfl) fun hcl hbl => ?_
  simp [nilP, Tryd.results12]
  first | (refine GV.ans hcl ?_; simp []; done) | (refine GV.ans0 ?_; simp []; done)
theorem v_Adopt0 {kk : Bool} {l : List Int} : A 15 [nilP, IS kk l] (i6 11) := by
  intro H
  refine v_enter hC [] (fun _ _ => kn_none rfl) Tryd.func15 rfl ok15 (Nat.le_of_ble_eq_true rfl) fun hcl hbl => ?_
  simp [nilP, Tryd.results15]
  first | (refine GV.ans hcl ?_; simp []; done) | (refine GV.ans0 ?_; simp []; done)
theorem v_Commit0 : A 13 [nilP] (.lit (.slice none 0 0)) := by
  intro H
  refine v_enter hC [] (fun _ _ => kn_none rfl) Tryd.func13 rfl ok13 (Nat.le_of_ble_eq_true rfl) fun hcl hbl => ?_
  simp [nilP, Tryd.results13]
  first | (refine GV.ans hcl ?_; simp []; done) | (refine GV.ans0 ?_; simp []; done)
theorem v_Abort0 : A 14 [nilP] (.lit (.slice none 0 0)) := by
  intro H
  refine v_enter hC [] (fun _ _ => kn_none rfl) Tryd.func14 rfl ok14 (Nat.le_of_ble_eq_true rfl) fun hcl hbl => ?_
  simp [nilP, Tryd.results14]
  first | (refine GV.ans hcl ?_; simp []; done) | (refine GV.ans0 ?_; simp []; done)
theorem v_aFree0 : A 16 [nilP] (i6 0) := by
  intro H
  refine v_enter hC [] (fun _ _ => kn_none rfl) Tryd.func16 rfl ok16 (Nat.le_of_ble_eq_true rfl) fun hcl hbl => ?_
  simp [nilP, Tryd.results16]
  first | (refine GV.ans hcl ?_; simp []; done) | (refine GV.ans0 ?_; simp []; done)
theorem v_Kind0 {n : Int} : A 26 [nilP, i6 n] (i6 5) := by
  intro H
  refine v_enter hC [] (fun _ _ => kn_none rfl) Tryd.func26 rfl ok26 (Nat.le_of_ble_eq_true rfl) fun hcl hbl => ?_
  simp [nilP, Tryd.results26]
  first | (refine GV.ans hcl ?_; simp []; done) | (refine GV.ans0 ?_; simp []; done)
theorem v_Pages0 : A 27 [nilP] (i6 0) := by
  intro H
  refine v_enter hC [] (fun _ _ => kn_none rfl) Tryd.func27 rfl ok27 (Nat.le_of_ble_eq_true rfl) fun hcl hbl => ?_
  simp [nilP, Tryd.results27]
  first | (refine GV.ans hcl ?_; simp []; done) | (refine GV.ans0 ?_; simp []; done)
theorem v_AllocNil {n : Int} {kk : Bool} {l : List Int} : A 6 [i6 n, IS kk l] (bo true) := by
  intro H
  refine v_enter hC [] (fun _ _ => kn_none rfl) Tryd.func6 rfl ok6 (Nat.le_of_ble_eq_true rfl) fun hcl hbl => ?_
  simp
  refine (v_Take0 (n := n)).call ?_
  simp
  refine v_Sets0.call ?_
  simp [nilP]
  refine v_known7.call ?_
  simp
  refine (v_Give0 (kk := kk) (l := l)).call ?_
  simp
  refine (v_Adopt0 (kk := kk) (l := l)).call ?_
  simp
  refine v_Commit0.call ?_
  simp
  refine v_Abort0.call ?_
  simp
  refine v_aFree0.call ?_
  simp
  refine (v_Kind0 (n := n)).call ?_
  simp
  refine v_Pages0.call ?_
  simp
  refine v_aSameN.call ?_
  simp [Tryd.results6]
  first | (refine GV.ans hcl ?_; simp []; done) | (refine GV.ans0 ?_; simp []; done)
end Go.Proofs.YtldhfdagmaklaaaDoor.VM
end
section
set_option maxHeartbeats 8000000
set_option linter.unusedVariables false
set_option linter.unusedSimpArgs false

/- AllocNil at the arguments as they read. -/
namespace Go.Proofs.YtldhfdagmaklaaaDoor
open Go Go.RowKit AM VM B
theorem allocNil_row {H : Type} {enc : TypeId × Value → H} (a0 : Int) (A1 : Option Addr) (n1 c1 : Nat) (w : World) (hg : Globs w.heap) (h0 : (Lit.int .i64 a0).wf = true) (h1 : Rd enc Tryd.prog w 22 [.slice A1 n1 c1]) :
    Calls Tryd.prog 6 #[.int .i64 a0, .slice A1 n1 c1] w fun e w' => e = .returned (.bool true) ∧ Below w.heap.size w w' := by
  obtain ⟨kk, l, hl, ha⟩ := arg_ints h1
  exact (v_AllocNil (n := a0) (kk := kk) (l := l)).law mixed prims_ok ⟨_, _, Tryd.func6, rfl, by decide +kernel⟩ ⟨_, _, rfl, (CellV.lit rfl).arg, _, _, rfl, ha, rfl⟩ hg
end Go.Proofs.YtldhfdagmaklaaaDoor
end
