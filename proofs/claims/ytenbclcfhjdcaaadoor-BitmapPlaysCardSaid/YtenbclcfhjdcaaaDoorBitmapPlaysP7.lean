/- What the proof of BitmapPlays rests on, part 7 of 7. -/
import Derived.Test.YtenbclcfhjdcaaaDoorBitmapPlaysP6
section
set_option maxHeartbeats 8000000
set_option linter.unusedVariables false
set_option linter.unusedSimpArgs false
/- bitmap's law: what a set tells. -/
namespace Go.Proofs.YtenbclcfhjdcaaaDoor.VM
open Go Go.Proofs AM
set_option maxRecDepth 100000
def flatR (R : List (Nat × Nat)) : List Nat := R.flatMap fun r => (List.range r.2).map (r.1 + ·)
theorem flatR_app (R S : List (Nat × Nat)) : flatR (R ++ S) = flatR R ++ flatR S := by simp [flatR]
theorem runStep_nil (x : Nat) : runStep [] x = [(x, 1)] := by simp [runStep]
theorem runStep_snoc (R : List (Nat × Nat)) (a n x : Nat) : runStep (R ++ [(a, n)]) x = if a + n = x then R ++ [(a, n + 1)] else R ++ [(a, n), (x, 1)] := by
  have hl : (R ++ [(a, n)]).length - 1 = R.length := by simp
  have hg : (R ++ [(a, n)]).getD R.length (0, 0) = (a, n) := by rw [List.getD_eq_getElem?_getD, List.getElem?_append_right (Nat.le_refl _)]; simp
  unfold runStep
  rw [hl, hg]
  by_cases h : a + n = x
  · rw [if_pos ⟨by simp, h⟩, if_pos h, List.set_append_right _ _ (Nat.le_refl _)]
    simp
  · rw [if_neg (fun hh => h hh.2), if_neg h]
    simp
structure RunsOk (R : List (Nat × Nat)) (l : List Nat) : Prop where
  flat : flatR R = l
  pos : ∀ r ∈ R, 1 ≤ r.2
  gap : R.Pairwise fun r s => r.1 + r.2 < s.1
theorem runs_step {R : List (Nat × Nat)} {l : List Nat} {x : Nat} (h : RunsOk R l) (hx : ∀ y ∈ l, y < x) : RunsOk (runStep R x) (l ++ [x]) := by
  rcases List.eq_nil_or_concat R with rfl | ⟨R', r, rfl⟩
  · have : l = [] := by rw [← h.flat]; rfl
    subst this
    rw [runStep_nil]
    exact ⟨by simp [flatR], by simp, by simp⟩
  · obtain ⟨a, n⟩ := r
    obtain ⟨h1, h2, h3⟩ := h
    rw [List.concat_eq_append] at *
    have hn : 1 ≤ n := h2 (a, n) (by simp)
    rw [flatR_app] at h1
    have hlast : a + (n - 1) < x := hx _ (by
      rw [← h1]
      refine List.mem_append_right _ ?_
      simp only [flatR, List.flatMap_cons, List.flatMap_nil, List.append_nil, List.mem_map, List.mem_range]
      exact ⟨n - 1, by omega, rfl⟩)
    rw [List.pairwise_append] at h3
    obtain ⟨g1, g2, g3⟩ := h3
    rw [runStep_snoc]
    split
    · rename_i he
      refine ⟨?_, fun r hr => ?_, ?_⟩
      · rw [flatR_app, ← h1, List.append_assoc]
        simp [flatR, List.range_succ, he]
      · rcases List.mem_append.1 hr with hr | hr
        · exact h2 r (by simp [hr])
        · simp at hr; subst hr; simp
      · rw [List.pairwise_append]
        exact ⟨g1, by simp, fun r hr s hs => by simp at hs; subst hs; exact g3 r hr (a, n) (by simp)⟩
    · rename_i he
      refine ⟨?_, fun r hr => ?_, ?_⟩
      · rw [flatR_app, ← h1, List.append_assoc]
        simp [flatR]
      · rcases List.mem_append.1 hr with hr | hr
        · exact h2 r (by simp [hr])
        · simp at hr
          rcases hr with rfl | rfl
          · exact hn
          · simp
      · rw [List.pairwise_append]
        refine ⟨g1, by simp; omega, fun r hr s hs => ?_⟩
        have := g3 r hr (a, n) (by simp)
        simp at hs
        rcases hs with rfl | rfl
        · exact this
        · simp only at this ⊢; omega
theorem runsOk : ∀ (n : Nat) (l : List Nat), l.length = n → l.Pairwise (· < ·) → RunsOk (runsF l) l
  | 0, l, hl, _ => by
    have : l = [] := List.eq_nil_of_length_eq_zero hl
    subst this
    exact ⟨rfl, fun r hr => by simp [runsF] at hr, by simp [runsF]⟩
  | n + 1, l, hl, hp => by
    rcases List.eq_nil_or_concat l with rfl | ⟨l', x, rfl⟩
    · simp at hl
    · rw [List.concat_eq_append] at *
      rw [List.pairwise_append] at hp
      rw [runsF_snoc]
      exact runs_step (runsOk n l' (by simpa using hl) hp.1) fun y hy => hp.2.2 y hy x (by simp)
theorem allN_rise (m : List Bool) : (allN m).Pairwise (· < ·) := List.Pairwise.filter _ List.pairwise_lt_range
theorem allN_runs (m : List Bool) : RunsOk (runsF (allN m)) (allN m) := runsOk _ _ rfl (allN_rise m)
theorem flatR_cons (r : Nat × Nat) (R : List (Nat × Nat)) : flatR (r :: R) = (List.range r.2).map (r.1 + ·) ++ flatR R := List.flatMap_cons ..
theorem flat_at {R : List (Nat × Nat)} {i j : Nat} (hi : i < R.length) (hj : j < R[i].2) : (flatR R)[(flatR (R.take i)).length + j]? = some (R[i].1 + j) := by
  have e : R = R.take i ++ (R[i] :: R.drop (i + 1)) := by rw [← List.drop_eq_getElem_cons hi, List.take_append_drop]
  have e2 : flatR R = flatR (R.take i) ++ ((List.range R[i].2).map (R[i].1 + ·) ++ flatR (R.drop (i + 1))) := by
    rw [← flatR_cons, ← flatR_app, ← e]
  rw [e2, List.getElem?_append_right (by omega), Nat.add_sub_cancel_left, List.getElem?_append_left (by simpa using hj), List.getElem?_map, List.getElem?_range hj]
  rfl
theorem flat_take {R : List (Nat × Nat)} {i : Nat} (hi : i < R.length) : (flatR (R.take (i + 1))).length = (flatR (R.take i)).length + R[i].2 := by
  rw [List.take_add_one, List.getElem?_eq_getElem hi, flatR_app]
  simp [flatR]
theorem from_both (m : List Bool) (no : Int) (b : Bool) : ∃ a e x : Int, fromV m no b = .tup [i6 a, i6 e] ∧ fromI m no b = x ∧ ((x = -1 ∧ e = 7) ∨ (0 ≤ x ∧ e = 0 ∧ a = x)) := by
  unfold fromV fromI
  cases fromM m no b with
  | none => exact ⟨0, 7, -1, rfl, rfl, .inl ⟨rfl, rfl⟩⟩
  | some k => exact ⟨k, 0, k, rfl, rfl, .inr ⟨by omega, rfl, rfl⟩⟩
theorem v_tells {g : Nat} {m : List Bool} {kk : Bool} {no : Int} (hm : 1 ≤ m.length) : RdS 15 g m [BL kk m, i6 no] (bo true) := by
  intro H hS
  have h0 := hS.1
  obtain ⟨R, hR⟩ : ∃ R, runsF (allN m) = R := ⟨_, rfl⟩
  have hok := allN_runs m
  rw [hR] at hok
  obtain ⟨all, hall⟩ : ∃ all, allN m = all := ⟨_, rfl⟩
  have hlen : all.length ≤ 2048 := by rw [← hall]; exact Nat.le_trans (allN_len m) h0
  rw [hall] at hok hR
  have hRb : ∀ r ∈ R, r.1 < 2048 ∧ r.2 ≤ 2049 := fun r hr => by
    rw [← hR] at hr
    have := runsF_bd 2048 all [] 0 (fun x hx => by rw [← hall] at hx; have := allN_lt hx; omega) (fun r hr => by simp at hr) r hr
    omega
  have hfl := hok.flat
  have hfll : (flatR R).length ≤ 2048 := by rw [hfl]; exact hlen
  have hftl : ∀ i, (flatR (R.take i)).length ≤ 2048 := fun i => by
    have : flatR R = flatR (R.take i) ++ flatR (R.drop i) := by rw [← flatR_app, List.take_append_drop]
    rw [this, List.length_append] at hfll
    omega
  have hRl : R.length ≤ 2049 := by
    have := runsF_len all []
    rw [← hR]
    simp only [List.length_nil, Nat.zero_add] at this
    exact Nat.le_trans this (by omega)
  have hrall := v_rAll (kk := kk) (m := m) (by omega)
  have hruns := v_Runs (g := g) (m := m)
  have hgall := v_All (g := g) (m := m)
  have hcnt := v_Count (g := g) (m := m)
  rw [hall, hR] at hruns
  rw [hall] at hrall hgall hcnt
  refine v_enter hC [] (fun _ _ => kn_none rfl) Tryd.func15 rfl ok15 (Nat.le_of_ble_eq_true rfl) fun hcl hbl => ?_
  simp
  refine hrall.call ?_
  simp
  obtain ⟨a1, e1, x1, hv1, hi1, hc1⟩ := from_both m no true
  obtain ⟨a2, e2, x2, hv2, hi2, hc2⟩ := from_both m no false
  have hlow := v_Lowest (g := g) (m := m) (no := no)
  have hfre := v_Free (g := g) (m := m) (no := no)
  have hf1 := v_rFrom (kk := kk) (m := m) (no := no) (b := true) (by omega)
  have hf2 := v_rFrom (kk := kk) (m := m) (no := no) (b := false) (by omega)
  rw [hv1] at hlow
  rw [hv2] at hfre
  rw [hi1] at hf1
  rw [hi2] at hf2
  refine hlow.call hS ?_
  simp
  refine hfre.call hS ?_
  simp
  refine hf1.call ?_
  simp
  refine hf2.call ?_
  simp
  by_cases hn0 : 0 ≤ no
  · by_cases hn1 : no < m.length
    · obtain ⟨k, rfl⟩ : ∃ k : Nat, no = (k : Int) := ⟨no.toNat, by omega⟩
      have hkl : k < m.length := by omega
      have hh : hasM m k = m[k] := by unfold hasM mayM; rw [getD_lt hkl]; simp [hkl]
      have hn1' : ¬ (m.length : Int) - 1 < (k : Int) := by omega
      have hw : IntKind.i64.wrap ((m.length : Int) - 1) = (m.length : Int) - 1 := w64 (by omega)
      have hk0 : ¬ (k : Int) < 0 := by omega
      simp [hkl, hw, hn1', hk0, getB hkl]
      refine v_Size.call hS ?_
      simp
      refine hcnt.call hS ?_
      simp [is_len]
      refine hgall.call hS ?_
      simp
      refine (v_SameI (kk := true) (km := true) (l := is_ all) (m := is_ all) (by rw [is_len]; omega)).call ?_
      simp
      refine v_Has.call hS ?_
      simp [hh]
      refine v_Bytes.call hS ?_
      simp
      refine (v_rBytes6 (kk := kk) (m := m) (by omega)).call ?_
      simp
      refine (v_Same1 (kk := true) (km := true) (l := bytesM m) (m := bytesM m) (by rw [bytesM_len]; omega)).call ?_
      simp
      rcases hc1 with ⟨rfl, rfl⟩ | ⟨p1, rfl, rfl⟩
      · rcases hc2 with ⟨rfl, rfl⟩ | ⟨p2, rfl, rfl⟩
        · simp
          refine hruns.call hS ?_
          simp
          refine v_loopX hC (fun (i : Nat) e T => T = H ∧ e 7 = IS true (is_ all) ∧ e 15 = .fsl true 2 (R.map rc) ∧ e 16 = i6 (flatR (R.take i)).length ∧ e 17 = i6 i ∧ i ≤ R.length) (fun i => R.length - i) 0 (G.refl ?_) ?_
          · simp [flatR]
          · rintro i e T ⟨rfl, e7, e15, e16, e17, hi⟩
            simp [e15, e17]
            refine CondV.dec (fun hlt => ?_) (fun hge => ?_)
            · have hlt : i < R.length := by omega
              simp [e15, e17]
              refine v_draw (ord := [0, 1, 2, 3, 4, 5, 6, 7, 8, 9, 10, 11, 12, 13, 14, 15, 16, 17, 18, 19, 20, 21, 22, 23, 24, 25, 26, 27, 28, 29, 30]) (m := 28) (by decide +kernel) (by decide +kernel) ?_
              have hget : R[i]? = some R[i] := List.getElem?_eq_getElem hlt
              have hpos := hok.pos _ (List.getElem_mem hlt)
              have hn1 : ¬ ((R[i].2 : Nat) : Int) < 1 := by omega
              simp [e15, e17, hget, hn1]
              by_cases hi0 : 0 < i
              · have hp1 : i - 1 < R.length := by omega
                have hget1 : R[i - 1]? = some R[i - 1] := List.getElem?_eq_getElem hp1
                have hgap := List.pairwise_iff_getElem.1 hok.gap (i - 1) i hp1 hlt (by omega)
                have hb1 := hRb _ (List.getElem_mem hp1)
                have c1 : IntKind.i64.wrap ((i : Int) - 1) = (i : Int) - 1 := w64 (by omega)
                have c2 : (0 : Int) ≤ (i : Int) - 1 := by omega
                have c3 : ((i : Int) - 1).toNat = i - 1 := by omega
                have c4 : IntKind.i64.wrap ((R[i - 1].1 : Int) + (R[i - 1].2 : Int)) = (R[i - 1].1 : Int) + (R[i - 1].2 : Int) := w64 (by omega)
                have c5 : ¬ (R[i].1 : Int) ≤ (R[i - 1].1 : Int) + (R[i - 1].2 : Int) := by omega
                simp [hi0, e15, e17, hget, hget1, c1, c2, c3, c4, c5]
                refine ⟨by omega, ?_⟩
                refine v_loopX hC (fun (j : Nat) e U => U = T ∧ e 7 = IS true (is_ all) ∧ e 15 = .fsl true 2 (R.map rc) ∧ e 16 = i6 ((flatR (R.take i)).length + j : Nat) ∧ e 17 = i6 i ∧ e 18 = i6 j ∧ j ≤ R[i].2) (fun j => R[i].2 - j) 0 (G.refl ?_) ?_
                · simp [e7, e15, e16, e17]
                · rintro j e U ⟨rfl, e7, e15, e16, e17, e18, hj⟩
                  simp [e15, e17, e18, hget]
                  refine CondV.dec (fun hjl => ?_) (fun hjg => ?_)
                  · have hjl : j < R[i].2 := by omega
                    have hat := flat_at hlt hjl
                    rw [hok.flat] at hat
                    have hft := hftl i
                    have hfn := flat_take hlt
                    obtain ⟨z, hz⟩ : ∃ z, (flatR (R.take i)).length + j = z := ⟨_, rfl⟩
                    rw [hz] at hat e16
                    have hzl : z < all.length := get_lt hat
                    have hat2 : (is_ all)[z]'(by rw [is_len]; exact hzl) = ((R[i].1 + j : Nat) : Int) := by
                      have h1 : all[z] = R[i].1 + j := (List.getElem?_eq_some_iff.1 hat).2
                      simp [is_, h1]
                    have hbi := hRb _ (List.getElem_mem hlt)
                    have c6 : IntKind.i64.wrap ((R[i].1 : Int) + (j : Int)) = (R[i].1 : Int) + (j : Int) := w64 (by omega)
                    have c7 : ¬ (all.length : Int) ≤ (z : Int) := by omega
                    simp [e7, e15, e16, e17, e18]
                    refine v_draw (ord := [0, 1, 2, 3, 4, 5, 6, 7, 8, 9, 10, 11, 12, 13, 14, 15, 16, 17]) (m := 14) (by decide +kernel) (by decide +kernel) ?_
                    simp [e7, e15, e16, e17, e18, is_len, c6, c7, hat2, hget, hzl, w64 (n := (z : Int) + 1) (by omega), w64 (n := (j : Int) + 1) (by omega)]
                    exact GH.refl ⟨j + 1, ⟨rfl, by simp [e7], by simp [e15], by simp; omega, by simp [e17], by simp, by omega⟩, by omega⟩
                  · have hje : j = R[i].2 := by omega
                    have hfn := flat_take hlt
                    simp [e17, w64 (n := (i : Int) + 1) (by omega)]
                    exact GH.refl ⟨i + 1, ⟨rfl, by simp [e7], by simp [e15], by simp [e16]; omega, by simp, by omega⟩, by omega⟩
              · simp [hi0]
                refine v_loopX hC (fun (j : Nat) e U => U = T ∧ e 7 = IS true (is_ all) ∧ e 15 = .fsl true 2 (R.map rc) ∧ e 16 = i6 ((flatR (R.take i)).length + j : Nat) ∧ e 17 = i6 i ∧ e 18 = i6 j ∧ j ≤ R[i].2) (fun j => R[i].2 - j) 0 (G.refl ?_) ?_
                · simp [e7, e15, e16, e17]
                · rintro j e U ⟨rfl, e7, e15, e16, e17, e18, hj⟩
                  simp [e15, e17, e18, hget]
                  refine CondV.dec (fun hjl => ?_) (fun hjg => ?_)
                  · have hjl : j < R[i].2 := by omega
                    have hat := flat_at hlt hjl
                    rw [hok.flat] at hat
                    have hft := hftl i
                    have hfn := flat_take hlt
                    obtain ⟨z, hz⟩ : ∃ z, (flatR (R.take i)).length + j = z := ⟨_, rfl⟩
                    rw [hz] at hat e16
                    have hzl : z < all.length := get_lt hat
                    have hat2 : (is_ all)[z]'(by rw [is_len]; exact hzl) = ((R[i].1 + j : Nat) : Int) := by
                      have h1 : all[z] = R[i].1 + j := (List.getElem?_eq_some_iff.1 hat).2
                      simp [is_, h1]
                    have hbi := hRb _ (List.getElem_mem hlt)
                    have c6 : IntKind.i64.wrap ((R[i].1 : Int) + (j : Int)) = (R[i].1 : Int) + (j : Int) := w64 (by omega)
                    have c7 : ¬ (all.length : Int) ≤ (z : Int) := by omega
                    simp [e7, e15, e16, e17, e18]
                    refine v_draw (ord := [0, 1, 2, 3, 4, 5, 6, 7, 8, 9, 10, 11, 12, 13, 14, 15, 16, 17]) (m := 14) (by decide +kernel) (by decide +kernel) ?_
                    simp [e7, e15, e16, e17, e18, is_len, c6, c7, hat2, hget, hzl, w64 (n := (z : Int) + 1) (by omega), w64 (n := (j : Int) + 1) (by omega)]
                    exact GH.refl ⟨j + 1, ⟨rfl, by simp [e7], by simp [e15], by simp; omega, by simp [e17], by simp, by omega⟩, by omega⟩
                  · have hje : j = R[i].2 := by omega
                    have hfn := flat_take hlt
                    simp [e17, w64 (n := (i : Int) + 1) (by omega)]
                    exact GH.refl ⟨i + 1, ⟨rfl, by simp [e7], by simp [e15], by simp [e16]; omega, by simp, by omega⟩, by omega⟩
            · have hie : i = R.length := by omega
              subst hie
              have := hok.flat
              simp [e7, e16, this, is_len, Tryd.results15]
              exact GV.refl ⟨rfl, rfl⟩
        · have p2' : ¬ a2 < 0 := by omega
          simp [p2, p2']
          refine hruns.call hS ?_
          simp
          refine v_loopX hC (fun (i : Nat) e T => T = H ∧ e 7 = IS true (is_ all) ∧ e 15 = .fsl true 2 (R.map rc) ∧ e 16 = i6 (flatR (R.take i)).length ∧ e 17 = i6 i ∧ i ≤ R.length) (fun i => R.length - i) 0 (G.refl ?_) ?_
          · simp [flatR]
          · rintro i e T ⟨rfl, e7, e15, e16, e17, hi⟩
            simp [e15, e17]
            refine CondV.dec (fun hlt => ?_) (fun hge => ?_)
            · have hlt : i < R.length := by omega
              simp [e15, e17]
              refine v_draw (ord := [0, 1, 2, 3, 4, 5, 6, 7, 8, 9, 10, 11, 12, 13, 14, 15, 16, 17, 18, 19, 20, 21, 22, 23, 24, 25, 26, 27, 28, 29, 30]) (m := 28) (by decide +kernel) (by decide +kernel) ?_
              have hget : R[i]? = some R[i] := List.getElem?_eq_getElem hlt
              have hpos := hok.pos _ (List.getElem_mem hlt)
              have hn1 : ¬ ((R[i].2 : Nat) : Int) < 1 := by omega
              simp [e15, e17, hget, hn1]
              by_cases hi0 : 0 < i
              · have hp1 : i - 1 < R.length := by omega
                have hget1 : R[i - 1]? = some R[i - 1] := List.getElem?_eq_getElem hp1
                have hgap := List.pairwise_iff_getElem.1 hok.gap (i - 1) i hp1 hlt (by omega)
                have hb1 := hRb _ (List.getElem_mem hp1)
                have c1 : IntKind.i64.wrap ((i : Int) - 1) = (i : Int) - 1 := w64 (by omega)
                have c2 : (0 : Int) ≤ (i : Int) - 1 := by omega
                have c3 : ((i : Int) - 1).toNat = i - 1 := by omega
                have c4 : IntKind.i64.wrap ((R[i - 1].1 : Int) + (R[i - 1].2 : Int)) = (R[i - 1].1 : Int) + (R[i - 1].2 : Int) := w64 (by omega)
                have c5 : ¬ (R[i].1 : Int) ≤ (R[i - 1].1 : Int) + (R[i - 1].2 : Int) := by omega
                simp [hi0, e15, e17, hget, hget1, c1, c2, c3, c4, c5]
                refine ⟨by omega, ?_⟩
                refine v_loopX hC (fun (j : Nat) e U => U = T ∧ e 7 = IS true (is_ all) ∧ e 15 = .fsl true 2 (R.map rc) ∧ e 16 = i6 ((flatR (R.take i)).length + j : Nat) ∧ e 17 = i6 i ∧ e 18 = i6 j ∧ j ≤ R[i].2) (fun j => R[i].2 - j) 0 (G.refl ?_) ?_
                · simp [e7, e15, e16, e17]
                · rintro j e U ⟨rfl, e7, e15, e16, e17, e18, hj⟩
                  simp [e15, e17, e18, hget]
                  refine CondV.dec (fun hjl => ?_) (fun hjg => ?_)
                  · have hjl : j < R[i].2 := by omega
                    have hat := flat_at hlt hjl
                    rw [hok.flat] at hat
                    have hft := hftl i
                    have hfn := flat_take hlt
                    obtain ⟨z, hz⟩ : ∃ z, (flatR (R.take i)).length + j = z := ⟨_, rfl⟩
                    rw [hz] at hat e16
                    have hzl : z < all.length := get_lt hat
                    have hat2 : (is_ all)[z]'(by rw [is_len]; exact hzl) = ((R[i].1 + j : Nat) : Int) := by
                      have h1 : all[z] = R[i].1 + j := (List.getElem?_eq_some_iff.1 hat).2
                      simp [is_, h1]
                    have hbi := hRb _ (List.getElem_mem hlt)
                    have c6 : IntKind.i64.wrap ((R[i].1 : Int) + (j : Int)) = (R[i].1 : Int) + (j : Int) := w64 (by omega)
                    have c7 : ¬ (all.length : Int) ≤ (z : Int) := by omega
                    simp [e7, e15, e16, e17, e18]
                    refine v_draw (ord := [0, 1, 2, 3, 4, 5, 6, 7, 8, 9, 10, 11, 12, 13, 14, 15, 16, 17]) (m := 14) (by decide +kernel) (by decide +kernel) ?_
                    simp [e7, e15, e16, e17, e18, is_len, c6, c7, hat2, hget, hzl, w64 (n := (z : Int) + 1) (by omega), w64 (n := (j : Int) + 1) (by omega)]
                    exact GH.refl ⟨j + 1, ⟨rfl, by simp [e7], by simp [e15], by simp; omega, by simp [e17], by simp, by omega⟩, by omega⟩
                  · have hje : j = R[i].2 := by omega
                    have hfn := flat_take hlt
                    simp [e17, w64 (n := (i : Int) + 1) (by omega)]
                    exact GH.refl ⟨i + 1, ⟨rfl, by simp [e7], by simp [e15], by simp [e16]; omega, by simp, by omega⟩, by omega⟩
              · simp [hi0]
                refine v_loopX hC (fun (j : Nat) e U => U = T ∧ e 7 = IS true (is_ all) ∧ e 15 = .fsl true 2 (R.map rc) ∧ e 16 = i6 ((flatR (R.take i)).length + j : Nat) ∧ e 17 = i6 i ∧ e 18 = i6 j ∧ j ≤ R[i].2) (fun j => R[i].2 - j) 0 (G.refl ?_) ?_
                · simp [e7, e15, e16, e17]
                · rintro j e U ⟨rfl, e7, e15, e16, e17, e18, hj⟩
                  simp [e15, e17, e18, hget]
                  refine CondV.dec (fun hjl => ?_) (fun hjg => ?_)
                  · have hjl : j < R[i].2 := by omega
                    have hat := flat_at hlt hjl
                    rw [hok.flat] at hat
                    have hft := hftl i
                    have hfn := flat_take hlt
                    obtain ⟨z, hz⟩ : ∃ z, (flatR (R.take i)).length + j = z := ⟨_, rfl⟩
                    rw [hz] at hat e16
                    have hzl : z < all.length := get_lt hat
                    have hat2 : (is_ all)[z]'(by rw [is_len]; exact hzl) = ((R[i].1 + j : Nat) : Int) := by
                      have h1 : all[z] = R[i].1 + j := (List.getElem?_eq_some_iff.1 hat).2
                      simp [is_, h1]
                    have hbi := hRb _ (List.getElem_mem hlt)
                    have c6 : IntKind.i64.wrap ((R[i].1 : Int) + (j : Int)) = (R[i].1 : Int) + (j : Int) := w64 (by omega)
                    have c7 : ¬ (all.length : Int) ≤ (z : Int) := by omega
                    simp [e7, e15, e16, e17, e18]
                    refine v_draw (ord := [0, 1, 2, 3, 4, 5, 6, 7, 8, 9, 10, 11, 12, 13, 14, 15, 16, 17]) (m := 14) (by decide +kernel) (by decide +kernel) ?_
                    simp [e7, e15, e16, e17, e18, is_len, c6, c7, hat2, hget, hzl, w64 (n := (z : Int) + 1) (by omega), w64 (n := (j : Int) + 1) (by omega)]
                    exact GH.refl ⟨j + 1, ⟨rfl, by simp [e7], by simp [e15], by simp; omega, by simp [e17], by simp, by omega⟩, by omega⟩
                  · have hje : j = R[i].2 := by omega
                    have hfn := flat_take hlt
                    simp [e17, w64 (n := (i : Int) + 1) (by omega)]
                    exact GH.refl ⟨i + 1, ⟨rfl, by simp [e7], by simp [e15], by simp [e16]; omega, by simp, by omega⟩, by omega⟩
            · have hie : i = R.length := by omega
              subst hie
              have := hok.flat
              simp [e7, e16, this, is_len, Tryd.results15]
              exact GV.refl ⟨rfl, rfl⟩
      · have p1' : ¬ a1 < 0 := by omega
        rcases hc2 with ⟨rfl, rfl⟩ | ⟨p2, rfl, rfl⟩
        · simp [p1, p1']
          refine hruns.call hS ?_
          simp
          refine v_loopX hC (fun (i : Nat) e T => T = H ∧ e 7 = IS true (is_ all) ∧ e 15 = .fsl true 2 (R.map rc) ∧ e 16 = i6 (flatR (R.take i)).length ∧ e 17 = i6 i ∧ i ≤ R.length) (fun i => R.length - i) 0 (G.refl ?_) ?_
          · simp [flatR]
          · rintro i e T ⟨rfl, e7, e15, e16, e17, hi⟩
            simp [e15, e17]
            refine CondV.dec (fun hlt => ?_) (fun hge => ?_)
            · have hlt : i < R.length := by omega
              simp [e15, e17]
              refine v_draw (ord := [0, 1, 2, 3, 4, 5, 6, 7, 8, 9, 10, 11, 12, 13, 14, 15, 16, 17, 18, 19, 20, 21, 22, 23, 24, 25, 26, 27, 28, 29, 30]) (m := 28) (by decide +kernel) (by decide +kernel) ?_
              have hget : R[i]? = some R[i] := List.getElem?_eq_getElem hlt
              have hpos := hok.pos _ (List.getElem_mem hlt)
              have hn1 : ¬ ((R[i].2 : Nat) : Int) < 1 := by omega
              simp [e15, e17, hget, hn1]
              by_cases hi0 : 0 < i
              · have hp1 : i - 1 < R.length := by omega
                have hget1 : R[i - 1]? = some R[i - 1] := List.getElem?_eq_getElem hp1
                have hgap := List.pairwise_iff_getElem.1 hok.gap (i - 1) i hp1 hlt (by omega)
                have hb1 := hRb _ (List.getElem_mem hp1)
                have c1 : IntKind.i64.wrap ((i : Int) - 1) = (i : Int) - 1 := w64 (by omega)
                have c2 : (0 : Int) ≤ (i : Int) - 1 := by omega
                have c3 : ((i : Int) - 1).toNat = i - 1 := by omega
                have c4 : IntKind.i64.wrap ((R[i - 1].1 : Int) + (R[i - 1].2 : Int)) = (R[i - 1].1 : Int) + (R[i - 1].2 : Int) := w64 (by omega)
                have c5 : ¬ (R[i].1 : Int) ≤ (R[i - 1].1 : Int) + (R[i - 1].2 : Int) := by omega
                simp [hi0, e15, e17, hget, hget1, c1, c2, c3, c4, c5]
                refine ⟨by omega, ?_⟩
                refine v_loopX hC (fun (j : Nat) e U => U = T ∧ e 7 = IS true (is_ all) ∧ e 15 = .fsl true 2 (R.map rc) ∧ e 16 = i6 ((flatR (R.take i)).length + j : Nat) ∧ e 17 = i6 i ∧ e 18 = i6 j ∧ j ≤ R[i].2) (fun j => R[i].2 - j) 0 (G.refl ?_) ?_
                · simp [e7, e15, e16, e17]
                · rintro j e U ⟨rfl, e7, e15, e16, e17, e18, hj⟩
                  simp [e15, e17, e18, hget]
                  refine CondV.dec (fun hjl => ?_) (fun hjg => ?_)
                  · have hjl : j < R[i].2 := by omega
                    have hat := flat_at hlt hjl
                    rw [hok.flat] at hat
                    have hft := hftl i
                    have hfn := flat_take hlt
                    obtain ⟨z, hz⟩ : ∃ z, (flatR (R.take i)).length + j = z := ⟨_, rfl⟩
                    rw [hz] at hat e16
                    have hzl : z < all.length := get_lt hat
                    have hat2 : (is_ all)[z]'(by rw [is_len]; exact hzl) = ((R[i].1 + j : Nat) : Int) := by
                      have h1 : all[z] = R[i].1 + j := (List.getElem?_eq_some_iff.1 hat).2
                      simp [is_, h1]
                    have hbi := hRb _ (List.getElem_mem hlt)
                    have c6 : IntKind.i64.wrap ((R[i].1 : Int) + (j : Int)) = (R[i].1 : Int) + (j : Int) := w64 (by omega)
                    have c7 : ¬ (all.length : Int) ≤ (z : Int) := by omega
                    simp [e7, e15, e16, e17, e18]
                    refine v_draw (ord := [0, 1, 2, 3, 4, 5, 6, 7, 8, 9, 10, 11, 12, 13, 14, 15, 16, 17]) (m := 14) (by decide +kernel) (by decide +kernel) ?_
                    simp [e7, e15, e16, e17, e18, is_len, c6, c7, hat2, hget, hzl, w64 (n := (z : Int) + 1) (by omega), w64 (n := (j : Int) + 1) (by omega)]
                    exact GH.refl ⟨j + 1, ⟨rfl, by simp [e7], by simp [e15], by simp; omega, by simp [e17], by simp, by omega⟩, by omega⟩
                  · have hje : j = R[i].2 := by omega
                    have hfn := flat_take hlt
                    simp [e17, w64 (n := (i : Int) + 1) (by omega)]
                    exact GH.refl ⟨i + 1, ⟨rfl, by simp [e7], by simp [e15], by simp [e16]; omega, by simp, by omega⟩, by omega⟩
              · simp [hi0]
                refine v_loopX hC (fun (j : Nat) e U => U = T ∧ e 7 = IS true (is_ all) ∧ e 15 = .fsl true 2 (R.map rc) ∧ e 16 = i6 ((flatR (R.take i)).length + j : Nat) ∧ e 17 = i6 i ∧ e 18 = i6 j ∧ j ≤ R[i].2) (fun j => R[i].2 - j) 0 (G.refl ?_) ?_
                · simp [e7, e15, e16, e17]
                · rintro j e U ⟨rfl, e7, e15, e16, e17, e18, hj⟩
                  simp [e15, e17, e18, hget]
                  refine CondV.dec (fun hjl => ?_) (fun hjg => ?_)
                  · have hjl : j < R[i].2 := by omega
                    have hat := flat_at hlt hjl
                    rw [hok.flat] at hat
                    have hft := hftl i
                    have hfn := flat_take hlt
                    obtain ⟨z, hz⟩ : ∃ z, (flatR (R.take i)).length + j = z := ⟨_, rfl⟩
                    rw [hz] at hat e16
                    have hzl : z < all.length := get_lt hat
                    have hat2 : (is_ all)[z]'(by rw [is_len]; exact hzl) = ((R[i].1 + j : Nat) : Int) := by
                      have h1 : all[z] = R[i].1 + j := (List.getElem?_eq_some_iff.1 hat).2
                      simp [is_, h1]
                    have hbi := hRb _ (List.getElem_mem hlt)
                    have c6 : IntKind.i64.wrap ((R[i].1 : Int) + (j : Int)) = (R[i].1 : Int) + (j : Int) := w64 (by omega)
                    have c7 : ¬ (all.length : Int) ≤ (z : Int) := by omega
                    simp [e7, e15, e16, e17, e18]
                    refine v_draw (ord := [0, 1, 2, 3, 4, 5, 6, 7, 8, 9, 10, 11, 12, 13, 14, 15, 16, 17]) (m := 14) (by decide +kernel) (by decide +kernel) ?_
                    simp [e7, e15, e16, e17, e18, is_len, c6, c7, hat2, hget, hzl, w64 (n := (z : Int) + 1) (by omega), w64 (n := (j : Int) + 1) (by omega)]
                    exact GH.refl ⟨j + 1, ⟨rfl, by simp [e7], by simp [e15], by simp; omega, by simp [e17], by simp, by omega⟩, by omega⟩
                  · have hje : j = R[i].2 := by omega
                    have hfn := flat_take hlt
                    simp [e17, w64 (n := (i : Int) + 1) (by omega)]
                    exact GH.refl ⟨i + 1, ⟨rfl, by simp [e7], by simp [e15], by simp [e16]; omega, by simp, by omega⟩, by omega⟩
            · have hie : i = R.length := by omega
              subst hie
              have := hok.flat
              simp [e7, e16, this, is_len, Tryd.results15]
              exact GV.refl ⟨rfl, rfl⟩
        · have p2' : ¬ a2 < 0 := by omega
          simp [p1, p1', p2, p2']
          refine hruns.call hS ?_
          simp
          refine v_loopX hC (fun (i : Nat) e T => T = H ∧ e 7 = IS true (is_ all) ∧ e 15 = .fsl true 2 (R.map rc) ∧ e 16 = i6 (flatR (R.take i)).length ∧ e 17 = i6 i ∧ i ≤ R.length) (fun i => R.length - i) 0 (G.refl ?_) ?_
          · simp [flatR]
          · rintro i e T ⟨rfl, e7, e15, e16, e17, hi⟩
            simp [e15, e17]
            refine CondV.dec (fun hlt => ?_) (fun hge => ?_)
            · have hlt : i < R.length := by omega
              simp [e15, e17]
              refine v_draw (ord := [0, 1, 2, 3, 4, 5, 6, 7, 8, 9, 10, 11, 12, 13, 14, 15, 16, 17, 18, 19, 20, 21, 22, 23, 24, 25, 26, 27, 28, 29, 30]) (m := 28) (by decide +kernel) (by decide +kernel) ?_
              have hget : R[i]? = some R[i] := List.getElem?_eq_getElem hlt
              have hpos := hok.pos _ (List.getElem_mem hlt)
              have hn1 : ¬ ((R[i].2 : Nat) : Int) < 1 := by omega
              simp [e15, e17, hget, hn1]
              by_cases hi0 : 0 < i
              · have hp1 : i - 1 < R.length := by omega
                have hget1 : R[i - 1]? = some R[i - 1] := List.getElem?_eq_getElem hp1
                have hgap := List.pairwise_iff_getElem.1 hok.gap (i - 1) i hp1 hlt (by omega)
                have hb1 := hRb _ (List.getElem_mem hp1)
                have c1 : IntKind.i64.wrap ((i : Int) - 1) = (i : Int) - 1 := w64 (by omega)
                have c2 : (0 : Int) ≤ (i : Int) - 1 := by omega
                have c3 : ((i : Int) - 1).toNat = i - 1 := by omega
                have c4 : IntKind.i64.wrap ((R[i - 1].1 : Int) + (R[i - 1].2 : Int)) = (R[i - 1].1 : Int) + (R[i - 1].2 : Int) := w64 (by omega)
                have c5 : ¬ (R[i].1 : Int) ≤ (R[i - 1].1 : Int) + (R[i - 1].2 : Int) := by omega
                simp [hi0, e15, e17, hget, hget1, c1, c2, c3, c4, c5]
                refine ⟨by omega, ?_⟩
                refine v_loopX hC (fun (j : Nat) e U => U = T ∧ e 7 = IS true (is_ all) ∧ e 15 = .fsl true 2 (R.map rc) ∧ e 16 = i6 ((flatR (R.take i)).length + j : Nat) ∧ e 17 = i6 i ∧ e 18 = i6 j ∧ j ≤ R[i].2) (fun j => R[i].2 - j) 0 (G.refl ?_) ?_
                · simp [e7, e15, e16, e17]
                · rintro j e U ⟨rfl, e7, e15, e16, e17, e18, hj⟩
                  simp [e15, e17, e18, hget]
                  refine CondV.dec (fun hjl => ?_) (fun hjg => ?_)
                  · have hjl : j < R[i].2 := by omega
                    have hat := flat_at hlt hjl
                    rw [hok.flat] at hat
                    have hft := hftl i
                    have hfn := flat_take hlt
                    obtain ⟨z, hz⟩ : ∃ z, (flatR (R.take i)).length + j = z := ⟨_, rfl⟩
                    rw [hz] at hat e16
                    have hzl : z < all.length := get_lt hat
                    have hat2 : (is_ all)[z]'(by rw [is_len]; exact hzl) = ((R[i].1 + j : Nat) : Int) := by
                      have h1 : all[z] = R[i].1 + j := (List.getElem?_eq_some_iff.1 hat).2
                      simp [is_, h1]
                    have hbi := hRb _ (List.getElem_mem hlt)
                    have c6 : IntKind.i64.wrap ((R[i].1 : Int) + (j : Int)) = (R[i].1 : Int) + (j : Int) := w64 (by omega)
                    have c7 : ¬ (all.length : Int) ≤ (z : Int) := by omega
                    simp [e7, e15, e16, e17, e18]
                    refine v_draw (ord := [0, 1, 2, 3, 4, 5, 6, 7, 8, 9, 10, 11, 12, 13, 14, 15, 16, 17]) (m := 14) (by decide +kernel) (by decide +kernel) ?_
                    simp [e7, e15, e16, e17, e18, is_len, c6, c7, hat2, hget, hzl, w64 (n := (z : Int) + 1) (by omega), w64 (n := (j : Int) + 1) (by omega)]
                    exact GH.refl ⟨j + 1, ⟨rfl, by simp [e7], by simp [e15], by simp; omega, by simp [e17], by simp, by omega⟩, by omega⟩
                  · have hje : j = R[i].2 := by omega
                    have hfn := flat_take hlt
                    simp [e17, w64 (n := (i : Int) + 1) (by omega)]
                    exact GH.refl ⟨i + 1, ⟨rfl, by simp [e7], by simp [e15], by simp [e16]; omega, by simp, by omega⟩, by omega⟩
              · simp [hi0]
                refine v_loopX hC (fun (j : Nat) e U => U = T ∧ e 7 = IS true (is_ all) ∧ e 15 = .fsl true 2 (R.map rc) ∧ e 16 = i6 ((flatR (R.take i)).length + j : Nat) ∧ e 17 = i6 i ∧ e 18 = i6 j ∧ j ≤ R[i].2) (fun j => R[i].2 - j) 0 (G.refl ?_) ?_
                · simp [e7, e15, e16, e17]
                · rintro j e U ⟨rfl, e7, e15, e16, e17, e18, hj⟩
                  simp [e15, e17, e18, hget]
                  refine CondV.dec (fun hjl => ?_) (fun hjg => ?_)
                  · have hjl : j < R[i].2 := by omega
                    have hat := flat_at hlt hjl
                    rw [hok.flat] at hat
                    have hft := hftl i
                    have hfn := flat_take hlt
                    obtain ⟨z, hz⟩ : ∃ z, (flatR (R.take i)).length + j = z := ⟨_, rfl⟩
                    rw [hz] at hat e16
                    have hzl : z < all.length := get_lt hat
                    have hat2 : (is_ all)[z]'(by rw [is_len]; exact hzl) = ((R[i].1 + j : Nat) : Int) := by
                      have h1 : all[z] = R[i].1 + j := (List.getElem?_eq_some_iff.1 hat).2
                      simp [is_, h1]
                    have hbi := hRb _ (List.getElem_mem hlt)
                    have c6 : IntKind.i64.wrap ((R[i].1 : Int) + (j : Int)) = (R[i].1 : Int) + (j : Int) := w64 (by omega)
                    have c7 : ¬ (all.length : Int) ≤ (z : Int) := by omega
                    simp [e7, e15, e16, e17, e18]
                    refine v_draw (ord := [0, 1, 2, 3, 4, 5, 6, 7, 8, 9, 10, 11, 12, 13, 14, 15, 16, 17]) (m := 14) (by decide +kernel) (by decide +kernel) ?_
                    simp [e7, e15, e16, e17, e18, is_len, c6, c7, hat2, hget, hzl, w64 (n := (z : Int) + 1) (by omega), w64 (n := (j : Int) + 1) (by omega)]
                    exact GH.refl ⟨j + 1, ⟨rfl, by simp [e7], by simp [e15], by simp; omega, by simp [e17], by simp, by omega⟩, by omega⟩
                  · have hje : j = R[i].2 := by omega
                    have hfn := flat_take hlt
                    simp [e17, w64 (n := (i : Int) + 1) (by omega)]
                    exact GH.refl ⟨i + 1, ⟨rfl, by simp [e7], by simp [e15], by simp [e16]; omega, by simp, by omega⟩, by omega⟩
            · have hie : i = R.length := by omega
              subst hie
              have := hok.flat
              simp [e7, e16, this, is_len, Tryd.results15]
              exact GV.refl ⟨rfl, rfl⟩
    · have hh : hasM m no = false := by unfold hasM mayM; simp <;> omega
      simp [hn0, hn1]
      refine v_Size.call hS ?_
      simp
      refine hcnt.call hS ?_
      simp [is_len]
      refine hgall.call hS ?_
      simp
      refine (v_SameI (kk := true) (km := true) (l := is_ all) (m := is_ all) (by rw [is_len]; omega)).call ?_
      simp
      refine v_Has.call hS ?_
      simp [hh]
      refine v_Bytes.call hS ?_
      simp
      refine (v_rBytes6 (kk := kk) (m := m) (by omega)).call ?_
      simp
      refine (v_Same1 (kk := true) (km := true) (l := bytesM m) (m := bytesM m) (by rw [bytesM_len]; omega)).call ?_
      simp
      rcases hc1 with ⟨rfl, rfl⟩ | ⟨p1, rfl, rfl⟩
      · rcases hc2 with ⟨rfl, rfl⟩ | ⟨p2, rfl, rfl⟩
        · simp
          refine hruns.call hS ?_
          simp
          refine v_loopX hC (fun (i : Nat) e T => T = H ∧ e 7 = IS true (is_ all) ∧ e 15 = .fsl true 2 (R.map rc) ∧ e 16 = i6 (flatR (R.take i)).length ∧ e 17 = i6 i ∧ i ≤ R.length) (fun i => R.length - i) 0 (G.refl ?_) ?_
          · simp [flatR]
          · rintro i e T ⟨rfl, e7, e15, e16, e17, hi⟩
            simp [e15, e17]
            refine CondV.dec (fun hlt => ?_) (fun hge => ?_)
            · have hlt : i < R.length := by omega
              simp [e15, e17]
              refine v_draw (ord := [0, 1, 2, 3, 4, 5, 6, 7, 8, 9, 10, 11, 12, 13, 14, 15, 16, 17, 18, 19, 20, 21, 22, 23, 24, 25, 26, 27, 28, 29, 30]) (m := 28) (by decide +kernel) (by decide +kernel) ?_
              have hget : R[i]? = some R[i] := List.getElem?_eq_getElem hlt
              have hpos := hok.pos _ (List.getElem_mem hlt)
              have hn1 : ¬ ((R[i].2 : Nat) : Int) < 1 := by omega
              simp [e15, e17, hget, hn1]
              by_cases hi0 : 0 < i
              · have hp1 : i - 1 < R.length := by omega
                have hget1 : R[i - 1]? = some R[i - 1] := List.getElem?_eq_getElem hp1
                have hgap := List.pairwise_iff_getElem.1 hok.gap (i - 1) i hp1 hlt (by omega)
                have hb1 := hRb _ (List.getElem_mem hp1)
                have c1 : IntKind.i64.wrap ((i : Int) - 1) = (i : Int) - 1 := w64 (by omega)
                have c2 : (0 : Int) ≤ (i : Int) - 1 := by omega
                have c3 : ((i : Int) - 1).toNat = i - 1 := by omega
                have c4 : IntKind.i64.wrap ((R[i - 1].1 : Int) + (R[i - 1].2 : Int)) = (R[i - 1].1 : Int) + (R[i - 1].2 : Int) := w64 (by omega)
                have c5 : ¬ (R[i].1 : Int) ≤ (R[i - 1].1 : Int) + (R[i - 1].2 : Int) := by omega
                simp [hi0, e15, e17, hget, hget1, c1, c2, c3, c4, c5]
                refine ⟨by omega, ?_⟩
                refine v_loopX hC (fun (j : Nat) e U => U = T ∧ e 7 = IS true (is_ all) ∧ e 15 = .fsl true 2 (R.map rc) ∧ e 16 = i6 ((flatR (R.take i)).length + j : Nat) ∧ e 17 = i6 i ∧ e 18 = i6 j ∧ j ≤ R[i].2) (fun j => R[i].2 - j) 0 (G.refl ?_) ?_
                · simp [e7, e15, e16, e17]
                · rintro j e U ⟨rfl, e7, e15, e16, e17, e18, hj⟩
                  simp [e15, e17, e18, hget]
                  refine CondV.dec (fun hjl => ?_) (fun hjg => ?_)
                  · have hjl : j < R[i].2 := by omega
                    have hat := flat_at hlt hjl
                    rw [hok.flat] at hat
                    have hft := hftl i
                    have hfn := flat_take hlt
                    obtain ⟨z, hz⟩ : ∃ z, (flatR (R.take i)).length + j = z := ⟨_, rfl⟩
                    rw [hz] at hat e16
                    have hzl : z < all.length := get_lt hat
                    have hat2 : (is_ all)[z]'(by rw [is_len]; exact hzl) = ((R[i].1 + j : Nat) : Int) := by
                      have h1 : all[z] = R[i].1 + j := (List.getElem?_eq_some_iff.1 hat).2
                      simp [is_, h1]
                    have hbi := hRb _ (List.getElem_mem hlt)
                    have c6 : IntKind.i64.wrap ((R[i].1 : Int) + (j : Int)) = (R[i].1 : Int) + (j : Int) := w64 (by omega)
                    have c7 : ¬ (all.length : Int) ≤ (z : Int) := by omega
                    simp [e7, e15, e16, e17, e18]
                    refine v_draw (ord := [0, 1, 2, 3, 4, 5, 6, 7, 8, 9, 10, 11, 12, 13, 14, 15, 16, 17]) (m := 14) (by decide +kernel) (by decide +kernel) ?_
                    simp [e7, e15, e16, e17, e18, is_len, c6, c7, hat2, hget, hzl, w64 (n := (z : Int) + 1) (by omega), w64 (n := (j : Int) + 1) (by omega)]
                    exact GH.refl ⟨j + 1, ⟨rfl, by simp [e7], by simp [e15], by simp; omega, by simp [e17], by simp, by omega⟩, by omega⟩
                  · have hje : j = R[i].2 := by omega
                    have hfn := flat_take hlt
                    simp [e17, w64 (n := (i : Int) + 1) (by omega)]
                    exact GH.refl ⟨i + 1, ⟨rfl, by simp [e7], by simp [e15], by simp [e16]; omega, by simp, by omega⟩, by omega⟩
              · simp [hi0]
                refine v_loopX hC (fun (j : Nat) e U => U = T ∧ e 7 = IS true (is_ all) ∧ e 15 = .fsl true 2 (R.map rc) ∧ e 16 = i6 ((flatR (R.take i)).length + j : Nat) ∧ e 17 = i6 i ∧ e 18 = i6 j ∧ j ≤ R[i].2) (fun j => R[i].2 - j) 0 (G.refl ?_) ?_
                · simp [e7, e15, e16, e17]
                · rintro j e U ⟨rfl, e7, e15, e16, e17, e18, hj⟩
                  simp [e15, e17, e18, hget]
                  refine CondV.dec (fun hjl => ?_) (fun hjg => ?_)
                  · have hjl : j < R[i].2 := by omega
                    have hat := flat_at hlt hjl
                    rw [hok.flat] at hat
                    have hft := hftl i
                    have hfn := flat_take hlt
                    obtain ⟨z, hz⟩ : ∃ z, (flatR (R.take i)).length + j = z := ⟨_, rfl⟩
                    rw [hz] at hat e16
                    have hzl : z < all.length := get_lt hat
                    have hat2 : (is_ all)[z]'(by rw [is_len]; exact hzl) = ((R[i].1 + j : Nat) : Int) := by
                      have h1 : all[z] = R[i].1 + j := (List.getElem?_eq_some_iff.1 hat).2
                      simp [is_, h1]
                    have hbi := hRb _ (List.getElem_mem hlt)
                    have c6 : IntKind.i64.wrap ((R[i].1 : Int) + (j : Int)) = (R[i].1 : Int) + (j : Int) := w64 (by omega)
                    have c7 : ¬ (all.length : Int) ≤ (z : Int) := by omega
                    simp [e7, e15, e16, e17, e18]
                    refine v_draw (ord := [0, 1, 2, 3, 4, 5, 6, 7, 8, 9, 10, 11, 12, 13, 14, 15, 16, 17]) (m := 14) (by decide +kernel) (by decide +kernel) ?_
                    simp [e7, e15, e16, e17, e18, is_len, c6, c7, hat2, hget, hzl, w64 (n := (z : Int) + 1) (by omega), w64 (n := (j : Int) + 1) (by omega)]
                    exact GH.refl ⟨j + 1, ⟨rfl, by simp [e7], by simp [e15], by simp; omega, by simp [e17], by simp, by omega⟩, by omega⟩
                  · have hje : j = R[i].2 := by omega
                    have hfn := flat_take hlt
                    simp [e17, w64 (n := (i : Int) + 1) (by omega)]
                    exact GH.refl ⟨i + 1, ⟨rfl, by simp [e7], by simp [e15], by simp [e16]; omega, by simp, by omega⟩, by omega⟩
            · have hie : i = R.length := by omega
              subst hie
              have := hok.flat
              simp [e7, e16, this, is_len, Tryd.results15]
              exact GV.refl ⟨rfl, rfl⟩
        · have p2' : ¬ a2 < 0 := by omega
          simp [p2, p2']
          refine hruns.call hS ?_
          simp
          refine v_loopX hC (fun (i : Nat) e T => T = H ∧ e 7 = IS true (is_ all) ∧ e 15 = .fsl true 2 (R.map rc) ∧ e 16 = i6 (flatR (R.take i)).length ∧ e 17 = i6 i ∧ i ≤ R.length) (fun i => R.length - i) 0 (G.refl ?_) ?_
          · simp [flatR]
          · rintro i e T ⟨rfl, e7, e15, e16, e17, hi⟩
            simp [e15, e17]
            refine CondV.dec (fun hlt => ?_) (fun hge => ?_)
            · have hlt : i < R.length := by omega
              simp [e15, e17]
              refine v_draw (ord := [0, 1, 2, 3, 4, 5, 6, 7, 8, 9, 10, 11, 12, 13, 14, 15, 16, 17, 18, 19, 20, 21, 22, 23, 24, 25, 26, 27, 28, 29, 30]) (m := 28) (by decide +kernel) (by decide +kernel) ?_
              have hget : R[i]? = some R[i] := List.getElem?_eq_getElem hlt
              have hpos := hok.pos _ (List.getElem_mem hlt)
              have hn1 : ¬ ((R[i].2 : Nat) : Int) < 1 := by omega
              simp [e15, e17, hget, hn1]
              by_cases hi0 : 0 < i
              · have hp1 : i - 1 < R.length := by omega
                have hget1 : R[i - 1]? = some R[i - 1] := List.getElem?_eq_getElem hp1
                have hgap := List.pairwise_iff_getElem.1 hok.gap (i - 1) i hp1 hlt (by omega)
                have hb1 := hRb _ (List.getElem_mem hp1)
                have c1 : IntKind.i64.wrap ((i : Int) - 1) = (i : Int) - 1 := w64 (by omega)
                have c2 : (0 : Int) ≤ (i : Int) - 1 := by omega
                have c3 : ((i : Int) - 1).toNat = i - 1 := by omega
                have c4 : IntKind.i64.wrap ((R[i - 1].1 : Int) + (R[i - 1].2 : Int)) = (R[i - 1].1 : Int) + (R[i - 1].2 : Int) := w64 (by omega)
                have c5 : ¬ (R[i].1 : Int) ≤ (R[i - 1].1 : Int) + (R[i - 1].2 : Int) := by omega
                simp [hi0, e15, e17, hget, hget1, c1, c2, c3, c4, c5]
                refine ⟨by omega, ?_⟩
                refine v_loopX hC (fun (j : Nat) e U => U = T ∧ e 7 = IS true (is_ all) ∧ e 15 = .fsl true 2 (R.map rc) ∧ e 16 = i6 ((flatR (R.take i)).length + j : Nat) ∧ e 17 = i6 i ∧ e 18 = i6 j ∧ j ≤ R[i].2) (fun j => R[i].2 - j) 0 (G.refl ?_) ?_
                · simp [e7, e15, e16, e17]
                · rintro j e U ⟨rfl, e7, e15, e16, e17, e18, hj⟩
                  simp [e15, e17, e18, hget]
                  refine CondV.dec (fun hjl => ?_) (fun hjg => ?_)
                  · have hjl : j < R[i].2 := by omega
                    have hat := flat_at hlt hjl
                    rw [hok.flat] at hat
                    have hft := hftl i
                    have hfn := flat_take hlt
                    obtain ⟨z, hz⟩ : ∃ z, (flatR (R.take i)).length + j = z := ⟨_, rfl⟩
                    rw [hz] at hat e16
                    have hzl : z < all.length := get_lt hat
                    have hat2 : (is_ all)[z]'(by rw [is_len]; exact hzl) = ((R[i].1 + j : Nat) : Int) := by
                      have h1 : all[z] = R[i].1 + j := (List.getElem?_eq_some_iff.1 hat).2
                      simp [is_, h1]
                    have hbi := hRb _ (List.getElem_mem hlt)
                    have c6 : IntKind.i64.wrap ((R[i].1 : Int) + (j : Int)) = (R[i].1 : Int) + (j : Int) := w64 (by omega)
                    have c7 : ¬ (all.length : Int) ≤ (z : Int) := by omega
                    simp [e7, e15, e16, e17, e18]
                    refine v_draw (ord := [0, 1, 2, 3, 4, 5, 6, 7, 8, 9, 10, 11, 12, 13, 14, 15, 16, 17]) (m := 14) (by decide +kernel) (by decide +kernel) ?_
                    simp [e7, e15, e16, e17, e18, is_len, c6, c7, hat2, hget, hzl, w64 (n := (z : Int) + 1) (by omega), w64 (n := (j : Int) + 1) (by omega)]
                    exact GH.refl ⟨j + 1, ⟨rfl, by simp [e7], by simp [e15], by simp; omega, by simp [e17], by simp, by omega⟩, by omega⟩
                  · have hje : j = R[i].2 := by omega
                    have hfn := flat_take hlt
                    simp [e17, w64 (n := (i : Int) + 1) (by omega)]
                    exact GH.refl ⟨i + 1, ⟨rfl, by simp [e7], by simp [e15], by simp [e16]; omega, by simp, by omega⟩, by omega⟩
              · simp [hi0]
                refine v_loopX hC (fun (j : Nat) e U => U = T ∧ e 7 = IS true (is_ all) ∧ e 15 = .fsl true 2 (R.map rc) ∧ e 16 = i6 ((flatR (R.take i)).length + j : Nat) ∧ e 17 = i6 i ∧ e 18 = i6 j ∧ j ≤ R[i].2) (fun j => R[i].2 - j) 0 (G.refl ?_) ?_
                · simp [e7, e15, e16, e17]
                · rintro j e U ⟨rfl, e7, e15, e16, e17, e18, hj⟩
                  simp [e15, e17, e18, hget]
                  refine CondV.dec (fun hjl => ?_) (fun hjg => ?_)
                  · have hjl : j < R[i].2 := by omega
                    have hat := flat_at hlt hjl
                    rw [hok.flat] at hat
                    have hft := hftl i
                    have hfn := flat_take hlt
                    obtain ⟨z, hz⟩ : ∃ z, (flatR (R.take i)).length + j = z := ⟨_, rfl⟩
                    rw [hz] at hat e16
                    have hzl : z < all.length := get_lt hat
                    have hat2 : (is_ all)[z]'(by rw [is_len]; exact hzl) = ((R[i].1 + j : Nat) : Int) := by
                      have h1 : all[z] = R[i].1 + j := (List.getElem?_eq_some_iff.1 hat).2
                      simp [is_, h1]
                    have hbi := hRb _ (List.getElem_mem hlt)
                    have c6 : IntKind.i64.wrap ((R[i].1 : Int) + (j : Int)) = (R[i].1 : Int) + (j : Int) := w64 (by omega)
                    have c7 : ¬ (all.length : Int) ≤ (z : Int) := by omega
                    simp [e7, e15, e16, e17, e18]
                    refine v_draw (ord := [0, 1, 2, 3, 4, 5, 6, 7, 8, 9, 10, 11, 12, 13, 14, 15, 16, 17]) (m := 14) (by decide +kernel) (by decide +kernel) ?_
                    simp [e7, e15, e16, e17, e18, is_len, c6, c7, hat2, hget, hzl, w64 (n := (z : Int) + 1) (by omega), w64 (n := (j : Int) + 1) (by omega)]
                    exact GH.refl ⟨j + 1, ⟨rfl, by simp [e7], by simp [e15], by simp; omega, by simp [e17], by simp, by omega⟩, by omega⟩
                  · have hje : j = R[i].2 := by omega
                    have hfn := flat_take hlt
                    simp [e17, w64 (n := (i : Int) + 1) (by omega)]
                    exact GH.refl ⟨i + 1, ⟨rfl, by simp [e7], by simp [e15], by simp [e16]; omega, by simp, by omega⟩, by omega⟩
            · have hie : i = R.length := by omega
              subst hie
              have := hok.flat
              simp [e7, e16, this, is_len, Tryd.results15]
              exact GV.refl ⟨rfl, rfl⟩
      · have p1' : ¬ a1 < 0 := by omega
        rcases hc2 with ⟨rfl, rfl⟩ | ⟨p2, rfl, rfl⟩
        · simp [p1, p1']
          refine hruns.call hS ?_
          simp
          refine v_loopX hC (fun (i : Nat) e T => T = H ∧ e 7 = IS true (is_ all) ∧ e 15 = .fsl true 2 (R.map rc) ∧ e 16 = i6 (flatR (R.take i)).length ∧ e 17 = i6 i ∧ i ≤ R.length) (fun i => R.length - i) 0 (G.refl ?_) ?_
          · simp [flatR]
          · rintro i e T ⟨rfl, e7, e15, e16, e17, hi⟩
            simp [e15, e17]
            refine CondV.dec (fun hlt => ?_) (fun hge => ?_)
            · have hlt : i < R.length := by omega
              simp [e15, e17]
              refine v_draw (ord := [0, 1, 2, 3, 4, 5, 6, 7, 8, 9, 10, 11, 12, 13, 14, 15, 16, 17, 18, 19, 20, 21, 22, 23, 24, 25, 26, 27, 28, 29, 30]) (m := 28) (by decide +kernel) (by decide +kernel) ?_
              have hget : R[i]? = some R[i] := List.getElem?_eq_getElem hlt
              have hpos := hok.pos _ (List.getElem_mem hlt)
              have hn1 : ¬ ((R[i].2 : Nat) : Int) < 1 := by omega
              simp [e15, e17, hget, hn1]
              by_cases hi0 : 0 < i
              · have hp1 : i - 1 < R.length := by omega
                have hget1 : R[i - 1]? = some R[i - 1] := List.getElem?_eq_getElem hp1
                have hgap := List.pairwise_iff_getElem.1 hok.gap (i - 1) i hp1 hlt (by omega)
                have hb1 := hRb _ (List.getElem_mem hp1)
                have c1 : IntKind.i64.wrap ((i : Int) - 1) = (i : Int) - 1 := w64 (by omega)
                have c2 : (0 : Int) ≤ (i : Int) - 1 := by omega
                have c3 : ((i : Int) - 1).toNat = i - 1 := by omega
                have c4 : IntKind.i64.wrap ((R[i - 1].1 : Int) + (R[i - 1].2 : Int)) = (R[i - 1].1 : Int) + (R[i - 1].2 : Int) := w64 (by omega)
                have c5 : ¬ (R[i].1 : Int) ≤ (R[i - 1].1 : Int) + (R[i - 1].2 : Int) := by omega
                simp [hi0, e15, e17, hget, hget1, c1, c2, c3, c4, c5]
                refine ⟨by omega, ?_⟩
                refine v_loopX hC (fun (j : Nat) e U => U = T ∧ e 7 = IS true (is_ all) ∧ e 15 = .fsl true 2 (R.map rc) ∧ e 16 = i6 ((flatR (R.take i)).length + j : Nat) ∧ e 17 = i6 i ∧ e 18 = i6 j ∧ j ≤ R[i].2) (fun j => R[i].2 - j) 0 (G.refl ?_) ?_
                · simp [e7, e15, e16, e17]
                · rintro j e U ⟨rfl, e7, e15, e16, e17, e18, hj⟩
                  simp [e15, e17, e18, hget]
                  refine CondV.dec (fun hjl => ?_) (fun hjg => ?_)
                  · have hjl : j < R[i].2 := by omega
                    have hat := flat_at hlt hjl
                    rw [hok.flat] at hat
                    have hft := hftl i
                    have hfn := flat_take hlt
                    obtain ⟨z, hz⟩ : ∃ z, (flatR (R.take i)).length + j = z := ⟨_, rfl⟩
                    rw [hz] at hat e16
                    have hzl : z < all.length := get_lt hat
                    have hat2 : (is_ all)[z]'(by rw [is_len]; exact hzl) = ((R[i].1 + j : Nat) : Int) := by
                      have h1 : all[z] = R[i].1 + j := (List.getElem?_eq_some_iff.1 hat).2
                      simp [is_, h1]
                    have hbi := hRb _ (List.getElem_mem hlt)
                    have c6 : IntKind.i64.wrap ((R[i].1 : Int) + (j : Int)) = (R[i].1 : Int) + (j : Int) := w64 (by omega)
                    have c7 : ¬ (all.length : Int) ≤ (z : Int) := by omega
                    simp [e7, e15, e16, e17, e18]
                    refine v_draw (ord := [0, 1, 2, 3, 4, 5, 6, 7, 8, 9, 10, 11, 12, 13, 14, 15, 16, 17]) (m := 14) (by decide +kernel) (by decide +kernel) ?_
                    simp [e7, e15, e16, e17, e18, is_len, c6, c7, hat2, hget, hzl, w64 (n := (z : Int) + 1) (by omega), w64 (n := (j : Int) + 1) (by omega)]
                    exact GH.refl ⟨j + 1, ⟨rfl, by simp [e7], by simp [e15], by simp; omega, by simp [e17], by simp, by omega⟩, by omega⟩
                  · have hje : j = R[i].2 := by omega
                    have hfn := flat_take hlt
                    simp [e17, w64 (n := (i : Int) + 1) (by omega)]
                    exact GH.refl ⟨i + 1, ⟨rfl, by simp [e7], by simp [e15], by simp [e16]; omega, by simp, by omega⟩, by omega⟩
              · simp [hi0]
                refine v_loopX hC (fun (j : Nat) e U => U = T ∧ e 7 = IS true (is_ all) ∧ e 15 = .fsl true 2 (R.map rc) ∧ e 16 = i6 ((flatR (R.take i)).length + j : Nat) ∧ e 17 = i6 i ∧ e 18 = i6 j ∧ j ≤ R[i].2) (fun j => R[i].2 - j) 0 (G.refl ?_) ?_
                · simp [e7, e15, e16, e17]
                · rintro j e U ⟨rfl, e7, e15, e16, e17, e18, hj⟩
                  simp [e15, e17, e18, hget]
                  refine CondV.dec (fun hjl => ?_) (fun hjg => ?_)
                  · have hjl : j < R[i].2 := by omega
                    have hat := flat_at hlt hjl
                    rw [hok.flat] at hat
                    have hft := hftl i
                    have hfn := flat_take hlt
                    obtain ⟨z, hz⟩ : ∃ z, (flatR (R.take i)).length + j = z := ⟨_, rfl⟩
                    rw [hz] at hat e16
                    have hzl : z < all.length := get_lt hat
                    have hat2 : (is_ all)[z]'(by rw [is_len]; exact hzl) = ((R[i].1 + j : Nat) : Int) := by
                      have h1 : all[z] = R[i].1 + j := (List.getElem?_eq_some_iff.1 hat).2
                      simp [is_, h1]
                    have hbi := hRb _ (List.getElem_mem hlt)
                    have c6 : IntKind.i64.wrap ((R[i].1 : Int) + (j : Int)) = (R[i].1 : Int) + (j : Int) := w64 (by omega)
                    have c7 : ¬ (all.length : Int) ≤ (z : Int) := by omega
                    simp [e7, e15, e16, e17, e18]
                    refine v_draw (ord := [0, 1, 2, 3, 4, 5, 6, 7, 8, 9, 10, 11, 12, 13, 14, 15, 16, 17]) (m := 14) (by decide +kernel) (by decide +kernel) ?_
                    simp [e7, e15, e16, e17, e18, is_len, c6, c7, hat2, hget, hzl, w64 (n := (z : Int) + 1) (by omega), w64 (n := (j : Int) + 1) (by omega)]
                    exact GH.refl ⟨j + 1, ⟨rfl, by simp [e7], by simp [e15], by simp; omega, by simp [e17], by simp, by omega⟩, by omega⟩
                  · have hje : j = R[i].2 := by omega
                    have hfn := flat_take hlt
                    simp [e17, w64 (n := (i : Int) + 1) (by omega)]
                    exact GH.refl ⟨i + 1, ⟨rfl, by simp [e7], by simp [e15], by simp [e16]; omega, by simp, by omega⟩, by omega⟩
            · have hie : i = R.length := by omega
              subst hie
              have := hok.flat
              simp [e7, e16, this, is_len, Tryd.results15]
              exact GV.refl ⟨rfl, rfl⟩
        · have p2' : ¬ a2 < 0 := by omega
          simp [p1, p1', p2, p2']
          refine hruns.call hS ?_
          simp
          refine v_loopX hC (fun (i : Nat) e T => T = H ∧ e 7 = IS true (is_ all) ∧ e 15 = .fsl true 2 (R.map rc) ∧ e 16 = i6 (flatR (R.take i)).length ∧ e 17 = i6 i ∧ i ≤ R.length) (fun i => R.length - i) 0 (G.refl ?_) ?_
          · simp [flatR]
          · rintro i e T ⟨rfl, e7, e15, e16, e17, hi⟩
            simp [e15, e17]
            refine CondV.dec (fun hlt => ?_) (fun hge => ?_)
            · have hlt : i < R.length := by omega
              simp [e15, e17]
              refine v_draw (ord := [0, 1, 2, 3, 4, 5, 6, 7, 8, 9, 10, 11, 12, 13, 14, 15, 16, 17, 18, 19, 20, 21, 22, 23, 24, 25, 26, 27, 28, 29, 30]) (m := 28) (by decide +kernel) (by decide +kernel) ?_
              have hget : R[i]? = some R[i] := List.getElem?_eq_getElem hlt
              have hpos := hok.pos _ (List.getElem_mem hlt)
              have hn1 : ¬ ((R[i].2 : Nat) : Int) < 1 := by omega
              simp [e15, e17, hget, hn1]
              by_cases hi0 : 0 < i
              · have hp1 : i - 1 < R.length := by omega
                have hget1 : R[i - 1]? = some R[i - 1] := List.getElem?_eq_getElem hp1
                have hgap := List.pairwise_iff_getElem.1 hok.gap (i - 1) i hp1 hlt (by omega)
                have hb1 := hRb _ (List.getElem_mem hp1)
                have c1 : IntKind.i64.wrap ((i : Int) - 1) = (i : Int) - 1 := w64 (by omega)
                have c2 : (0 : Int) ≤ (i : Int) - 1 := by omega
                have c3 : ((i : Int) - 1).toNat = i - 1 := by omega
                have c4 : IntKind.i64.wrap ((R[i - 1].1 : Int) + (R[i - 1].2 : Int)) = (R[i - 1].1 : Int) + (R[i - 1].2 : Int) := w64 (by omega)
                have c5 : ¬ (R[i].1 : Int) ≤ (R[i - 1].1 : Int) + (R[i - 1].2 : Int) := by omega
                simp [hi0, e15, e17, hget, hget1, c1, c2, c3, c4, c5]
                refine ⟨by omega, ?_⟩
                refine v_loopX hC (fun (j : Nat) e U => U = T ∧ e 7 = IS true (is_ all) ∧ e 15 = .fsl true 2 (R.map rc) ∧ e 16 = i6 ((flatR (R.take i)).length + j : Nat) ∧ e 17 = i6 i ∧ e 18 = i6 j ∧ j ≤ R[i].2) (fun j => R[i].2 - j) 0 (G.refl ?_) ?_
                · simp [e7, e15, e16, e17]
                · rintro j e U ⟨rfl, e7, e15, e16, e17, e18, hj⟩
                  simp [e15, e17, e18, hget]
                  refine CondV.dec (fun hjl => ?_) (fun hjg => ?_)
                  · have hjl : j < R[i].2 := by omega
                    have hat := flat_at hlt hjl
                    rw [hok.flat] at hat
                    have hft := hftl i
                    have hfn := flat_take hlt
                    obtain ⟨z, hz⟩ : ∃ z, (flatR (R.take i)).length + j = z := ⟨_, rfl⟩
                    rw [hz] at hat e16
                    have hzl : z < all.length := get_lt hat
                    have hat2 : (is_ all)[z]'(by rw [is_len]; exact hzl) = ((R[i].1 + j : Nat) : Int) := by
                      have h1 : all[z] = R[i].1 + j := (List.getElem?_eq_some_iff.1 hat).2
                      simp [is_, h1]
                    have hbi := hRb _ (List.getElem_mem hlt)
                    have c6 : IntKind.i64.wrap ((R[i].1 : Int) + (j : Int)) = (R[i].1 : Int) + (j : Int) := w64 (by omega)
                    have c7 : ¬ (all.length : Int) ≤ (z : Int) := by omega
                    simp [e7, e15, e16, e17, e18]
                    refine v_draw (ord := [0, 1, 2, 3, 4, 5, 6, 7, 8, 9, 10, 11, 12, 13, 14, 15, 16, 17]) (m := 14) (by decide +kernel) (by decide +kernel) ?_
                    simp [e7, e15, e16, e17, e18, is_len, c6, c7, hat2, hget, hzl, w64 (n := (z : Int) + 1) (by omega), w64 (n := (j : Int) + 1) (by omega)]
                    exact GH.refl ⟨j + 1, ⟨rfl, by simp [e7], by simp [e15], by simp; omega, by simp [e17], by simp, by omega⟩, by omega⟩
                  · have hje : j = R[i].2 := by omega
                    have hfn := flat_take hlt
                    simp [e17, w64 (n := (i : Int) + 1) (by omega)]
                    exact GH.refl ⟨i + 1, ⟨rfl, by simp [e7], by simp [e15], by simp [e16]; omega, by simp, by omega⟩, by omega⟩
              · simp [hi0]
                refine v_loopX hC (fun (j : Nat) e U => U = T ∧ e 7 = IS true (is_ all) ∧ e 15 = .fsl true 2 (R.map rc) ∧ e 16 = i6 ((flatR (R.take i)).length + j : Nat) ∧ e 17 = i6 i ∧ e 18 = i6 j ∧ j ≤ R[i].2) (fun j => R[i].2 - j) 0 (G.refl ?_) ?_
                · simp [e7, e15, e16, e17]
                · rintro j e U ⟨rfl, e7, e15, e16, e17, e18, hj⟩
                  simp [e15, e17, e18, hget]
                  refine CondV.dec (fun hjl => ?_) (fun hjg => ?_)
                  · have hjl : j < R[i].2 := by omega
                    have hat := flat_at hlt hjl
                    rw [hok.flat] at hat
                    have hft := hftl i
                    have hfn := flat_take hlt
                    obtain ⟨z, hz⟩ : ∃ z, (flatR (R.take i)).length + j = z := ⟨_, rfl⟩
                    rw [hz] at hat e16
                    have hzl : z < all.length := get_lt hat
                    have hat2 : (is_ all)[z]'(by rw [is_len]; exact hzl) = ((R[i].1 + j : Nat) : Int) := by
                      have h1 : all[z] = R[i].1 + j := (List.getElem?_eq_some_iff.1 hat).2
                      simp [is_, h1]
                    have hbi := hRb _ (List.getElem_mem hlt)
                    have c6 : IntKind.i64.wrap ((R[i].1 : Int) + (j : Int)) = (R[i].1 : Int) + (j : Int) := w64 (by omega)
                    have c7 : ¬ (all.length : Int) ≤ (z : Int) := by omega
                    simp [e7, e15, e16, e17, e18]
                    refine v_draw (ord := [0, 1, 2, 3, 4, 5, 6, 7, 8, 9, 10, 11, 12, 13, 14, 15, 16, 17]) (m := 14) (by decide +kernel) (by decide +kernel) ?_
                    simp [e7, e15, e16, e17, e18, is_len, c6, c7, hat2, hget, hzl, w64 (n := (z : Int) + 1) (by omega), w64 (n := (j : Int) + 1) (by omega)]
                    exact GH.refl ⟨j + 1, ⟨rfl, by simp [e7], by simp [e15], by simp; omega, by simp [e17], by simp, by omega⟩, by omega⟩
                  · have hje : j = R[i].2 := by omega
                    have hfn := flat_take hlt
                    simp [e17, w64 (n := (i : Int) + 1) (by omega)]
                    exact GH.refl ⟨i + 1, ⟨rfl, by simp [e7], by simp [e15], by simp [e16]; omega, by simp, by omega⟩, by omega⟩
            · have hie : i = R.length := by omega
              subst hie
              have := hok.flat
              simp [e7, e16, this, is_len, Tryd.results15]
              exact GV.refl ⟨rfl, rfl⟩
  · have hh : hasM m no = false := by unfold hasM mayM; simp <;> omega
    simp [hn0]
    refine v_Size.call hS ?_
    simp
    refine hcnt.call hS ?_
    simp [is_len]
    refine hgall.call hS ?_
    simp
    refine (v_SameI (kk := true) (km := true) (l := is_ all) (m := is_ all) (by rw [is_len]; omega)).call ?_
    simp
    refine v_Has.call hS ?_
    simp [hh]
    refine v_Bytes.call hS ?_
    simp
    refine (v_rBytes6 (kk := kk) (m := m) (by omega)).call ?_
    simp
    refine (v_Same1 (kk := true) (km := true) (l := bytesM m) (m := bytesM m) (by rw [bytesM_len]; omega)).call ?_
    simp
    rcases hc1 with ⟨rfl, rfl⟩ | ⟨p1, rfl, rfl⟩
    · rcases hc2 with ⟨rfl, rfl⟩ | ⟨p2, rfl, rfl⟩
      · simp
        refine hruns.call hS ?_
        simp
        refine v_loopX hC (fun (i : Nat) e T => T = H ∧ e 7 = IS true (is_ all) ∧ e 15 = .fsl true 2 (R.map rc) ∧ e 16 = i6 (flatR (R.take i)).length ∧ e 17 = i6 i ∧ i ≤ R.length) (fun i => R.length - i) 0 (G.refl ?_) ?_
        · simp [flatR]
        · rintro i e T ⟨rfl, e7, e15, e16, e17, hi⟩
          simp [e15, e17]
          refine CondV.dec (fun hlt => ?_) (fun hge => ?_)
          · have hlt : i < R.length := by omega
            simp [e15, e17]
            refine v_draw (ord := [0, 1, 2, 3, 4, 5, 6, 7, 8, 9, 10, 11, 12, 13, 14, 15, 16, 17, 18, 19, 20, 21, 22, 23, 24, 25, 26, 27, 28, 29, 30]) (m := 28) (by decide +kernel) (by decide +kernel) ?_
            have hget : R[i]? = some R[i] := List.getElem?_eq_getElem hlt
            have hpos := hok.pos _ (List.getElem_mem hlt)
            have hn1 : ¬ ((R[i].2 : Nat) : Int) < 1 := by omega
            simp [e15, e17, hget, hn1]
            by_cases hi0 : 0 < i
            · have hp1 : i - 1 < R.length := by omega
              have hget1 : R[i - 1]? = some R[i - 1] := List.getElem?_eq_getElem hp1
              have hgap := List.pairwise_iff_getElem.1 hok.gap (i - 1) i hp1 hlt (by omega)
              have hb1 := hRb _ (List.getElem_mem hp1)
              have c1 : IntKind.i64.wrap ((i : Int) - 1) = (i : Int) - 1 := w64 (by omega)
              have c2 : (0 : Int) ≤ (i : Int) - 1 := by omega
              have c3 : ((i : Int) - 1).toNat = i - 1 := by omega
              have c4 : IntKind.i64.wrap ((R[i - 1].1 : Int) + (R[i - 1].2 : Int)) = (R[i - 1].1 : Int) + (R[i - 1].2 : Int) := w64 (by omega)
              have c5 : ¬ (R[i].1 : Int) ≤ (R[i - 1].1 : Int) + (R[i - 1].2 : Int) := by omega
              simp [hi0, e15, e17, hget, hget1, c1, c2, c3, c4, c5]
              refine ⟨by omega, ?_⟩
              refine v_loopX hC (fun (j : Nat) e U => U = T ∧ e 7 = IS true (is_ all) ∧ e 15 = .fsl true 2 (R.map rc) ∧ e 16 = i6 ((flatR (R.take i)).length + j : Nat) ∧ e 17 = i6 i ∧ e 18 = i6 j ∧ j ≤ R[i].2) (fun j => R[i].2 - j) 0 (G.refl ?_) ?_
              · simp [e7, e15, e16, e17]
              · rintro j e U ⟨rfl, e7, e15, e16, e17, e18, hj⟩
                simp [e15, e17, e18, hget]
                refine CondV.dec (fun hjl => ?_) (fun hjg => ?_)
                · have hjl : j < R[i].2 := by omega
                  have hat := flat_at hlt hjl
                  rw [hok.flat] at hat
                  have hft := hftl i
                  have hfn := flat_take hlt
                  obtain ⟨z, hz⟩ : ∃ z, (flatR (R.take i)).length + j = z := ⟨_, rfl⟩
                  rw [hz] at hat e16
                  have hzl : z < all.length := get_lt hat
                  have hat2 : (is_ all)[z]'(by rw [is_len]; exact hzl) = ((R[i].1 + j : Nat) : Int) := by
                    have h1 : all[z] = R[i].1 + j := (List.getElem?_eq_some_iff.1 hat).2
                    simp [is_, h1]
                  have hbi := hRb _ (List.getElem_mem hlt)
                  have c6 : IntKind.i64.wrap ((R[i].1 : Int) + (j : Int)) = (R[i].1 : Int) + (j : Int) := w64 (by omega)
                  have c7 : ¬ (all.length : Int) ≤ (z : Int) := by omega
                  simp [e7, e15, e16, e17, e18]
                  refine v_draw (ord := [0, 1, 2, 3, 4, 5, 6, 7, 8, 9, 10, 11, 12, 13, 14, 15, 16, 17]) (m := 14) (by decide +kernel) (by decide +kernel) ?_
                  simp [e7, e15, e16, e17, e18, is_len, c6, c7, hat2, hget, hzl, w64 (n := (z : Int) + 1) (by omega), w64 (n := (j : Int) + 1) (by omega)]
                  exact GH.refl ⟨j + 1, ⟨rfl, by simp [e7], by simp [e15], by simp; omega, by simp [e17], by simp, by omega⟩, by omega⟩
                · have hje : j = R[i].2 := by omega
                  have hfn := flat_take hlt
                  simp [e17, w64 (n := (i : Int) + 1) (by omega)]
                  exact GH.refl ⟨i + 1, ⟨rfl, by simp [e7], by simp [e15], by simp [e16]; omega, by simp, by omega⟩, by omega⟩
            · simp [hi0]
              refine v_loopX hC (fun (j : Nat) e U => U = T ∧ e 7 = IS true (is_ all) ∧ e 15 = .fsl true 2 (R.map rc) ∧ e 16 = i6 ((flatR (R.take i)).length + j : Nat) ∧ e 17 = i6 i ∧ e 18 = i6 j ∧ j ≤ R[i].2) (fun j => R[i].2 - j) 0 (G.refl ?_) ?_
              · simp [e7, e15, e16, e17]
              · rintro j e U ⟨rfl, e7, e15, e16, e17, e18, hj⟩
                simp [e15, e17, e18, hget]
                refine CondV.dec (fun hjl => ?_) (fun hjg => ?_)
                · have hjl : j < R[i].2 := by omega
                  have hat := flat_at hlt hjl
                  rw [hok.flat] at hat
                  have hft := hftl i
                  have hfn := flat_take hlt
                  obtain ⟨z, hz⟩ : ∃ z, (flatR (R.take i)).length + j = z := ⟨_, rfl⟩
                  rw [hz] at hat e16
                  have hzl : z < all.length := get_lt hat
                  have hat2 : (is_ all)[z]'(by rw [is_len]; exact hzl) = ((R[i].1 + j : Nat) : Int) := by
                    have h1 : all[z] = R[i].1 + j := (List.getElem?_eq_some_iff.1 hat).2
                    simp [is_, h1]
                  have hbi := hRb _ (List.getElem_mem hlt)
                  have c6 : IntKind.i64.wrap ((R[i].1 : Int) + (j : Int)) = (R[i].1 : Int) + (j : Int) := w64 (by omega)
                  have c7 : ¬ (all.length : Int) ≤ (z : Int) := by omega
                  simp [e7, e15, e16, e17, e18]
                  refine v_draw (ord := [0, 1, 2, 3, 4, 5, 6, 7, 8, 9, 10, 11, 12, 13, 14, 15, 16, 17]) (m := 14) (by decide +kernel) (by decide +kernel) ?_
                  simp [e7, e15, e16, e17, e18, is_len, c6, c7, hat2, hget, hzl, w64 (n := (z : Int) + 1) (by omega), w64 (n := (j : Int) + 1) (by omega)]
                  exact GH.refl ⟨j + 1, ⟨rfl, by simp [e7], by simp [e15], by simp; omega, by simp [e17], by simp, by omega⟩, by omega⟩
                · have hje : j = R[i].2 := by omega
                  have hfn := flat_take hlt
                  simp [e17, w64 (n := (i : Int) + 1) (by omega)]
                  exact GH.refl ⟨i + 1, ⟨rfl, by simp [e7], by simp [e15], by simp [e16]; omega, by simp, by omega⟩, by omega⟩
          · have hie : i = R.length := by omega
            subst hie
            have := hok.flat
            simp [e7, e16, this, is_len, Tryd.results15]
            exact GV.refl ⟨rfl, rfl⟩
      · have p2' : ¬ a2 < 0 := by omega
        simp [p2, p2']
        refine hruns.call hS ?_
        simp
        refine v_loopX hC (fun (i : Nat) e T => T = H ∧ e 7 = IS true (is_ all) ∧ e 15 = .fsl true 2 (R.map rc) ∧ e 16 = i6 (flatR (R.take i)).length ∧ e 17 = i6 i ∧ i ≤ R.length) (fun i => R.length - i) 0 (G.refl ?_) ?_
        · simp [flatR]
        · rintro i e T ⟨rfl, e7, e15, e16, e17, hi⟩
          simp [e15, e17]
          refine CondV.dec (fun hlt => ?_) (fun hge => ?_)
          · have hlt : i < R.length := by omega
            simp [e15, e17]
            refine v_draw (ord := [0, 1, 2, 3, 4, 5, 6, 7, 8, 9, 10, 11, 12, 13, 14, 15, 16, 17, 18, 19, 20, 21, 22, 23, 24, 25, 26, 27, 28, 29, 30]) (m := 28) (by decide +kernel) (by decide +kernel) ?_
            have hget : R[i]? = some R[i] := List.getElem?_eq_getElem hlt
            have hpos := hok.pos _ (List.getElem_mem hlt)
            have hn1 : ¬ ((R[i].2 : Nat) : Int) < 1 := by omega
            simp [e15, e17, hget, hn1]
            by_cases hi0 : 0 < i
            · have hp1 : i - 1 < R.length := by omega
              have hget1 : R[i - 1]? = some R[i - 1] := List.getElem?_eq_getElem hp1
              have hgap := List.pairwise_iff_getElem.1 hok.gap (i - 1) i hp1 hlt (by omega)
              have hb1 := hRb _ (List.getElem_mem hp1)
              have c1 : IntKind.i64.wrap ((i : Int) - 1) = (i : Int) - 1 := w64 (by omega)
              have c2 : (0 : Int) ≤ (i : Int) - 1 := by omega
              have c3 : ((i : Int) - 1).toNat = i - 1 := by omega
              have c4 : IntKind.i64.wrap ((R[i - 1].1 : Int) + (R[i - 1].2 : Int)) = (R[i - 1].1 : Int) + (R[i - 1].2 : Int) := w64 (by omega)
              have c5 : ¬ (R[i].1 : Int) ≤ (R[i - 1].1 : Int) + (R[i - 1].2 : Int) := by omega
              simp [hi0, e15, e17, hget, hget1, c1, c2, c3, c4, c5]
              refine ⟨by omega, ?_⟩
              refine v_loopX hC (fun (j : Nat) e U => U = T ∧ e 7 = IS true (is_ all) ∧ e 15 = .fsl true 2 (R.map rc) ∧ e 16 = i6 ((flatR (R.take i)).length + j : Nat) ∧ e 17 = i6 i ∧ e 18 = i6 j ∧ j ≤ R[i].2) (fun j => R[i].2 - j) 0 (G.refl ?_) ?_
              · simp [e7, e15, e16, e17]
              · rintro j e U ⟨rfl, e7, e15, e16, e17, e18, hj⟩
                simp [e15, e17, e18, hget]
                refine CondV.dec (fun hjl => ?_) (fun hjg => ?_)
                · have hjl : j < R[i].2 := by omega
                  have hat := flat_at hlt hjl
                  rw [hok.flat] at hat
                  have hft := hftl i
                  have hfn := flat_take hlt
                  obtain ⟨z, hz⟩ : ∃ z, (flatR (R.take i)).length + j = z := ⟨_, rfl⟩
                  rw [hz] at hat e16
                  have hzl : z < all.length := get_lt hat
                  have hat2 : (is_ all)[z]'(by rw [is_len]; exact hzl) = ((R[i].1 + j : Nat) : Int) := by
                    have h1 : all[z] = R[i].1 + j := (List.getElem?_eq_some_iff.1 hat).2
                    simp [is_, h1]
                  have hbi := hRb _ (List.getElem_mem hlt)
                  have c6 : IntKind.i64.wrap ((R[i].1 : Int) + (j : Int)) = (R[i].1 : Int) + (j : Int) := w64 (by omega)
                  have c7 : ¬ (all.length : Int) ≤ (z : Int) := by omega
                  simp [e7, e15, e16, e17, e18]
                  refine v_draw (ord := [0, 1, 2, 3, 4, 5, 6, 7, 8, 9, 10, 11, 12, 13, 14, 15, 16, 17]) (m := 14) (by decide +kernel) (by decide +kernel) ?_
                  simp [e7, e15, e16, e17, e18, is_len, c6, c7, hat2, hget, hzl, w64 (n := (z : Int) + 1) (by omega), w64 (n := (j : Int) + 1) (by omega)]
                  exact GH.refl ⟨j + 1, ⟨rfl, by simp [e7], by simp [e15], by simp; omega, by simp [e17], by simp, by omega⟩, by omega⟩
                · have hje : j = R[i].2 := by omega
                  have hfn := flat_take hlt
                  simp [e17, w64 (n := (i : Int) + 1) (by omega)]
                  exact GH.refl ⟨i + 1, ⟨rfl, by simp [e7], by simp [e15], by simp [e16]; omega, by simp, by omega⟩, by omega⟩
            · simp [hi0]
              refine v_loopX hC (fun (j : Nat) e U => U = T ∧ e 7 = IS true (is_ all) ∧ e 15 = .fsl true 2 (R.map rc) ∧ e 16 = i6 ((flatR (R.take i)).length + j : Nat) ∧ e 17 = i6 i ∧ e 18 = i6 j ∧ j ≤ R[i].2) (fun j => R[i].2 - j) 0 (G.refl ?_) ?_
              · simp [e7, e15, e16, e17]
              · rintro j e U ⟨rfl, e7, e15, e16, e17, e18, hj⟩
                simp [e15, e17, e18, hget]
                refine CondV.dec (fun hjl => ?_) (fun hjg => ?_)
                · have hjl : j < R[i].2 := by omega
                  have hat := flat_at hlt hjl
                  rw [hok.flat] at hat
                  have hft := hftl i
                  have hfn := flat_take hlt
                  obtain ⟨z, hz⟩ : ∃ z, (flatR (R.take i)).length + j = z := ⟨_, rfl⟩
                  rw [hz] at hat e16
                  have hzl : z < all.length := get_lt hat
                  have hat2 : (is_ all)[z]'(by rw [is_len]; exact hzl) = ((R[i].1 + j : Nat) : Int) := by
                    have h1 : all[z] = R[i].1 + j := (List.getElem?_eq_some_iff.1 hat).2
                    simp [is_, h1]
                  have hbi := hRb _ (List.getElem_mem hlt)
                  have c6 : IntKind.i64.wrap ((R[i].1 : Int) + (j : Int)) = (R[i].1 : Int) + (j : Int) := w64 (by omega)
                  have c7 : ¬ (all.length : Int) ≤ (z : Int) := by omega
                  simp [e7, e15, e16, e17, e18]
                  refine v_draw (ord := [0, 1, 2, 3, 4, 5, 6, 7, 8, 9, 10, 11, 12, 13, 14, 15, 16, 17]) (m := 14) (by decide +kernel) (by decide +kernel) ?_
                  simp [e7, e15, e16, e17, e18, is_len, c6, c7, hat2, hget, hzl, w64 (n := (z : Int) + 1) (by omega), w64 (n := (j : Int) + 1) (by omega)]
                  exact GH.refl ⟨j + 1, ⟨rfl, by simp [e7], by simp [e15], by simp; omega, by simp [e17], by simp, by omega⟩, by omega⟩
                · have hje : j = R[i].2 := by omega
                  have hfn := flat_take hlt
                  simp [e17, w64 (n := (i : Int) + 1) (by omega)]
                  exact GH.refl ⟨i + 1, ⟨rfl, by simp [e7], by simp [e15], by simp [e16]; omega, by simp, by omega⟩, by omega⟩
          · have hie : i = R.length := by omega
            subst hie
            have := hok.flat
            simp [e7, e16, this, is_len, Tryd.results15]
            exact GV.refl ⟨rfl, rfl⟩
    · have p1' : ¬ a1 < 0 := by omega
      rcases hc2 with ⟨rfl, rfl⟩ | ⟨p2, rfl, rfl⟩
      · simp [p1, p1']
        refine hruns.call hS ?_
        simp
        refine v_loopX hC (fun (i : Nat) e T => T = H ∧ e 7 = IS true (is_ all) ∧ e 15 = .fsl true 2 (R.map rc) ∧ e 16 = i6 (flatR (R.take i)).length ∧ e 17 = i6 i ∧ i ≤ R.length) (fun i => R.length - i) 0 (G.refl ?_) ?_
        · simp [flatR]
        · rintro i e T ⟨rfl, e7, e15, e16, e17, hi⟩
          simp [e15, e17]
          refine CondV.dec (fun hlt => ?_) (fun hge => ?_)
          · have hlt : i < R.length := by omega
            simp [e15, e17]
            refine v_draw (ord := [0, 1, 2, 3, 4, 5, 6, 7, 8, 9, 10, 11, 12, 13, 14, 15, 16, 17, 18, 19, 20, 21, 22, 23, 24, 25, 26, 27, 28, 29, 30]) (m := 28) (by decide +kernel) (by decide +kernel) ?_
            have hget : R[i]? = some R[i] := List.getElem?_eq_getElem hlt
            have hpos := hok.pos _ (List.getElem_mem hlt)
            have hn1 : ¬ ((R[i].2 : Nat) : Int) < 1 := by omega
            simp [e15, e17, hget, hn1]
            by_cases hi0 : 0 < i
            · have hp1 : i - 1 < R.length := by omega
              have hget1 : R[i - 1]? = some R[i - 1] := List.getElem?_eq_getElem hp1
              have hgap := List.pairwise_iff_getElem.1 hok.gap (i - 1) i hp1 hlt (by omega)
              have hb1 := hRb _ (List.getElem_mem hp1)
              have c1 : IntKind.i64.wrap ((i : Int) - 1) = (i : Int) - 1 := w64 (by omega)
              have c2 : (0 : Int) ≤ (i : Int) - 1 := by omega
              have c3 : ((i : Int) - 1).toNat = i - 1 := by omega
              have c4 : IntKind.i64.wrap ((R[i - 1].1 : Int) + (R[i - 1].2 : Int)) = (R[i - 1].1 : Int) + (R[i - 1].2 : Int) := w64 (by omega)
              have c5 : ¬ (R[i].1 : Int) ≤ (R[i - 1].1 : Int) + (R[i - 1].2 : Int) := by omega
              simp [hi0, e15, e17, hget, hget1, c1, c2, c3, c4, c5]
              refine ⟨by omega, ?_⟩
              refine v_loopX hC (fun (j : Nat) e U => U = T ∧ e 7 = IS true (is_ all) ∧ e 15 = .fsl true 2 (R.map rc) ∧ e 16 = i6 ((flatR (R.take i)).length + j : Nat) ∧ e 17 = i6 i ∧ e 18 = i6 j ∧ j ≤ R[i].2) (fun j => R[i].2 - j) 0 (G.refl ?_) ?_
              · simp [e7, e15, e16, e17]
              · rintro j e U ⟨rfl, e7, e15, e16, e17, e18, hj⟩
                simp [e15, e17, e18, hget]
                refine CondV.dec (fun hjl => ?_) (fun hjg => ?_)
                · have hjl : j < R[i].2 := by omega
                  have hat := flat_at hlt hjl
                  rw [hok.flat] at hat
                  have hft := hftl i
                  have hfn := flat_take hlt
                  obtain ⟨z, hz⟩ : ∃ z, (flatR (R.take i)).length + j = z := ⟨_, rfl⟩
                  rw [hz] at hat e16
                  have hzl : z < all.length := get_lt hat
                  have hat2 : (is_ all)[z]'(by rw [is_len]; exact hzl) = ((R[i].1 + j : Nat) : Int) := by
                    have h1 : all[z] = R[i].1 + j := (List.getElem?_eq_some_iff.1 hat).2
                    simp [is_, h1]
                  have hbi := hRb _ (List.getElem_mem hlt)
                  have c6 : IntKind.i64.wrap ((R[i].1 : Int) + (j : Int)) = (R[i].1 : Int) + (j : Int) := w64 (by omega)
                  have c7 : ¬ (all.length : Int) ≤ (z : Int) := by omega
                  simp [e7, e15, e16, e17, e18]
                  refine v_draw (ord := [0, 1, 2, 3, 4, 5, 6, 7, 8, 9, 10, 11, 12, 13, 14, 15, 16, 17]) (m := 14) (by decide +kernel) (by decide +kernel) ?_
                  simp [e7, e15, e16, e17, e18, is_len, c6, c7, hat2, hget, hzl, w64 (n := (z : Int) + 1) (by omega), w64 (n := (j : Int) + 1) (by omega)]
                  exact GH.refl ⟨j + 1, ⟨rfl, by simp [e7], by simp [e15], by simp; omega, by simp [e17], by simp, by omega⟩, by omega⟩
                · have hje : j = R[i].2 := by omega
                  have hfn := flat_take hlt
                  simp [e17, w64 (n := (i : Int) + 1) (by omega)]
                  exact GH.refl ⟨i + 1, ⟨rfl, by simp [e7], by simp [e15], by simp [e16]; omega, by simp, by omega⟩, by omega⟩
            · simp [hi0]
              refine v_loopX hC (fun (j : Nat) e U => U = T ∧ e 7 = IS true (is_ all) ∧ e 15 = .fsl true 2 (R.map rc) ∧ e 16 = i6 ((flatR (R.take i)).length + j : Nat) ∧ e 17 = i6 i ∧ e 18 = i6 j ∧ j ≤ R[i].2) (fun j => R[i].2 - j) 0 (G.refl ?_) ?_
              · simp [e7, e15, e16, e17]
              · rintro j e U ⟨rfl, e7, e15, e16, e17, e18, hj⟩
                simp [e15, e17, e18, hget]
                refine CondV.dec (fun hjl => ?_) (fun hjg => ?_)
                · have hjl : j < R[i].2 := by omega
                  have hat := flat_at hlt hjl
                  rw [hok.flat] at hat
                  have hft := hftl i
                  have hfn := flat_take hlt
                  obtain ⟨z, hz⟩ : ∃ z, (flatR (R.take i)).length + j = z := ⟨_, rfl⟩
                  rw [hz] at hat e16
                  have hzl : z < all.length := get_lt hat
                  have hat2 : (is_ all)[z]'(by rw [is_len]; exact hzl) = ((R[i].1 + j : Nat) : Int) := by
                    have h1 : all[z] = R[i].1 + j := (List.getElem?_eq_some_iff.1 hat).2
                    simp [is_, h1]
                  have hbi := hRb _ (List.getElem_mem hlt)
                  have c6 : IntKind.i64.wrap ((R[i].1 : Int) + (j : Int)) = (R[i].1 : Int) + (j : Int) := w64 (by omega)
                  have c7 : ¬ (all.length : Int) ≤ (z : Int) := by omega
                  simp [e7, e15, e16, e17, e18]
                  refine v_draw (ord := [0, 1, 2, 3, 4, 5, 6, 7, 8, 9, 10, 11, 12, 13, 14, 15, 16, 17]) (m := 14) (by decide +kernel) (by decide +kernel) ?_
                  simp [e7, e15, e16, e17, e18, is_len, c6, c7, hat2, hget, hzl, w64 (n := (z : Int) + 1) (by omega), w64 (n := (j : Int) + 1) (by omega)]
                  exact GH.refl ⟨j + 1, ⟨rfl, by simp [e7], by simp [e15], by simp; omega, by simp [e17], by simp, by omega⟩, by omega⟩
                · have hje : j = R[i].2 := by omega
                  have hfn := flat_take hlt
                  simp [e17, w64 (n := (i : Int) + 1) (by omega)]
                  exact GH.refl ⟨i + 1, ⟨rfl, by simp [e7], by simp [e15], by simp [e16]; omega, by simp, by omega⟩, by omega⟩
          · have hie : i = R.length := by omega
            subst hie
            have := hok.flat
            simp [e7, e16, this, is_len, Tryd.results15]
            exact GV.refl ⟨rfl, rfl⟩
      · have p2' : ¬ a2 < 0 := by omega
        simp [p1, p1', p2, p2']
        refine hruns.call hS ?_
        simp
        refine v_loopX hC (fun (i : Nat) e T => T = H ∧ e 7 = IS true (is_ all) ∧ e 15 = .fsl true 2 (R.map rc) ∧ e 16 = i6 (flatR (R.take i)).length ∧ e 17 = i6 i ∧ i ≤ R.length) (fun i => R.length - i) 0 (G.refl ?_) ?_
        · simp [flatR]
        · rintro i e T ⟨rfl, e7, e15, e16, e17, hi⟩
          simp [e15, e17]
          refine CondV.dec (fun hlt => ?_) (fun hge => ?_)
          · have hlt : i < R.length := by omega
            simp [e15, e17]
            refine v_draw (ord := [0, 1, 2, 3, 4, 5, 6, 7, 8, 9, 10, 11, 12, 13, 14, 15, 16, 17, 18, 19, 20, 21, 22, 23, 24, 25, 26, 27, 28, 29, 30]) (m := 28) (by decide +kernel) (by decide +kernel) ?_
            have hget : R[i]? = some R[i] := List.getElem?_eq_getElem hlt
            have hpos := hok.pos _ (List.getElem_mem hlt)
            have hn1 : ¬ ((R[i].2 : Nat) : Int) < 1 := by omega
            simp [e15, e17, hget, hn1]
            by_cases hi0 : 0 < i
            · have hp1 : i - 1 < R.length := by omega
              have hget1 : R[i - 1]? = some R[i - 1] := List.getElem?_eq_getElem hp1
              have hgap := List.pairwise_iff_getElem.1 hok.gap (i - 1) i hp1 hlt (by omega)
              have hb1 := hRb _ (List.getElem_mem hp1)
              have c1 : IntKind.i64.wrap ((i : Int) - 1) = (i : Int) - 1 := w64 (by omega)
              have c2 : (0 : Int) ≤ (i : Int) - 1 := by omega
              have c3 : ((i : Int) - 1).toNat = i - 1 := by omega
              have c4 : IntKind.i64.wrap ((R[i - 1].1 : Int) + (R[i - 1].2 : Int)) = (R[i - 1].1 : Int) + (R[i - 1].2 : Int) := w64 (by omega)
              have c5 : ¬ (R[i].1 : Int) ≤ (R[i - 1].1 : Int) + (R[i - 1].2 : Int) := by omega
              simp [hi0, e15, e17, hget, hget1, c1, c2, c3, c4, c5]
              refine ⟨by omega, ?_⟩
              refine v_loopX hC (fun (j : Nat) e U => U = T ∧ e 7 = IS true (is_ all) ∧ e 15 = .fsl true 2 (R.map rc) ∧ e 16 = i6 ((flatR (R.take i)).length + j : Nat) ∧ e 17 = i6 i ∧ e 18 = i6 j ∧ j ≤ R[i].2) (fun j => R[i].2 - j) 0 (G.refl ?_) ?_
              · simp [e7, e15, e16, e17]
              · rintro j e U ⟨rfl, e7, e15, e16, e17, e18, hj⟩
                simp [e15, e17, e18, hget]
                refine CondV.dec (fun hjl => ?_) (fun hjg => ?_)
                · have hjl : j < R[i].2 := by omega
                  have hat := flat_at hlt hjl
                  rw [hok.flat] at hat
                  have hft := hftl i
                  have hfn := flat_take hlt
                  obtain ⟨z, hz⟩ : ∃ z, (flatR (R.take i)).length + j = z := ⟨_, rfl⟩
                  rw [hz] at hat e16
                  have hzl : z < all.length := get_lt hat
                  have hat2 : (is_ all)[z]'(by rw [is_len]; exact hzl) = ((R[i].1 + j : Nat) : Int) := by
                    have h1 : all[z] = R[i].1 + j := (List.getElem?_eq_some_iff.1 hat).2
                    simp [is_, h1]
                  have hbi := hRb _ (List.getElem_mem hlt)
                  have c6 : IntKind.i64.wrap ((R[i].1 : Int) + (j : Int)) = (R[i].1 : Int) + (j : Int) := w64 (by omega)
                  have c7 : ¬ (all.length : Int) ≤ (z : Int) := by omega
                  simp [e7, e15, e16, e17, e18]
                  refine v_draw (ord := [0, 1, 2, 3, 4, 5, 6, 7, 8, 9, 10, 11, 12, 13, 14, 15, 16, 17]) (m := 14) (by decide +kernel) (by decide +kernel) ?_
                  simp [e7, e15, e16, e17, e18, is_len, c6, c7, hat2, hget, hzl, w64 (n := (z : Int) + 1) (by omega), w64 (n := (j : Int) + 1) (by omega)]
                  exact GH.refl ⟨j + 1, ⟨rfl, by simp [e7], by simp [e15], by simp; omega, by simp [e17], by simp, by omega⟩, by omega⟩
                · have hje : j = R[i].2 := by omega
                  have hfn := flat_take hlt
                  simp [e17, w64 (n := (i : Int) + 1) (by omega)]
                  exact GH.refl ⟨i + 1, ⟨rfl, by simp [e7], by simp [e15], by simp [e16]; omega, by simp, by omega⟩, by omega⟩
            · simp [hi0]
              refine v_loopX hC (fun (j : Nat) e U => U = T ∧ e 7 = IS true (is_ all) ∧ e 15 = .fsl true 2 (R.map rc) ∧ e 16 = i6 ((flatR (R.take i)).length + j : Nat) ∧ e 17 = i6 i ∧ e 18 = i6 j ∧ j ≤ R[i].2) (fun j => R[i].2 - j) 0 (G.refl ?_) ?_
              · simp [e7, e15, e16, e17]
              · rintro j e U ⟨rfl, e7, e15, e16, e17, e18, hj⟩
                simp [e15, e17, e18, hget]
                refine CondV.dec (fun hjl => ?_) (fun hjg => ?_)
                · have hjl : j < R[i].2 := by omega
                  have hat := flat_at hlt hjl
                  rw [hok.flat] at hat
                  have hft := hftl i
                  have hfn := flat_take hlt
                  obtain ⟨z, hz⟩ : ∃ z, (flatR (R.take i)).length + j = z := ⟨_, rfl⟩
                  rw [hz] at hat e16
                  have hzl : z < all.length := get_lt hat
                  have hat2 : (is_ all)[z]'(by rw [is_len]; exact hzl) = ((R[i].1 + j : Nat) : Int) := by
                    have h1 : all[z] = R[i].1 + j := (List.getElem?_eq_some_iff.1 hat).2
                    simp [is_, h1]
                  have hbi := hRb _ (List.getElem_mem hlt)
                  have c6 : IntKind.i64.wrap ((R[i].1 : Int) + (j : Int)) = (R[i].1 : Int) + (j : Int) := w64 (by omega)
                  have c7 : ¬ (all.length : Int) ≤ (z : Int) := by omega
                  simp [e7, e15, e16, e17, e18]
                  refine v_draw (ord := [0, 1, 2, 3, 4, 5, 6, 7, 8, 9, 10, 11, 12, 13, 14, 15, 16, 17]) (m := 14) (by decide +kernel) (by decide +kernel) ?_
                  simp [e7, e15, e16, e17, e18, is_len, c6, c7, hat2, hget, hzl, w64 (n := (z : Int) + 1) (by omega), w64 (n := (j : Int) + 1) (by omega)]
                  exact GH.refl ⟨j + 1, ⟨rfl, by simp [e7], by simp [e15], by simp; omega, by simp [e17], by simp, by omega⟩, by omega⟩
                · have hje : j = R[i].2 := by omega
                  have hfn := flat_take hlt
                  simp [e17, w64 (n := (i : Int) + 1) (by omega)]
                  exact GH.refl ⟨i + 1, ⟨rfl, by simp [e7], by simp [e15], by simp [e16]; omega, by simp, by omega⟩, by omega⟩
          · have hie : i = R.length := by omega
            subst hie
            have := hok.flat
            simp [e7, e16, this, is_len, Tryd.results15]
            exact GV.refl ⟨rfl, rfl⟩
end Go.Proofs.YtenbclcfhjdcaaaDoor.VM
end
section
set_option maxHeartbeats 8000000
set_option linter.unusedVariables false
set_option linter.unusedSimpArgs false
/- bitmap's law: the chapter's example; nothing. -/
namespace Go.Proofs.YtenbclcfhjdcaaaDoor.VM
open Go Go.Proofs AM
set_option maxRecDepth 100000
def exM : List Bool := [true, true, true, false, false, true, false, false]
theorem ex_new : newM 8 [0, 1, 2, 5] = exM := by decide
theorem ex_runs : runsF (allN exM) = [(0, 3), (5, 1)] := by decide
theorem ex_free : fromV exM 0 false = .tup [i6 3, i6 0] := by
  have : fromM exM 0 false = some 3 := by decide
  unfold fromV; rw [this]; rfl
theorem ex_bytes : bytesM exM = [39] := by decide
theorem setV_app {H X : Hp} {w : Nat} {t : Bool} {m : List Bool} (hm : m.length ≤ 2048) : SetV (H ++ (setO H.length w t m ++ X)) H.length m := (setO_w hm).v
theorem v_known6 : A 10 [] (bo true) := by
  intro H
  refine v_enter hC [] (fun _ _ => kn_none rfl) Tryd.func10 rfl ok10 (Nat.le_of_ble_eq_true rfl) fun hcl hbl => ?_
  simp
  refine AnsS.call (v_New (kk := true) (n := 8) (l := [0, 1, 2, 5]) (by omega) (by omega) (by simp)) fun w t => ?_
  rw [ex_new]
  have hS : ∀ X, SetV (H ++ (setO H.length w t exM ++ X)) H.length exM := fun X => setV_app (by decide)
  have hS0 := hS []
  rw [List.append_nil] at hS0
  have hruns := v_Runs (g := H.length) (m := exM)
  have hfree := v_Free (g := H.length) (m := exM) (no := 0)
  have hbytes := v_Bytes (g := H.length) (m := exM)
  rw [ex_runs] at hruns
  rw [ex_free] at hfree
  rw [ex_bytes] at hbytes
  simp
  refine hruns.call hS0 ?_
  simp
  refine hfree.call hS0 ?_
  have hq1 : eqS Tryd.prog 83 #[.int .i64 0, .int .i64 3] #[.int .i64 0, .int .i64 3] = some true := by kernel_rfl
  have hq2 : eqS Tryd.prog 83 #[.int .i64 5, .int .i64 1] #[.int .i64 5, .int .i64 1] = some true := by kernel_rfl
  simp [hq1, hq2]
  refine hbytes.call hS0 ?_
  simp
  refine (v_Same1 (kk := true) (km := true) (l := [39]) (m := [39]) (by simp)).call ?_
  simp [Tryd.results10]
  first | (refine GV.ans hcl ?_; simp []; done) | (refine GV.ans0 ?_; simp []; done)
theorem flip1_setb (b : Bool) (m : List Bool) (no : Int) : flip1 b m no = if mayM m no = true then m.set no.toNat b else m := by
  unfold flip1
  cases hm : mayM m no with
  | false => simp
  | true =>
    simp only [Bool.true_and, if_true]
    split
    · rfl
    · rename_i hd
      have hlt : no.toNat < m.length := by have := of_decide_eq_true hm; omega
      rw [← getD_lt hlt] at hd
      have hd : m[no.toNat] = b := by simpa using hd
      rw [← hd, List.set_getElem_self]
theorem flip1_get (b : Bool) (m : List Bool) (no : Int) (k : Nat) : (flip1 b m no).getD k false = if k < m.length ∧ (k : Int) = no then b else m.getD k false := by
  rw [flip1_setb]
  by_cases hm : mayM m no = true
  · rw [if_pos hm]
    have hm := of_decide_eq_true hm
    by_cases e : (k : Int) = no
    · subst e
      have hk : k < m.length := by omega
      rw [if_pos ⟨hk, rfl⟩, List.getD_eq_getElem?_getD]
      simp [hk]
    · rw [if_neg (fun h => e h.2), List.getD_eq_getElem?_getD, List.getElem?_set_ne (by omega), ← List.getD_eq_getElem?_getD]
  · rw [if_neg hm, if_neg (fun h => hm (decide_eq_true (by omega)))]
theorem flipM_get (b : Bool) : ∀ (l : List Int) (m : List Bool) (k : Nat), (flipM b m l).getD k false = if k < m.length ∧ (k : Int) ∈ l then b else m.getD k false
  | [], m, k => by simp [flipM]
  | no :: l, m, k => by
    have h1 : flipM b m (no :: l) = flipM b (flip1 b m no) l := rfl
    rw [h1, flipM_get b l, flip1_len, flip1_get]
    by_cases hk : k < m.length
    · by_cases hl : (k : Int) ∈ l
      · simp [hk, hl]
      · by_cases hno : (k : Int) = no
        · simp [hk, hno]
        · simp [hk, hl, hno]
    · simp [hk]
theorem ext_getD {a b : List Bool} (hl : a.length = b.length) (h : ∀ k, k < a.length → a.getD k false = b.getD k false) : a = b := by
  apply List.ext_getElem hl
  intro k h1 h2
  rw [getD_lt h1, getD_lt h2]
  exact h k h1
theorem mem_is {l : List Nat} {k : Nat} : (k : Int) ∈ is_ l ↔ k ∈ l := by
  unfold is_
  rw [List.mem_map]
  constructor
  · rintro ⟨a, ha, e⟩
    have : a = k := by omega
    subst this; exact ha
  · intro h; exact ⟨k, h, rfl⟩
theorem none_left (m : List Bool) : allN (flipM false m (is_ (allN m))) = [] := by
  unfold allN
  rw [List.filter_eq_nil_iff]
  intro k hk
  have hk := List.mem_range.1 hk
  rw [flipM_len] at hk
  rw [flipM_get]
  split
  · simp
  · rename_i h
    intro ht
    exact h ⟨hk, mem_is.2 (mem_allN.2 ⟨hk, ht⟩)⟩
theorem bnd_hi {n L : Nat} (h : n ≤ L) : bounds L L none (some (n : Int)) none = some (0, n, L) := by
  unfold bounds; simp <;> omega
theorem v_Has0 {no : Int} : A 28 [nilP, i6 no] (bo false) := by
  intro H
  refine v_enter hC [] (fun _ _ => kn_none rfl) Tryd.func28 rfl ok28 (Nat.le_of_ble_eq_true rfl) fun hcl hbl => ?_
  simp
  refine v_may0.call ?_
  simp [Tryd.results28]
  first | (refine GV.ans hcl ?_; simp []; done) | (refine GV.ans0 ?_; simp []; done)
theorem v_BitmapNil {kk : Bool} {no : Int} {l : List Int} (hl : l.length < 2 ^ 63) : A 6 [i6 no, IS kk l] (bo true) := by
  intro H
  refine v_enter hC [97,121] (fun _ _ => kn_none rfl) Tryd.func6 rfl ok6 (Nat.le_of_ble_eq_true rfl) fun hcl hbl => ?_
  simp
  refine v_Lowest0.call ?_
  simp
  refine v_Free0.call ?_
  simp
  obtain ⟨z, hz, hzl, hz30⟩ : ∃ z : Nat, (if (30 : Int) < (l.length : Int) then (30 : Int) else (l.length : Int)) = (z : Int) ∧ z ≤ l.length ∧ z ≤ 30 := by
    split
    · exact ⟨30, rfl, by omega, by omega⟩
    · exact ⟨l.length, rfl, by omega, by omega⟩
  simp [hz, bnd_hi hzl]
  obtain ⟨M, hM⟩ : ∃ M, newM 9 (l.take z) = M := ⟨_, rfl⟩
  have hM9 : M.length = 9 := by rw [← hM]; exact newM_len ..
  have hnew := v_New (kk := kk) (n := 9) (l := l.take z) (by omega) (by omega) (by simp; omega)
  rw [hM] at hnew
  have harg : IS kk (l.take z) = .fsl kk 1 (List.take z (List.map ic l)) := by simp
  rw [harg] at hnew
  refine AnsS.call hnew fun w t => ?_
  have hS : ∀ X, SetV (H ++ (setO H.length w t M ++ X)) H.length M := fun X => setV_app (by omega)
  simp
  refine v_known6.call ?_
  simp
  refine v_Has0.call ?_
  simp
  refine v_Count0.call ?_
  simp
  refine v_Size0.call ?_
  simp
  refine v_All0.call ?_
  simp
  refine v_Runs0.call ?_
  simp
  refine v_Bytes0.call ?_
  simp
  refine v_Copy0.call ?_
  simp
  refine (v_Add0 (kk := true) (l := [no]) (by simp)).call ?_
  simp
  refine (v_Drop0 (kk := true) (l := [no]) (by simp)).call ?_
  simp
  have hX : ∀ X, AllV (H ++ (setO H.length w t M ++ X)) (.ptr H.length 0) (is_ (allN M)) := fun X => .inl ⟨_, _, rfl, hS X, rfl⟩
  refine CALLv.at (v_Union0 (x := .ptr H.length 0) (l := is_ (allN M)) (r := true) (t := true) (hX _) rfl (by simp [setO])) fun u T hu => ?_
  obtain ⟨e1, e2⟩ := hu
  subst e1; subst e2
  simp
  refine CALLv.at (v_Common0 (x := .ptr H.length 0) (hX _)) fun u T hu => ?_
  obtain ⟨e1, e2⟩ := hu
  subst e1; subst e2
  simp
  refine CALLv.at (v_Without0 (x := .ptr H.length 0) (hX _)) fun u T hu => ?_
  obtain ⟨e1, e2⟩ := hu
  subst e1; subst e2
  simp
  refine v_SameN.call ?_
  simp
  refine v_SameNP.call ?_
  simp
  refine CALLv.at (v_Union (x := nilP) (l := []) (r := true) (t := true) (hS _) (.inr ⟨rfl, rfl⟩) rfl (by simp [setO])) fun u T hu => ?_
  obtain ⟨w2, t2, e1, e2⟩ := hu
  subst e1; subst e2
  rw [show flipM true M [] = M from rfl]
  have hl2 : (setO H.length w t M).length = 2 := rfl
  simp [hl2]
  refine CALLv.at (v_bSame (ma := M) (mb := M) ⟨by omega, true, H.length + 5, w2, true, t2, by simp [setO], by simp [setO]⟩ (hS _)) fun u T hu => ?_
  obtain ⟨e1, e2⟩ := hu
  subst e1; subst e2
  simp
  refine CALLv.at (v_Common (x := nilP) (l := []) (hS _) (.inr ⟨rfl, rfl⟩)) fun u T hu => ?_
  obtain ⟨w3, t3, e1, e2⟩ := hu
  subst e1; subst e2
  rw [show flipM false M [] = M from rfl]
  have hcnt := none_left M
  obtain ⟨N, hN⟩ : ∃ N, flipM false M (is_ (allN M)) = N := ⟨_, rfl⟩
  rw [hN] at hcnt ⊢
  have hN9 : N.length = 9 := by rw [← hN, flipM_len]; exact hM9
  have hl3 : (setO (H.length + 4) w2 t2 M).length = 2 := rfl
  simp [hl2, hl3]
  have hv := v_Count (g := H.length + 6) (m := N)
  rw [hcnt] at hv
  refine hv.call ⟨by omega, true, H.length + 7, w3, true, t3, by simp [setO], by simp [setO]⟩ ?_
  simp [Tryd.results6]
  exact GV.ans hcl (by simp)
end Go.Proofs.YtenbclcfhjdcaaaDoor.VM
end
section
set_option maxHeartbeats 8000000
set_option linter.unusedVariables false
set_option linter.unusedSimpArgs false
/- bitmap's law: any bytes. -/
namespace Go.Proofs.YtenbclcfhjdcaaaDoor.VM
open Go Go.Proofs AM
set_option maxRecDepth 100000
theorem RdS.callF {q : Bool} {f : FuncId} {g : Nat} {m : List Bool} {xs args : List V} {v : V} {H H0 : Hp} {k : KVV} (h : RdS f g m xs v) (hfz : Frz H H0) (hS : SetV H0 g m) (ha : Ups H0.length [] [] H0 (.ptr g 0 :: xs) args) (hk : k.run v H0) : @CALLv Tryd.prog prims q f args H k := by
  refine ⟨H0, hfz, ?_⟩
  cases q with
  | false => exact VC.up ha ((h H0 hS).mono fun u T ⟨e1, e2⟩ => by subst e2; subst e1; exact hk)
  | true =>
    have hl : (lockV H0).length = H0.length := by simp [lockV]
    refine VC.up (args' := .ptr g 0 :: xs) (by rw [hl]; exact ha.lock) ((h (lockV H0) hS.lock).mono fun u T hu => ?_)
    obtain ⟨e1, e2⟩ := hu
    subst e2; subst e1
    exact ⟨[], by simp, by simp, by simpa using hk⟩
theorem u8_bit {c k : Nat} (hc : c < 256) (hk : k < 8) : bits BinOp.and IntKind.u8 (Int.fdiv (c : Int) (2 ^ k)) 1 = if c.testBit k = true then 1 else 0 := by
  have : ∀ x : Fin 256, ∀ y : Fin 8, bits BinOp.and IntKind.u8 (Int.fdiv ((x : Nat) : Int) (2 ^ (y : Nat))) 1 = if (x : Nat).testBit (y : Nat) = true then 1 else 0 := by decide +kernel
  exact this ⟨c, hc⟩ ⟨k, hk⟩
def mkM (n : Nat) (b : List Int) (i : Nat) : List Bool := List.map (fun k => decide (k < i) && pbit b k) (List.range n)
theorem mkM_len (n : Nat) (b : List Int) (i : Nat) : (mkM n b i).length = n := by simp [mkM]
theorem mkM_zero (n : Nat) (b : List Int) : mkM n b 0 = List.replicate n false := by
  apply List.ext_getElem (by simp [mkM])
  intro k h1 h2
  simp [mkM]
theorem mkM_step (n : Nat) (b : List Int) (i : Nat) : (mkM n b i).set i (pbit b i) = mkM n b (i + 1) := by
  apply List.ext_getElem (by simp [mkM])
  intro k h1 h2
  by_cases e : i = k
  · subst e; simp [mkM]
  · rw [List.getElem_set_ne e]
    have : (k < i) ↔ (k < i + 1) := by omega
    simp [mkM, this]
theorem mkM_end {n : Nat} {b : List Int} {i : Nat} (h : n ≤ i ∨ b.length ≤ i / 8) : mkM n b i = parseM n b := by
  apply List.ext_getElem (by simp [mkM, parseM])
  intro k h1 h2
  have hk : k < n := by simpa [mkM] using h1
  simp only [mkM, parseM, List.getElem_map, List.getElem_range]
  by_cases hki : k < i
  · simp [hki]
  · rcases h with h | h
    · omega
    · simp [hki, pbit_out (b := b) (k := k) (by omega)]
theorem v_BitmapParses {kk : Bool} {size : Int} {b : List Int} (hl : b.length < 2 ^ 63) (hb : ∀ x ∈ b, 0 ≤ x ∧ x ≤ 255) : A 4 [i6 size, BS kk b] (bo true) := by
  intro H
  refine v_enter hC [] (fun _ _ => kn_none rfl) Tryd.func4 rfl ok4 (Nat.le_of_ble_eq_true rfl) fun hcl hbl => ?_
  obtain ⟨z, hz, hzl, hz40⟩ : ∃ z : Nat, (if (40 : Int) < (b.length : Int) then (40 : Int) else (b.length : Int)) = (z : Int) ∧ z ≤ b.length ∧ z ≤ 40 := by
    split
    · exact ⟨40, rfl, by omega, by omega⟩
    · exact ⟨b.length, rfl, by omega, by omega⟩
  simp [hz, bnd_hi hzl]
  have hBS : ∀ c : List Int, .fsl kk 1 (List.map bc c) = BS kk c := fun _ => rfl
  rw [← List.map_take, hBS]
  have hb' : ∀ x ∈ b.take z, 0 ≤ x ∧ x ≤ 255 := fun x hx => hb x (List.mem_of_mem_take hx)
  have hl' : (b.take z).length ≤ 40 := by simp; omega
  generalize b.take z = d at *
  by_cases hrange : size < 1 ∨ 2048 < size
  · refine (v_Parse0 (kk := kk) (b := d) hrange).call ?_
    simp
    by_cases hs1 : size < 1
    · simp [hs1]
      refine v_known6.call ?_
      simp [Tryd.results4]
      first | (refine GV.ans hcl ?_; simp []; done) | (refine GV.ans0 ?_; simp []; done)
    · have hs2 : 2048 < size := by omega
      simp [hs1, hs2]
      refine v_known6.call ?_
      simp [Tryd.results4]
      first | (refine GV.ans hcl ?_; simp []; done) | (refine GV.ans0 ?_; simp []; done)
  · obtain ⟨n, rfl⟩ : ∃ n : Nat, size = (n : Int) := ⟨size.toNat, by omega⟩
    have n1 : ¬ (n : Int) < 1 := by omega
    have n2 : ¬ 2048 < (n : Int) := by omega
    refine CALLv.at (v_Parse (kk := kk) (n := n) (b := d) (by omega) (by omega) hb' (by omega)) fun u T hu => ?_
    have hpi := parse_iff (n := n) hb'
    have hpl : (parseM n d).length = n := parseM_len ..
    have hpure : PureR ((parseM n d).map bb) := PureR_map.2 fun b _ => rfl
    obtain ⟨X, sv, ec, e1, e2, hcase⟩ : ∃ (X : Hp) (sv : V) (ec : Int), u = .tup [sv, i6 ec] ∧ T = H ++ X ∧ ((¬ bytesM (parseM n d) = d ∧ ec = 3 ∧ sv = nilP) ∨ (bytesM (parseM n d) = d ∧ ec = 0 ∧ sv = .ptr H.length 0 ∧ ∀ Y, SetV (H ++ (X ++ Y)) H.length (parseM n d))) := by
      rcases hu with ⟨hno, e1, e2⟩ | ⟨hyes, w, t, e1, e2⟩
      · exact ⟨[], nilP, 3, e1, by rw [e2]; simp, .inl ⟨fun h => hno (hpi.1 h), rfl, rfl⟩⟩
      · exact ⟨_, _, 0, e1, e2, .inr ⟨hpi.2 hyes, rfl, rfl, fun Y => setV_app (by omega)⟩⟩
    subst e1; subst e2
    simp [n1, n2, w64 (n := (n : Int)) (by omega)]
    refine ⟨by omega, ?_⟩
    refine v_loopX hC (fun (i : Nat) e T => T = H ++ (X ++ [.vec 0 ((mkM n d i).map bb) 1 true true]) ∧ e 0 = i6 n ∧ e 1 = BS kk d ∧ e 5 = sv ∧ e 6 = i6 ec ∧ e 7 = .own (H ++ X).length 0 ∧ e 8 = i6 i ∧ i ≤ n) (fun i => n - i) 0 (G.refl ?_) ?_
    · simp [mkM_zero]
    · rintro i e T ⟨rfl, e0, e1, e5, e6, e7, e8, hi⟩
      have d0 : IntKind.i64.wrap ((i : Int) / 8) = (i : Int) / 8 := w64 (by omega)
      have d0' : ((i : Int)).tdiv 8 = (i : Int) / 8 := Int.tdiv_eq_ediv_of_nonneg (by omega)
      simp [e0, e1, e8]
      by_cases hin : i < n
      · by_cases hib : i / 8 < d.length
        · have hib' : (i : Int) / 8 < (d.length : Int) := by omega
          have d1 : IntKind.i64.wrap ((i : Int) / 8) = (i : Int) / 8 := w64 (by omega)
          have d2 : ((i : Int)).tmod 8 = (i : Int) % 8 := Int.tmod_eq_emod_of_nonneg (by omega)
          have d3 : ¬ (i : Int) % 8 < 0 := by omega
          have d4 : (0 : Int) ≤ (i : Int) / 8 := by omega
          have d5 : ((i : Int) / 8).toNat = i / 8 := by omega
          have d6 : min ((i : Int) % 8).toNat IntKind.u8.bits = i % 8 := by simp [IntKind.bits]; omega
          have hc := hb' _ (List.getElem_mem hib)
          obtain ⟨c, hcv⟩ : ∃ c : Nat, d[i / 8] = (c : Int) := ⟨d[i / 8].toNat, by omega⟩
          have d7 := u8_bit (c := c) (k := i % 8) (by omega) (by omega)
          have hpb : pbit d i = c.testBit (i % 8) := by
            unfold pbit
            rw [List.getD_eq_getElem?_getD, getL hib, hcv]
            rfl
          have hst := mkM_step n d i
          have hml : i < (mkM n d i).length := by rw [mkM_len]; exact hin
          have hrow : ((mkM n d i).map bb).set i [.lit (.bool (pbit d i))] = (mkM n d (i + 1)).map bb := by rw [← hst, List.map_set]; rfl
          simp [hin, hib', e0, e1, e7, e8, d1, d2, d3, d4, d5, d6, d7, getL hib, hcv, hml, w64 (n := (i : Int) + 1) (by omega)]
          refine GH.refl ⟨i + 1, ⟨?_, by simp [e0], by simp [e1], by simp [e5], by simp [e6], by simp [e7], by simp, by omega⟩, by omega⟩
          rw [hpb] at hrow
          simp [hrow]
        · have hib' : ¬ (i : Int) / 8 < (d.length : Int) := by omega
          have hme : mkM n d i = parseM n d := mkM_end (.inr (by omega))
          rw [hme]
          simp [hin, hib', e1, e7, e8, d0, d0']
          refine (v_rBytes6 (kk := true) (m := parseM n d) (by omega)).callF [BL true (parseM n d)] (Frz.vec (g := (H ++ X).length) (w := 0) (s := 1) (rows := (parseM n d).map bb) (rw := true) (t := true) (by simp) hpure) (by simp [hpure]) ?_
          simp [e1]
          refine (v_Same1 (kk := true) (km := kk) (l := bytesM (parseM n d)) (m := d) (by rw [bytesM_len]; omega)).call ?_
          rcases hcase with ⟨hne, hec, hsv⟩ | ⟨heq, hec, hsv, hS⟩
          · simp [hne]
            refine v_known6.call ?_
            simp [e5, e6, hec, hsv, Tryd.results4]
            exact GV.ans hcl (by simp)
          · simp [heq]
            refine v_known6.call ?_
            simp [e5, e6, e7, hec, hsv]
            refine (v_tells (g := H.length) (m := parseM n d) (kk := true) (no := 0) (by omega)).callF .refl (hS _) (by simp [hpure]) ?_
            simp [Tryd.results4]
            exact GV.ans hcl (by simp)
      · have hme : mkM n d i = parseM n d := mkM_end (.inl (by omega))
        rw [hme]
        simp [hin, e7]
        refine (v_rBytes6 (kk := true) (m := parseM n d) (by omega)).callF [BL true (parseM n d)] (Frz.vec (g := (H ++ X).length) (w := 0) (s := 1) (rows := (parseM n d).map bb) (rw := true) (t := true) (by simp) hpure) (by simp [hpure]) ?_
        simp [e1]
        refine (v_Same1 (kk := true) (km := kk) (l := bytesM (parseM n d)) (m := d) (by rw [bytesM_len]; omega)).call ?_
        rcases hcase with ⟨hne, hec, hsv⟩ | ⟨heq, hec, hsv, hS⟩
        · simp [hne]
          refine v_known6.call ?_
          simp [e5, e6, hec, hsv, Tryd.results4]
          exact GV.ans hcl (by simp)
        · simp [heq]
          refine v_known6.call ?_
          simp [e5, e6, e7, hec, hsv]
          refine (v_tells (g := H.length) (m := parseM n d) (kk := true) (no := 0) (by omega)).callF .refl (hS _) (by simp [hpure]) ?_
          simp [Tryd.results4]
          exact GV.ans hcl (by simp)
end Go.Proofs.YtenbclcfhjdcaaaDoor.VM
end
section
set_option maxHeartbeats 8000000
set_option linter.unusedVariables false
set_option linter.unusedSimpArgs false
/- bitmap's law: sets of sets. -/
namespace Go.Proofs.YtenbclcfhjdcaaaDoor.VM
open Go Go.Proofs AM
set_option maxRecDepth 100000
def genM (f : Nat → Bool) (n i : Nat) : List Bool := List.map (fun k => decide (k < i) && f k) (List.range n)
theorem genM_len (f : Nat → Bool) (n i : Nat) : (genM f n i).length = n := by simp [genM]
theorem genM_zero (f : Nat → Bool) (n : Nat) : genM f n 0 = List.replicate n false := by
  apply List.ext_getElem (by simp [genM])
  intro k h1 h2
  simp [genM]
theorem genM_step (f : Nat → Bool) (n i : Nat) : (genM f n i).set i (f i) = genM f n (i + 1) := by
  apply List.ext_getElem (by simp [genM])
  intro k h1 h2
  by_cases e : i = k
  · subst e; simp [genM]
  · rw [List.getElem_set_ne e]
    have : (k < i) ↔ (k < i + 1) := by omega
    simp [genM, this]
theorem genM_end {f : Nat → Bool} {n : Nat} {m : List Bool} (hl : m.length = n) (h : ∀ k, k < n → m.getD k false = f k) : genM f n n = m := by
  apply ext_getD (by rw [genM_len, hl])
  intro k hk
  rw [genM_len] at hk
  unfold genM
  rw [range_getD, h k hk]
  simp [hk]
theorem genM_row (f : Nat → Bool) (n i : Nat) : ((genM f n i).map bb).set i [.lit (.bool (f i))] = (genM f n (i + 1)).map bb := by rw [← genM_step, List.map_set]; rfl
theorem cut30 {l : List Int} : ∃ z : Nat, (if (30 : Int) < (l.length : Int) then (30 : Int) else (l.length : Int)) = (z : Int) ∧ z ≤ l.length ∧ z ≤ 30 := by
  split
  · exact ⟨30, rfl, by omega, by omega⟩
  · exact ⟨l.length, rfl, by omega, by omega⟩
theorem size200 (x : Int) : ∃ n : Nat, 1 ≤ n ∧ n ≤ 200 ∧ IntKind.i64.wrap (1 + IntKind.i64.wrap (Int.tmod (IntKind.u64.wrap x) 200)) = (n : Int) := by
  have h0 : 0 ≤ IntKind.u64.wrap x := by simp [IntKind.wrap, IntKind.bits, IntKind.signed]; omega
  have h1 : Int.tmod (IntKind.u64.wrap x) 200 = IntKind.u64.wrap x % 200 := Int.tmod_eq_emod_of_nonneg h0
  rw [h1]
  refine ⟨(1 + IntKind.u64.wrap x % 200).toNat, by omega, by omega, ?_⟩
  rw [w64 (n := IntKind.u64.wrap x % 200) (by omega), w64 (by omega)]
  omega
theorem is_inj {a b : List Nat} (h : is_ a = is_ b) : a = b := (List.map_inj_right (fun x y h => by omega)).1 h
theorem Frz.mid {A B : Hp} {w s : Nat} {rows : List (List V)} {rw t : Bool} (hp : PureR rows) : Frz (A ++ .vec w rows s rw t :: B) (A ++ .fro w rows s :: B) := by
  have := Frz.vec (H := A ++ .vec w rows s rw t :: B) (g := A.length) (w := w) (s := s) (rows := rows) (rw := rw) (t := t) (by simp) hp
  simpa using this
theorem pure_bb (m : List Bool) : PureR (m.map bb) := PureR_map.2 fun b _ => rfl
theorem frz5 {A B : Hp} {w1 w2 w3 w4 w5 : Nat} {m1 m2 m3 m4 m5 : List Bool} {t1 t2 t3 t4 t5 : Bool} :
    Frz (A ++ .vec w1 (m1.map bb) 1 true t1 :: .vec w2 (m2.map bb) 1 true t2 :: .vec w3 (m3.map bb) 1 true t3 :: .vec w4 (m4.map bb) 1 true t4 :: .vec w5 (m5.map bb) 1 true t5 :: B)
      (A ++ .fro w1 (m1.map bb) 1 :: .fro w2 (m2.map bb) 1 :: .fro w3 (m3.map bb) 1 :: .fro w4 (m4.map bb) 1 :: .fro w5 (m5.map bb) 1 :: B) := by
  have f1 := Frz.mid (A := A) (B := .vec w2 (m2.map bb) 1 true t2 :: .vec w3 (m3.map bb) 1 true t3 :: .vec w4 (m4.map bb) 1 true t4 :: .vec w5 (m5.map bb) 1 true t5 :: B) (w := w1) (s := 1) (rw := true) (t := t1) (pure_bb m1)
  have f2 := Frz.mid (A := A ++ [.fro w1 (m1.map bb) 1]) (B := .vec w3 (m3.map bb) 1 true t3 :: .vec w4 (m4.map bb) 1 true t4 :: .vec w5 (m5.map bb) 1 true t5 :: B) (w := w2) (s := 1) (rw := true) (t := t2) (pure_bb m2)
  have f3 := Frz.mid (A := A ++ [.fro w1 (m1.map bb) 1, .fro w2 (m2.map bb) 1]) (B := .vec w4 (m4.map bb) 1 true t4 :: .vec w5 (m5.map bb) 1 true t5 :: B) (w := w3) (s := 1) (rw := true) (t := t3) (pure_bb m3)
  have f4 := Frz.mid (A := A ++ [.fro w1 (m1.map bb) 1, .fro w2 (m2.map bb) 1, .fro w3 (m3.map bb) 1]) (B := .vec w5 (m5.map bb) 1 true t5 :: B) (w := w4) (s := 1) (rw := true) (t := t4) (pure_bb m4)
  have f5 := Frz.mid (A := A ++ [.fro w1 (m1.map bb) 1, .fro w2 (m2.map bb) 1, .fro w3 (m3.map bb) 1, .fro w4 (m4.map bb) 1]) (B := B) (w := w5) (s := 1) (rw := true) (t := t5) (pure_bb m5)
  simp only [List.append_assoc, List.cons_append, List.nil_append] at f2 f3 f4 f5
  exact (((f1.trans f2).trans f3).trans f4).trans f5
theorem union_get (M W : List Bool) (k : Nat) (hk : k < M.length) : (flipM true M (is_ (allN W))).getD k false = (M.getD k false || (decide (k < W.length) && W.getD k false)) := by
  have hm : ((k : Int) ∈ is_ (allN W)) ↔ (k < W.length ∧ W.getD k false = true) := mem_is.trans mem_allN
  rw [flipM_get]
  simp only [hm]
  by_cases h1 : k < W.length <;> cases h2 : W.getD k false <;> simp [hk, h1]
theorem without_get (M W : List Bool) (k : Nat) (hk : k < M.length) : (flipM false M (is_ (allN W))).getD k false = (M.getD k false && !(decide (k < W.length) && W.getD k false)) := by
  have hm : ((k : Int) ∈ is_ (allN W)) ↔ (k < W.length ∧ W.getD k false = true) := mem_is.trans mem_allN
  rw [flipM_get]
  simp only [hm]
  by_cases h1 : k < W.length <;> cases h2 : W.getD k false <;> simp [hk, h1]
theorem common_get (M W : List Bool) (k : Nat) (hk : k < M.length) : (flipM false M (is_ (allN (flipM false M (is_ (allN W)))))).getD k false = (M.getD k false && (decide (k < W.length) && W.getD k false)) := by
  rw [without_get _ _ k hk, without_get M W k hk, flipM_len]
  cases M.getD k false <;> cases (decide (k < W.length) && W.getD k false) <;> simp [hk]
theorem v_BitmapSets {k1 k2 : Bool} {size other no : Int} {a b : List Int} (ha : a.length < 2 ^ 63) (hb : b.length < 2 ^ 63) : A 5 [i6 size, i6 other, IS k1 a, IS k2 b, i6 no] (bo true) := by
  intro H
  obtain ⟨n, hn1, hn2, hn⟩ := size200 size
  obtain ⟨o, ho1, ho2, ho⟩ := size200 other
  obtain ⟨z1, hz1, hzl1, hz301⟩ := cut30 (l := a)
  obtain ⟨z2, hz2, hzl2, hz302⟩ := cut30 (l := b)
  refine v_enter hC [124] (fun _ _ => kn_none rfl) Tryd.func5 rfl ok5 (Nat.le_of_ble_eq_true rfl) fun hcl hbl => ?_
  simp [hn, ho]
  refine v_draw (ord := [0, 1, 2, 3, 4, 5, 6, 7, 8, 9, 10, 11]) (m := 0) (by decide +kernel) (by decide +kernel) ?_
  simp [hz1, hz2, bnd_hi hzl1, bnd_hi hzl2]
  obtain ⟨c, hc⟩ : ∃ c, a.take z1 = c := ⟨_, rfl⟩
  obtain ⟨d, hd⟩ : ∃ d, b.take z2 = d := ⟨_, rfl⟩
  have hcl30 : c.length ≤ 30 := by rw [← hc]; simp; omega
  have hdl30 : d.length ≤ 30 := by rw [← hd]; simp; omega
  have hIS : ∀ (kk : Bool) (l : List Int), .fsl kk 1 (List.map ic l) = IS kk l := fun _ _ => rfl
  rw [← List.map_take, hc, hIS]
  obtain ⟨M, hM⟩ : ∃ M, newM n c = M := ⟨_, rfl⟩
  obtain ⟨W, hW⟩ : ∃ W, newM o d = W := ⟨_, rfl⟩
  have hMl : M.length = n := by rw [← hM]; exact newM_len ..
  have hWl : W.length = o := by rw [← hW]; exact newM_len ..
  have hnM := v_New (kk := k1) (n := n) (l := c) hn1 (by omega) (by omega)
  have hnW := v_New (kk := k2) (n := o) (l := d) ho1 (by omega) (by omega)
  have hrM := v_rNew (kk := k1) (n := n) (l := c) (by omega) (by omega)
  have hrW := v_rNew (kk := k2) (n := o) (l := d) (by omega) (by omega)
  rw [hM] at hnM hrM
  rw [hW] at hnW hrW
  refine AnsS.call hnM fun w t => ?_
  simp
  rw [← List.map_take, hd, hIS]
  refine AnsS.call hnW fun w2 t2 => ?_
  obtain ⟨X, hX⟩ : ∃ X, setO H.length w t M ++ setO (H.length + 2) w2 t2 W = X := ⟨_, rfl⟩
  have hXl : X.length = 4 := by rw [← hX]; rfl
  have hSM : ∀ Y, SetV (H ++ (X ++ Y)) H.length M := fun Y => by
    rw [← hX, List.append_assoc]
    exact setV_app (by omega)
  have hSW : ∀ Y, SetV (H ++ (X ++ Y)) (H.length + 2) W := fun Y => by
    rw [← hX]
    exact ⟨by omega, true, H.length + 3, w2, true, t2, by simp [setO], by simp [setO]⟩
  have hlen2 : (H ++ setO H.length w t M).length = H.length + 2 := by simp [setO]
  rw [hlen2, List.append_assoc, hX]
  simp
  rw [hIS]
  refine hrM.call fun wM tM => ?_
  simp
  rw [hIS]
  refine hrW.call fun wW tW => ?_
  simp
  refine v_draw (ord := [0, 1, 2, 3, 4, 5, 6, 7, 8]) (m := 6) (by decide +kernel) (by decide +kernel) ?_
  simp [w64 (n := (n : Int)) (by omega)]
  refine ⟨by omega, ?_⟩
  have gA : ∀ (j : Nat) (Y : Hp), (H ++ (X ++ Y))[H.length + (4 + j)]? = Y[j]? := fun j Y => by
    rw [← List.append_assoc, List.getElem?_append_right (by simp only [List.length_append]; omega)]
    congr 1
    simp only [List.length_append]
    omega
  have sA : ∀ (j : Nat) (Y : Hp) (y : Ob), (H ++ (X ++ Y)).set (H.length + (4 + j)) y = H ++ (X ++ Y.set j y) := fun j Y y => by
    rw [List.set_append_right _ _ (by omega), List.set_append_right _ _ (by omega)]
    congr 3
    omega
  have g4 := gA 0
  have g5 := gA 1
  have g6 := gA 2
  have g7 := gA 3
  have g8 := gA 4
  have s6 := sA 2
  have s7 := sA 3
  have s8 := sA 4
  simp only [Nat.reduceAdd] at g4 g5 g6 g7 g8 s6 s7 s8
  obtain ⟨fU, hfU⟩ : ∃ f : Nat → Bool, ∀ k, f k = (M.getD k false || (decide (k < o) && W.getD k false)) := ⟨_, fun _ => rfl⟩
  obtain ⟨fC, hfC⟩ : ∃ f : Nat → Bool, ∀ k, f k = (M.getD k false && (decide (k < o) && W.getD k false)) := ⟨_, fun _ => rfl⟩
  obtain ⟨fD, hfD⟩ : ∃ f : Nat → Bool, ∀ k, f k = (M.getD k false && !(decide (k < o) && W.getD k false)) := ⟨_, fun _ => rfl⟩
  obtain ⟨inn, hinn⟩ : ∃ f : Nat → Bool, f = fun k => decide (k < o) && W.getD k false := ⟨_, rfl⟩
  refine v_loopX hC (fun (i : Nat) e T => T = H ++ (X ++ [.vec wM (M.map bb) 1 true tM, .vec wW (W.map bb) 1 true tW, .vec 0 ((genM fU n i).map bb) 1 true true, .vec 0 ((genM fC n i).map bb) 1 true true, .vec 0 ((genM fD n i).map bb) 1 true true]) ∧
    e 0 = i6 n ∧ e 1 = i6 o ∧ e 4 = i6 no ∧ e 11 = .ptr H.length 0 ∧ e 13 = .ptr (H.length + 2) 0 ∧ e 15 = .own (H.length + 4) wM ∧ e 16 = .own (H.length + 5) wW ∧ e 17 = .own (H.length + 6) 0 ∧ e 18 = .own (H.length + 7) 0 ∧ e 19 = .own (H.length + 8) 0 ∧ e 20 = i6 i ∧ i ≤ n) (fun i => n - i) 0 (G.refl ?_) ?_
  · simp [genM_zero, hXl]
  · rintro i e T ⟨rfl, e0, e1, e4, e11, e13, e15, e16, e17, e18, e19, e20, hi⟩
    simp [e0, e20]
    refine CondV.dec (fun hlt => ?_) (fun hge => ?_)
    · have hlt : i < n := by omega
      have hiM : i < M.length := by omega
      have hMi : M.getD i false = M[i] := (getD_lt hiM).symm
      have hU := genM_row fU n i
      have hC := genM_row fC n i
      have hD := genM_row fD n i
      have l1 : i < (genM fU n i).length := by rw [genM_len]; exact hlt
      have l2 : i < (genM fC n i).length := by rw [genM_len]; exact hlt
      have l3 : i < (genM fD n i).length := by rw [genM_len]; exact hlt
      rw [hfU, hMi] at hU
      rw [hfC, hMi] at hC
      rw [hfD, hMi] at hD
      have hqq : (decide (i < o) && W.getD i false) = inn i := by rw [hinn]
      rw [hqq] at hU hC hD
      by_cases hio : i < o
      · have hiW : i < W.length := by omega
        have hWi : W.getD i false = W[i] := (getD_lt hiW).symm
        have m1 : IntKind.i64.wrap ((o : Int) - 1) = (o : Int) - 1 := w64 (by omega)
        have m2 : ¬ (o : Int) - 1 < (i : Int) := by omega
        cases hwv : W[i] with
        | false =>
          have hq : inn i = false := by rw [hinn]; simp only [hWi, hwv, hio]; rfl
          simp [e1, e16, e20, hio, m1, m2, ↓g5, hiW, hwv]
          refine v_draw (ord := [0, 1, 2, 3, 4, 5, 6, 7, 8, 9, 10, 11, 12, 13, 14, 15, 16, 17, 18, 19, 20, 21, 22, 23, 24, 25, 26, 27, 28, 29, 30, 31, 32, 33]) (m := 24) (by decide +kernel) (by decide +kernel) ?_
          rw [hq] at hU hC hD
          cases hmv : M[i] with
          | false =>
            rw [hmv] at hU hC hD
            simp only [Bool.false_or, Bool.true_or, Bool.or_false, Bool.or_true, Bool.and_false, Bool.false_and, Bool.true_and, Bool.and_true, Bool.not_false, Bool.not_true] at hU hC hD
            simp [e15, e17, e18, e19, e20, ↓g4, ↓g6, ↓g7, ↓g8, hiM, hmv, l1, l2, l3, ↓s6, ↓s7, ↓s8, w64 (n := (i : Int) + 1) (by omega)]
            refine GH.refl ⟨i + 1, ⟨by simp [hU, hC, hD], by simp [e0], by simp [e1], by simp [e4], by simp [e11], by simp [e13], by simp [e15], by simp [e16], by simp [e17], by simp [e18], by simp [e19], by simp, by omega⟩, by omega⟩
          | true =>
            rw [hmv] at hU hC hD
            simp only [Bool.false_or, Bool.true_or, Bool.or_false, Bool.or_true, Bool.and_false, Bool.false_and, Bool.true_and, Bool.and_true, Bool.not_false, Bool.not_true] at hU hC hD
            simp [e15, e17, e18, e19, e20, ↓g4, ↓g6, ↓g7, ↓g8, hiM, hmv, l1, l2, l3, ↓s6, ↓s7, ↓s8, w64 (n := (i : Int) + 1) (by omega)]
            refine GH.refl ⟨i + 1, ⟨by simp [hU, hC, hD], by simp [e0], by simp [e1], by simp [e4], by simp [e11], by simp [e13], by simp [e15], by simp [e16], by simp [e17], by simp [e18], by simp [e19], by simp, by omega⟩, by omega⟩
        | true =>
          have hq : inn i = true := by rw [hinn]; simp only [hWi, hwv, hio]; rfl
          simp [e1, e16, e20, hio, m1, m2, ↓g5, hiW, hwv]
          refine v_draw (ord := [0, 1, 2, 3, 4, 5, 6, 7, 8, 9, 10, 11, 12, 13, 14, 15, 16, 17, 18, 19, 20, 21, 22, 23, 24, 25, 26, 27, 28, 29, 30, 31, 32, 33]) (m := 24) (by decide +kernel) (by decide +kernel) ?_
          rw [hq] at hU hC hD
          cases hmv : M[i] with
          | false =>
            rw [hmv] at hU hC hD
            simp only [Bool.false_or, Bool.true_or, Bool.or_false, Bool.or_true, Bool.and_false, Bool.false_and, Bool.true_and, Bool.and_true, Bool.not_false, Bool.not_true] at hU hC hD
            simp [e15, e17, e18, e19, e20, ↓g4, ↓g6, ↓g7, ↓g8, hiM, hmv, l1, l2, l3, ↓s6, ↓s7, ↓s8, w64 (n := (i : Int) + 1) (by omega)]
            refine GH.refl ⟨i + 1, ⟨by simp [hU, hC, hD], by simp [e0], by simp [e1], by simp [e4], by simp [e11], by simp [e13], by simp [e15], by simp [e16], by simp [e17], by simp [e18], by simp [e19], by simp, by omega⟩, by omega⟩
          | true =>
            rw [hmv] at hU hC hD
            simp only [Bool.false_or, Bool.true_or, Bool.or_false, Bool.or_true, Bool.and_false, Bool.false_and, Bool.true_and, Bool.and_true, Bool.not_false, Bool.not_true] at hU hC hD
            simp [e15, e17, e18, e19, e20, ↓g4, ↓g6, ↓g7, ↓g8, hiM, hmv, l1, l2, l3, ↓s6, ↓s7, ↓s8, w64 (n := (i : Int) + 1) (by omega)]
            refine GH.refl ⟨i + 1, ⟨by simp [hU, hC, hD], by simp [e0], by simp [e1], by simp [e4], by simp [e11], by simp [e13], by simp [e15], by simp [e16], by simp [e17], by simp [e18], by simp [e19], by simp, by omega⟩, by omega⟩
      · have hq : inn i = false := by rw [hinn]; simp [hio]
        simp [e1, e16, e20, hio]
        refine v_draw (ord := [0, 1, 2, 3, 4, 5, 6, 7, 8, 9, 10, 11, 12, 13, 14, 15, 16, 17, 18, 19, 20, 21, 22, 23, 24, 25, 26, 27, 28, 29, 30, 31, 32, 33]) (m := 24) (by decide +kernel) (by decide +kernel) ?_
        rw [hq] at hU hC hD
        cases hmv : M[i] with
        | false =>
          rw [hmv] at hU hC hD
          simp only [Bool.false_or, Bool.true_or, Bool.or_false, Bool.or_true, Bool.and_false, Bool.false_and, Bool.true_and, Bool.and_true, Bool.not_false, Bool.not_true] at hU hC hD
          simp [e15, e17, e18, e19, e20, ↓g4, ↓g6, ↓g7, ↓g8, hiM, hmv, l1, l2, l3, ↓s6, ↓s7, ↓s8, w64 (n := (i : Int) + 1) (by omega)]
          refine GH.refl ⟨i + 1, ⟨by simp [hU, hC, hD], by simp [e0], by simp [e1], by simp [e4], by simp [e11], by simp [e13], by simp [e15], by simp [e16], by simp [e17], by simp [e18], by simp [e19], by simp, by omega⟩, by omega⟩
        | true =>
          rw [hmv] at hU hC hD
          simp only [Bool.false_or, Bool.true_or, Bool.or_false, Bool.or_true, Bool.and_false, Bool.false_and, Bool.true_and, Bool.and_true, Bool.not_false, Bool.not_true] at hU hC hD
          simp [e15, e17, e18, e19, e20, ↓g4, ↓g6, ↓g7, ↓g8, hiM, hmv, l1, l2, l3, ↓s6, ↓s7, ↓s8, w64 (n := (i : Int) + 1) (by omega)]
          refine GH.refl ⟨i + 1, ⟨by simp [hU, hC, hD], by simp [e0], by simp [e1], by simp [e4], by simp [e11], by simp [e13], by simp [e15], by simp [e16], by simp [e17], by simp [e18], by simp [e19], by simp, by omega⟩, by omega⟩
    · have hie : i = n := by omega
      subst hie
      have hUe : genM fU i i = flipM true M (is_ (allN W)) := genM_end (by rw [flipM_len]; exact hMl) fun k hk => by rw [hfU, union_get M W k (by omega), hWl]
      have hDe : genM fD i i = flipM false M (is_ (allN W)) := genM_end (by rw [flipM_len]; exact hMl) fun k hk => by rw [hfD, without_get M W k (by omega), hWl]
      have hCe : genM fC i i = flipM false M (is_ (allN (flipM false M (is_ (allN W))))) := genM_end (by rw [flipM_len]; exact hMl) fun k hk => by rw [hfC, common_get M W k (by omega), hWl]
      rw [hUe, hDe, hCe]
      simp
      refine v_known6.call ?_
      simp [e11, e13, hXl]
      obtain ⟨UM, hUM⟩ : ∃ m, flipM true M (is_ (allN W)) = m := ⟨_, rfl⟩
      obtain ⟨CM, hCM⟩ : ∃ m, flipM false M (is_ (allN (flipM false M (is_ (allN W))))) = m := ⟨_, rfl⟩
      obtain ⟨DM, hDM⟩ : ∃ m, flipM false M (is_ (allN W)) = m := ⟨_, rfl⟩
      have hUl : UM.length = i := by rw [← hUM, flipM_len]; exact hMl
      have hCl : CM.length = i := by rw [← hCM, flipM_len]; exact hMl
      have hDl : DM.length = i := by rw [← hDM, flipM_len]; exact hMl
      rw [hUM, hCM, hDM]
      have g9 := gA 5
      simp only [Nat.reduceAdd] at g9
      have hun := v_Union (x := .ptr (H.length + 2) 0) (l := is_ (allN W)) (H := H ++ (X ++ [.vec wM (M.map bb) 1 true tM, .vec wW (W.map bb) 1 true tW, .vec 0 (UM.map bb) 1 true true, .vec 0 (CM.map bb) 1 true true, .vec 0 (DM.map bb) 1 true true, .vec 0 [[.ptr (H.length + 2) 0]] 1 true true])) (gl := H.length + 9) (wl := 0) (r := true) (t := true) (hSM _) (.inl ⟨_, _, rfl, hSW _, rfl⟩) rfl (by rw [g9]; rfl)
      rw [hUM] at hun
      refine CALLv.at hun fun u T hu => ?_
      obtain ⟨w3, t3, q1, q2⟩ := hu
      subst q1; subst q2
      have hTc : ∀ (c : Nat) (l : Hp), l.length = c → (H ++ (X ++ l)).length = H.length + (4 + c) := fun c l hl => by simp [hl, hXl]
      have hSet : ∀ (c : Nat) (l Z : Hp) (w : Nat) (t : Bool) (m : List Bool), l.length = c → m.length ≤ 2048 → SetV (H ++ (X ++ (l ++ (setO (H.length + (4 + c)) w t m ++ Z)))) (H.length + (4 + c)) m := fun c l Z w t m hl hm => by
        have := setV_app (H := H ++ (X ++ l)) (X := Z) (w := w) (t := t) hm
        rw [hTc c l hl] at this
        simpa using this
      rw [hTc 6 _ rfl, List.append_assoc, List.append_assoc]
      simp [e17, e4]
      refine (v_tells (g := H.length + 10) (m := UM) (kk := true) (no := no) (by omega)).callF (H0 := H ++ (X ++ .fro wM (M.map bb) 1 :: .fro wW (W.map bb) 1 :: .fro 0 (UM.map bb) 1 :: .fro 0 (CM.map bb) 1 :: .fro 0 (DM.map bb) 1 :: .vec 0 [[.ptr (H.length + 2) 0]] 1 true true :: setO (H.length + 10) w3 t3 UM))
        (by
          have := frz5 (A := H ++ X) (B := .vec 0 [[.ptr (H.length + 2) 0]] 1 true true :: setO (H.length + 10) w3 t3 UM) (w1 := wM) (w2 := wW) (w3 := 0) (w4 := 0) (w5 := 0) (m1 := M) (m2 := W) (m3 := UM) (m4 := CM) (m5 := DM) (t1 := tM) (t2 := tW) (t3 := true) (t4 := true) (t5 := true)
          simpa using this)
        (by simpa using hSet 6 [.fro wM (M.map bb) 1, .fro wW (W.map bb) 1, .fro 0 (UM.map bb) 1, .fro 0 (CM.map bb) 1, .fro 0 (DM.map bb) 1, .vec 0 [[.ptr (H.length + 2) 0]] 1 true true] [] w3 t3 UM rfl (by omega))
        (by simp [↓g6, hXl, setO, pure_bb]) ?_
      simp [e11, e13]
      refine CALLv.at (v_Common (hSM _) (.inl ⟨_, _, rfl, hSW _, rfl⟩)) fun u T hu => ?_
      obtain ⟨w4, t4, q1, q2⟩ := hu
      subst q1; subst q2
      rw [hDM] at hCM
      rw [hDM, hCM, hTc 8 _ rfl, List.append_assoc, List.append_assoc]
      simp [e18, e4]
      refine (v_tells (g := H.length + 12) (m := CM) (kk := true) (no := no) (by omega)).callF .refl
        (by simpa [setO] using hSet 8 (.fro wM (M.map bb) 1 :: .fro wW (W.map bb) 1 :: .fro 0 (UM.map bb) 1 :: .fro 0 (CM.map bb) 1 :: .fro 0 (DM.map bb) 1 :: .vec 0 [[.ptr (H.length + 2) 0]] 1 true true :: setO (H.length + 10) w3 t3 UM) [] w4 t4 CM rfl (by omega))
        (by simp [↓g7, hXl, setO, pure_bb]) ?_
      simp [e11, e13]
      refine CALLv.at (v_Without (hSM _) (.inl ⟨_, _, rfl, hSW _, rfl⟩)) fun u T hu => ?_
      obtain ⟨w5, t5, q1, q2⟩ := hu
      subst q1; subst q2
      rw [hDM, hTc 10 _ rfl, List.append_assoc, List.append_assoc]
      simp [e19, e4]
      refine (v_tells (g := H.length + 14) (m := DM) (kk := true) (no := no) (by omega)).callF .refl
        (by simpa [setO] using hSet 10 (.fro wM (M.map bb) 1 :: .fro wW (W.map bb) 1 :: .fro 0 (UM.map bb) 1 :: .fro 0 (CM.map bb) 1 :: .fro 0 (DM.map bb) 1 :: .vec 0 [[.ptr (H.length + 2) 0]] 1 true true :: (setO (H.length + 10) w3 t3 UM ++ setO (H.length + 12) w4 t4 CM)) [] w5 t5 DM rfl (by omega))
        (by simp [↓g8, hXl, setO, pure_bb]) ?_
      simp [e11, e15, e4]
      refine (v_tells (g := H.length) (m := M) (kk := true) (no := no) (by omega)).callF .refl (hSM _) (by simp [↓g4, hXl, setO, pure_bb]) ?_
      simp [e11, e13]
      refine CALLv.at (v_bSame (hSM _) (hSW _)) fun u T hu => ?_
      obtain ⟨q1, q2⟩ := hu
      subst q1; subst q2
      simp [e0, e1]
      by_cases hio : i = o
      · simp [hio, e15, e16]
        refine (v_rAll (kk := true) (m := M) (by omega)).callU [BL true M] (by simp [↓g4, hXl, setO, pure_bb]) ?_
        simp [e16, hio]
        refine (v_rAll (kk := true) (m := W) (by omega)).callU [BL true W] (by simp [↓g5, hXl, setO, pure_bb]) ?_
        simp [hio]
        refine (v_SameI (kk := true) (km := true) (l := is_ (allN M)) (m := is_ (allN W)) (by rw [is_len]; have := allN_len M; omega)).call ?_
        have hall : decide (is_ (allN M) = is_ (allN W)) = decide (M = W) := by
          by_cases hMW : M = W
          · subst hMW; simp
          · have : ¬ is_ (allN M) = is_ (allN W) := fun h => hMW (allN_inj (by omega) (is_inj h))
            simp [hMW, this]
        simp [hall, hio, e11]
        refine CALLv.at (v_Copy (hSM _)) fun u T hu => ?_
        obtain ⟨w6, t6, q1, q2⟩ := hu
        subst q1; subst q2
        rw [hTc 12 _ rfl, List.append_assoc, List.append_assoc]
        simp [e11]
        refine CALLv.at (v_bSame (hSM _) (by simpa [setO] using hSet 12 (.fro wM (M.map bb) 1 :: .fro wW (W.map bb) 1 :: .fro 0 (UM.map bb) 1 :: .fro 0 (CM.map bb) 1 :: .fro 0 (DM.map bb) 1 :: .vec 0 [[.ptr (H.length + 2) 0]] 1 true true :: (setO (H.length + 10) w3 t3 UM ++ (setO (H.length + 12) w4 t4 CM ++ setO (H.length + 14) w5 t5 DM))) [] w6 t6 M rfl (by omega))) fun u T hu => ?_
        obtain ⟨q1, q2⟩ := hu
        subst q1; subst q2
        simp [Tryd.results5]
        exact GV.ans hcl (by simp)
      · have hMW : ¬ M = W := fun e => hio (by rw [← hMl, e, hWl])
        have hio' : ¬ (i : Int) = (o : Int) := by omega
        simp [hio', hMW, e11]
        refine CALLv.at (v_Copy (hSM _)) fun u T hu => ?_
        obtain ⟨w6, t6, q1, q2⟩ := hu
        subst q1; subst q2
        rw [hTc 12 _ rfl, List.append_assoc, List.append_assoc]
        simp [e11]
        refine CALLv.at (v_bSame (hSM _) (by simpa [setO] using hSet 12 (.fro wM (M.map bb) 1 :: .fro wW (W.map bb) 1 :: .fro 0 (UM.map bb) 1 :: .fro 0 (CM.map bb) 1 :: .fro 0 (DM.map bb) 1 :: .vec 0 [[.ptr (H.length + 2) 0]] 1 true true :: (setO (H.length + 10) w3 t3 UM ++ (setO (H.length + 12) w4 t4 CM ++ setO (H.length + 14) w5 t5 DM))) [] w6 t6 M rfl (by omega))) fun u T hu => ?_
        obtain ⟨q1, q2⟩ := hu
        subst q1; subst q2
        simp [Tryd.results5]
        exact GV.ans hcl (by simp)
end Go.Proofs.YtenbclcfhjdcaaaDoor.VM
end
section
set_option maxHeartbeats 8000000
set_option linter.unusedVariables false
set_option linter.unusedSimpArgs false
/- bitmap's law: whatever is added and dropped. -/
namespace Go.Proofs.YtenbclcfhjdcaaaDoor.VM
open Go Go.Proofs AM
set_option maxRecDepth 100000
/-- Acts: a kind, and numbers. -/
abbrev Act := Int × Bool × List Int
def ac (p : Act) : List V := [i6 p.1, IS p.2.1 p.2.2]
attribute [simp] ac
def AS (kk : Bool) (l : List Act) : V := .fsl kk 2 (l.map ac)
theorem cut20 {l : List Int} : ∃ z : Nat, (if (20 : Int) < (l.length : Int) then (20 : Int) else (l.length : Int)) = (z : Int) ∧ z ≤ l.length ∧ z ≤ 20 := by
  split
  · exact ⟨20, rfl, by omega, by omega⟩
  · exact ⟨l.length, rfl, by omega, by omega⟩
theorem v_BitmapPlays {kk : Bool} {size no : Int} {l : List Act} (hl : l.length < 2 ^ 63) (hlb : ∀ p ∈ l, p.2.2.length < 2 ^ 63) : A 3 [i6 size, AS kk l, i6 no] (bo true) := by
  intro H
  refine v_enter hC [] (fun _ _ => kn_none rfl) Tryd.func3 rfl ok3 (Nat.le_of_ble_eq_true rfl) fun hcl hbl => ?_
  simp
  by_cases hrange : size < 1 ∨ 2048 < size
  · refine CALLv.at (VC.up (args' := [i6 size, IS true []]) (by simp) (v_New0 (kk := true) (l := []) hrange _)) fun u T hu => ?_
    obtain ⟨e1, e2⟩ := hu
    subst e1; subst e2
    simp
    by_cases hs1 : size < 1
    · simp [hs1]
      refine v_known6.call ?_
      simp [Tryd.results3]
      exact GV.refl ⟨rfl, rfl⟩
    · have hs2 : 2048 < size := by omega
      simp [hs1, hs2]
      refine v_known6.call ?_
      simp [Tryd.results3]
      exact GV.refl ⟨rfl, rfl⟩
  · obtain ⟨n0, rfl⟩ : ∃ n : Nat, size = (n : Int) := ⟨size.toNat, by omega⟩
    have n1 : ¬ (n0 : Int) < 1 := by omega
    have n2 : ¬ 2048 < (n0 : Int) := by omega
    refine CALLv.at (VC.up (args' := [i6 n0, IS true []]) (by simp) (v_New (kk := true) (n := n0) (l := []) (by omega) (by omega) (by simp) _)) fun u T hu => ?_
    obtain ⟨w, t, e1, e2⟩ := hu
    subst e1; subst e2
    have hS0 : SetV (H ++ setO H.length w t (newM n0 [])) H.length (newM n0 []) := by simpa using setV_app (X := []) (w := w) (t := t) (H := H) (m := newM n0 []) (by rw [newM_len]; omega)
    have hsz := v_Size (g := H.length) (m := newM n0 [])
    rw [newM_len] at hsz
    simp [n1, n2]
    refine hsz.call hS0 ?_
    obtain ⟨n, hn⟩ : ∃ n : Nat, 1 + n0 % 200 = n := ⟨_, rfl⟩
    have hw : IntKind.i64.wrap (1 + ((n0 : Int)).tmod 200) = (n : Int) := by rw [Int.tmod_eq_emod_of_nonneg (by omega), w64 (by omega)]; omega
    simp [hw]
    refine CALLv.at (VC.up (args' := [i6 n, IS true []]) (by simp) (v_New (kk := true) (n := n) (l := []) (by omega) (by omega) (by simp) _)) fun u T hu => ?_
    obtain ⟨w2, t2, e1, e2⟩ := hu
    subst e1; subst e2
    have hlen2 : (H ++ setO H.length w t (newM n0 [])).length = H.length + 2 := by simp [setO]
    rw [hlen2, List.append_assoc]
    simp
    refine CALLv.at (VC.up (args' := [i6 n, IS true []]) (by simp) (v_rNew (kk := true) (n := n) (l := []) (by omega) (by simp) _)) fun u T hu => ?_
    obtain ⟨wM, tM, e1, e2⟩ := hu
    subst e1; subst e2
    obtain ⟨X, hX⟩ : ∃ X, setO H.length w t (newM n0 []) = X := ⟨_, rfl⟩
    have hXl : X.length = 2 := by rw [← hX]; rfl
    rw [hX]
    have hT : ∀ (Y : Hp), (H ++ (X ++ Y)).length = H.length + (2 + Y.length) := fun Y => by simp [hXl]
    have hW : ∀ (m : List Bool) (Y : Hp), m.length ≤ 2048 → SetW (H ++ (X ++ (setO (H.length + 2) w2 t2 m ++ Y))) (H.length + 2) (H.length + 3) w2 t2 m := fun m Y hm => by
      have := setO_w (H := H ++ X) (X := Y) (w := w2) (t := t2) hm
      simpa [hXl] using this
    have hP : ∀ (m m' : List Bool) (Y : Hp), m'.length = m.length → putW (H ++ (X ++ (setO (H.length + 2) w2 t2 m ++ Y))) (H.length + 3) w2 t2 m' = H ++ (X ++ (setO (H.length + 2) w2 t2 m' ++ Y)) := fun m m' Y hm => by
      have := set_app (H ++ X) Y w2 t2 m m' hm
      simpa [hXl] using this
    have g4 : ∀ (m : List Bool) (y : Ob), (H ++ (X ++ (setO (H.length + 2) w2 t2 m ++ [y])))[H.length + 4]? = some y := fun m y => by
      rw [← List.append_assoc, ← List.append_assoc, List.getElem?_append_right (by simp [setO, hXl])]
      simp [setO, hXl]
    have s4 : ∀ (m : List Bool) (y y' : Ob), (H ++ (X ++ (setO (H.length + 2) w2 t2 m ++ [y]))).set (H.length + 4) y' = H ++ (X ++ (setO (H.length + 2) w2 t2 m ++ [y'])) := fun m y y' => by
      rw [← List.append_assoc, ← List.append_assoc, List.set_append_right _ _ (by simp [setO, hXl])]
      simp [setO, hXl]
    have hlX : (H ++ (X ++ setO (H.length + 2) w2 t2 (newM n []))).length = H.length + 4 := by simp [setO, hXl]
    rw [hlX, List.append_assoc, List.append_assoc]
    simp
    refine v_loopX hC (fun (i : Nat) e T => ∃ m : List Bool, m.length = n ∧ T = H ++ (X ++ (setO (H.length + 2) w2 t2 m ++ [.vec wM (m.map bb) 1 true tM])) ∧ e 0 = i6 n ∧ e 1 = AS kk l ∧ e 2 = i6 no ∧ e 7 = .ptr (H.length + 2) 0 ∧ e 9 = .own (H.length + 4) wM ∧ e 10 = i6 i ∧ i ≤ 20) (fun i => 20 - i) 0 (G.refl ?_) ?_
    · exact ⟨newM n [], newM_len .., rfl, by simp, by simp [AS], by simp, by simp, by simp, by simp, by omega⟩
    · rintro i e T ⟨m, hm, rfl, e0, e1, e2, e7, e9, e10, hi⟩
      simp [e1, e10, AS]
      by_cases hil : i < l.length
      · by_cases hi20 : i < 20
        · obtain ⟨p, hp⟩ : ∃ p, l[i] = p := ⟨_, rfl⟩
          have hgp : l[i]? = some p := by rw [List.getElem?_eq_getElem hil, hp]
          have hpb := hlb p (by rw [← hp]; exact List.getElem_mem hil)
          obtain ⟨z, hz, hzl, hz20⟩ := cut20 (l := p.2.2)
          have hi20' : (i : Int) < 20 := by omega
          simp [hil, hi20', e1, e10, AS]
          refine v_draw (ord := [0, 1, 2, 3, 4, 5, 6, 7, 8, 9, 10, 11, 12, 13]) (m := 10) (by decide +kernel) (by decide +kernel) ?_
          obtain ⟨x, hx⟩ : ∃ x, p.2.2.take z = x := ⟨_, rfl⟩
          have hxl : x.length ≤ 20 := by rw [← hx]; simp; omega
          obtain ⟨b, hb⟩ : ∃ b, decide (bits BinOp.and IntKind.i64 p.1 1 = 0) = b := ⟨_, rfl⟩
          simp [e1, e10, AS, hgp, hz, bnd_hi hzl, hb]
          have hIS : ∀ (kk : Bool) (l : List Int), .fsl kk 1 (List.map ic l) = IS kk l := fun _ _ => rfl
          rw [← List.map_take, hx, hIS]
          refine v_loopX hC (fun (k : Nat) e T => T = H ++ (X ++ (setO (H.length + 2) w2 t2 m ++ [.vec wM ((flipM b m (x.take k)).map bb) 1 true tM])) ∧ e 0 = i6 n ∧ e 1 = AS kk l ∧ e 2 = i6 no ∧ e 7 = .ptr (H.length + 2) 0 ∧ e 9 = .own (H.length + 4) wM ∧ e 10 = i6 i ∧ e 11 = IS p.2.1 x ∧ e 12 = bo b ∧ e 14 = i6 k ∧ k ≤ x.length ∧ ∃ c : Nat, c ≤ k ∧ e 13 = i6 c ∧ flipN b m x = c + flipN b (flipM b m (x.take k)) (x.drop k)) (fun k => x.length - k) 0 (G.refl ?_) ?_
          · refine ⟨by simp [flipM], by simp [e0], by simp [e1], by simp [e2], by simp [e7], by simp [e9], by simp [e10], by simp, by simp, by simp, by omega, 0, by omega, by simp, by simp [flipM]⟩
          · rintro k e T ⟨rfl, e0, e1, e2, e7, e9, e10, e11, e12, e14, hk, c, hck, e13, hv⟩
            simp [e11, e14]
            refine CondV.dec (fun hlt => ?_) (fun hge => ?_)
            · have hlt : k < x.length := by omega
              obtain ⟨M, hM⟩ : ∃ M, flipM b m (x.take k) = M := ⟨_, rfl⟩
              have hMl : M.length = n := by rw [← hM, flipM_len]; exact hm
              obtain ⟨v, hvv⟩ : ∃ v, x[k] = v := ⟨_, rfl⟩
              have hM1 : flipM b m (x.take (k + 1)) = flip1 b M v := by
                rw [List.take_add_one, getL hlt, hvv]
                show List.foldl _ _ _ = _
                rw [List.foldl_append]
                show List.foldl _ (flipM b m (x.take k)) _ = _
                rw [hM]
                rfl
              rw [hM] at hv ⊢
              rw [List.drop_eq_getElem_cons hlt, hvv] at hv
              simp [e0, e9, e11, e12, e14, getL hlt, hvv, ↓g4]
              by_cases hv0 : 0 ≤ v
              · obtain ⟨j, rfl⟩ : ∃ j : Nat, v = (j : Int) := ⟨v.toNat, by omega⟩
                by_cases hj : j < n
                · have hjM : j < M.length := by omega
                  have hmay : mayM M (j : Int) = true := by unfold mayM; simp; omega
                  have hgd : M.getD j false = M[j] := (getD_lt hjM).symm
                  simp [hj, e0, e9, e11, e12, e14, getL hlt, hvv, ↓g4, hjM]
                  refine CondV.on (fun hbe => ?_) (fun hbe => ?_)
                  rotate_left
                  · have hbe : M[j] = b := by simpa using hbe
                    have hcond : (mayM M (j : Int) && (M.getD (j : Int).toNat false != b)) = false := by rw [hmay, Int.toNat_natCast, hgd, hbe]; simp
                    obtain ⟨f1, f2⟩ := flip_no (l := x.drop (k + 1)) hcond
                    rw [f1] at hM1
                    simp [e14, w64 (n := (k : Int) + 1) (by omega)]
                    refine GH.refl ⟨k + 1, ⟨by rw [hM1], by simp [e0], by simp [e1], by simp [e2], by simp [e7], by simp [e9], by simp [e10], by simp [e11], by simp [e12], by simp, by omega, c, by omega, by simp [e13], by rw [hM1, hv, f2]⟩, by omega⟩
                  · have hbe : ¬ M[j] = b := fun h => by rw [h] at hbe; simp at hbe
                    have hcond : (mayM M (j : Int) && (M.getD (j : Int).toNat false != b)) = true := by rw [hmay, Int.toNat_natCast, hgd]; simpa using hbe
                    obtain ⟨f1, f2⟩ := flip_yes (b := b) (m := M) (no := (j : Int)) (l := x.drop (k + 1)) hcond
                    rw [f1, Int.toNat_natCast] at hM1
                    rw [f1, Int.toNat_natCast] at f2
                    obtain ⟨R2, hR2⟩ : ∃ R2, (M.set j b).map bb = R2 := ⟨_, rfl⟩
                    have hrow : (M.map bb).set j [.lit (.bool b)] = R2 := by rw [← hR2, List.map_set]; rfl
                    simp [e9, e11, e12, e13, e14, getL hlt, hvv, ↓g4, ↓s4, hjM, hrow, w64 (n := (k : Int) + 1) (by omega), w64 (n := (c : Int) + 1) (by omega)]
                    refine GH.refl ⟨k + 1, ⟨by rw [hM1, hR2], by simp [e0], by simp [e1], by simp [e2], by simp [e7], by simp [e9], by simp [e10], by simp [e11], by simp [e12], by simp, by omega, c + 1, by omega, by simp, by rw [hM1, hv, f2]; omega⟩, by omega⟩
                · have hcond : (mayM M (j : Int) && (M.getD (j : Int).toNat false != b)) = false := by
                    have : mayM M (j : Int) = false := by unfold mayM; simp; omega
                    rw [this]; rfl
                  obtain ⟨f1, f2⟩ := flip_no (l := x.drop (k + 1)) hcond
                  rw [f1] at hM1
                  simp [hj, e0, e11, e14, getL hlt, hvv, w64 (n := (k : Int) + 1) (by omega)]
                  refine GH.refl ⟨k + 1, ⟨by rw [hM1], by simp [e0], by simp [e1], by simp [e2], by simp [e7], by simp [e9], by simp [e10], by simp [e11], by simp [e12], by simp, by omega, c, by omega, by simp [e13], by rw [hM1, hv, f2]⟩, by omega⟩
              · have hcond : (mayM M v && (M.getD v.toNat false != b)) = false := by
                  have : mayM M v = false := by unfold mayM; simp; omega
                  rw [this]; rfl
                obtain ⟨f1, f2⟩ := flip_no (l := x.drop (k + 1)) hcond
                rw [f1] at hM1
                simp [hv0, e14, w64 (n := (k : Int) + 1) (by omega)]
                refine GH.refl ⟨k + 1, ⟨by rw [hM1], by simp [e0], by simp [e1], by simp [e2], by simp [e7], by simp [e9], by simp [e10], by simp [e11], by simp [e12], by simp, by omega, c, by omega, by simp [e13], by rw [hM1, hv, f2]⟩, by omega⟩
            · have hke : k = x.length := by omega
              subst hke
              rw [List.take_length] at hv ⊢
              have hcv : flipN b m x = c := by rw [hv]; simp [flipN]
              have hml2 : m.length ≤ 2048 := by omega
              have hflen : (flipM b m x).length = m.length := flipM_len ..
              simp [e12]
              cases hbv : b with
              | true =>
                rw [hbv] at hcv hflen
                simp [e7, e11]
                refine CALLv.at (v_Add (kk := p.2.1) (l := x) (hW m _ hml2) (by omega)) fun u T hu => ?_
                obtain ⟨q1, q2⟩ := hu
                subst q1; subst q2
                rw [hP _ _ _ hflen, hcv]
                simp [e10, e13, w64 (n := (i : Int) + 1) (by omega)]
                exact GH.refl ⟨i + 1, ⟨_, by rw [hflen]; exact hm, rfl, by simp [e0], by simp [e1], by simp [e2], by simp [e7], by simp [e9], by simp, by omega⟩, by omega⟩
              | false =>
                rw [hbv] at hcv hflen
                simp [e7, e11]
                refine CALLv.at (v_Drop (kk := p.2.1) (l := x) (hW m _ hml2) (by omega)) fun u T hu => ?_
                obtain ⟨q1, q2⟩ := hu
                subst q1; subst q2
                rw [hP _ _ _ hflen, hcv]
                simp [e10, e13, w64 (n := (i : Int) + 1) (by omega)]
                exact GH.refl ⟨i + 1, ⟨_, by rw [hflen]; exact hm, rfl, by simp [e0], by simp [e1], by simp [e2], by simp [e7], by simp [e9], by simp, by omega⟩, by omega⟩
        · have hi20' : ¬ (i : Int) < 20 := by omega
          simp [hil, hi20', e10]
          refine v_known6.call ?_
          simp [e2, e7, e9]
          refine (v_tells (g := H.length + 2) (m := m) (kk := true) (no := no) (by omega)).callF (H0 := H ++ (X ++ (setO (H.length + 2) w2 t2 m ++ [.fro wM (m.map bb) 1])))
            (by
              have := Frz.mid (A := H ++ (X ++ setO (H.length + 2) w2 t2 m)) (B := []) (w := wM) (s := 1) (rw := true) (t := tM) (pure_bb m)
              simpa using this)
            (hW m _ (by omega)).v (by simp [↓g4, hXl, setO, pure_bb]) ?_
          simp [e2, e7, e9]
          refine CALLv.at (v_Copy (hW m _ (by omega)).v) fun u T hu => ?_
          obtain ⟨w6, t6, q1, q2⟩ := hu
          subst q1; subst q2
          have hlast : (H ++ (X ++ (setO (H.length + 2) w2 t2 m ++ [Ob.fro wM (m.map bb) 1]))).length = H.length + 5 := by simp [setO, hXl]
          have hS5 : SetV (H ++ (X ++ (setO (H.length + 2) w2 t2 m ++ (Ob.fro wM (m.map bb) 1 :: setO (H.length + 5) w6 t6 m)))) (H.length + 5) m := by
            have := setV_app (H := H ++ (X ++ (setO (H.length + 2) w2 t2 m ++ [Ob.fro wM (m.map bb) 1]))) (X := []) (w := w6) (t := t6) (m := m) (by omega)
            rw [hlast] at this
            simpa using this
          rw [hlast, List.append_assoc, List.append_assoc, List.append_assoc]
          simp [e2, e9]
          refine (v_tells (g := H.length + 5) (m := m) (kk := true) (no := no) (by omega)).callF .refl hS5 (by
            have h4 : (H ++ (X ++ (setO (H.length + 2) w2 t2 m ++ (Ob.fro wM (m.map bb) 1 :: setO (H.length + 5) w6 t6 m))))[H.length + 4]? = some (.fro wM (m.map bb) 1) := by
              rw [← List.append_assoc, ← List.append_assoc, List.getElem?_append_right (by simp [setO, hXl])]
              simp [setO, hXl]
            rw [Ups_cons, Ups_cons, Ups_cons]
            refine ⟨by simp [setO, hXl], ?_, by simp, by simp⟩
            show Up _ _ _ _ (.fsl true 1 (m.map bb)) _
            rw [Up_fsl_own]
            refine ⟨pure_bb m, ?_⟩
            unfold UpFz
            rw [h4]
            exact ⟨rfl, rfl, rfl⟩) ?_
          simp [Tryd.results3]
          exact GV.ans hcl (by simp)
      · simp [hil]
        refine v_known6.call ?_
        simp [e2, e7, e9]
        refine (v_tells (g := H.length + 2) (m := m) (kk := true) (no := no) (by omega)).callF (H0 := H ++ (X ++ (setO (H.length + 2) w2 t2 m ++ [.fro wM (m.map bb) 1])))
          (by
            have := Frz.mid (A := H ++ (X ++ setO (H.length + 2) w2 t2 m)) (B := []) (w := wM) (s := 1) (rw := true) (t := tM) (pure_bb m)
            simpa using this)
          (hW m _ (by omega)).v (by simp [↓g4, hXl, setO, pure_bb]) ?_
        simp [e2, e7, e9]
        refine CALLv.at (v_Copy (hW m _ (by omega)).v) fun u T hu => ?_
        obtain ⟨w6, t6, q1, q2⟩ := hu
        subst q1; subst q2
        have hlast : (H ++ (X ++ (setO (H.length + 2) w2 t2 m ++ [Ob.fro wM (m.map bb) 1]))).length = H.length + 5 := by simp [setO, hXl]
        have hS5 : SetV (H ++ (X ++ (setO (H.length + 2) w2 t2 m ++ (Ob.fro wM (m.map bb) 1 :: setO (H.length + 5) w6 t6 m)))) (H.length + 5) m := by
          have := setV_app (H := H ++ (X ++ (setO (H.length + 2) w2 t2 m ++ [Ob.fro wM (m.map bb) 1]))) (X := []) (w := w6) (t := t6) (m := m) (by omega)
          rw [hlast] at this
          simpa using this
        rw [hlast, List.append_assoc, List.append_assoc, List.append_assoc]
        simp [e2, e9]
        refine (v_tells (g := H.length + 5) (m := m) (kk := true) (no := no) (by omega)).callF .refl hS5 (by
          have h4 : (H ++ (X ++ (setO (H.length + 2) w2 t2 m ++ (Ob.fro wM (m.map bb) 1 :: setO (H.length + 5) w6 t6 m))))[H.length + 4]? = some (.fro wM (m.map bb) 1) := by
            rw [← List.append_assoc, ← List.append_assoc, List.getElem?_append_right (by simp [setO, hXl])]
            simp [setO, hXl]
          rw [Ups_cons, Ups_cons, Ups_cons]
          refine ⟨by simp [setO, hXl], ?_, by simp, by simp⟩
          show Up _ _ _ _ (.fsl true 1 (m.map bb)) _
          rw [Up_fsl_own]
          refine ⟨pure_bb m, ?_⟩
          unfold UpFz
          rw [h4]
          exact ⟨rfl, rfl, rfl⟩) ?_
        simp [Tryd.results3]
        exact GV.ans hcl (by simp)
end Go.Proofs.YtenbclcfhjdcaaaDoor.VM
end
section
set_option maxHeartbeats 8000000
set_option linter.unusedVariables false
set_option linter.unusedSimpArgs false
/- BitmapPlays at the arguments as they read. -/
namespace Go.Proofs.YtenbclcfhjdcaaaDoor
open Go Go.RowKit AM VM B
namespace VM
theorem rows_ac : ∀ {rows : List (List V)}, (∀ r ∈ rows, ∃ p : Act, p.2.2.length < 2 ^ 63 ∧ r = ac p) → ∃ l : List Act, rows = l.map ac ∧ ∀ p ∈ l, p.2.2.length < 2 ^ 63
  | [], _ => ⟨[], rfl, by simp⟩
  | r :: rs, h => by
    obtain ⟨p, he1, he2⟩ := h r (by simp)
    obtain ⟨l, hl, hb⟩ := rows_ac (rows := rs) fun x hx => h x (by simp [hx])
    refine ⟨p :: l, by rw [he2, hl]; rfl, fun x hx => ?_⟩
    rcases List.mem_cons.1 hx with rfl | hx
    · exact he1
    · exact hb x hx
/-- Acts. -/
theorem arg_acts {H : Type} {enc : TypeId × Value → H} {w : World} {v : Value} (h : Rd enc Tryd.prog w 22 [v]) : ∃ kk, ∃ l : List Act, l.length < 2 ^ 63 ∧ (∀ p ∈ l, p.2.2.length < 2 ^ 63) ∧ ArgV w (AS kk l) v := by
  obtain ⟨u, kk, rows, e, hc, hl, hg⟩ := rd_sliceV (fun r => ∃ p : Act, p.2.2.length < 2 ^ 63 ∧ r = ac p) h Tryd.underlying22 (by kernel_rfl : Tryd.prog.cellsOf 34 = 2) (by omega) (by omega) (fun es h1 h2 => by
    obtain ⟨x, y, rfl, _, _, hx, hy⟩ := rd_two h2 Tryd.underlying34 (a := 1) (b := 1) rfl (by kernel_rfl) rfl (by kernel_rfl) (by kernel_rfl)
    obtain ⟨s, rfl, _⟩ := hx.int Tryd.underlying3
    obtain ⟨v2, k2, l2, rfl, hl2, hc2⟩ := rd_ints hy
    exact ⟨ac (s, k2, l2), rfl, ⟨_, _, rfl, .lit rfl, _, _, rfl, hc2, rfl⟩, (s, k2, l2), hl2, rfl⟩)
  obtain ⟨l, rfl, hb⟩ := rows_ac hg
  cases e
  exact ⟨kk, l, by simp only [List.length_map, maxLen] at hl; omega, hb, hc.arg⟩
end VM
theorem bitmapPlays_row {H : Type} {enc : TypeId × Value → H} (a0 : Int) (A1 : Option Addr) (n1 c1 : Nat) (a2 : Int) (w : World) (hg : Globs w.heap) (h0 : (Lit.int .i64 a0).wf = true) (h1 : Rd enc Tryd.prog w 22 [.slice A1 n1 c1]) (h2 : (Lit.int .i64 a2).wf = true) :
    Calls Tryd.prog 3 #[.int .i64 a0, .slice A1 n1 c1, .int .i64 a2] w fun e w' => e = .returned (.bool true) ∧ Below w.heap.size w w' := by
  obtain ⟨kk, l, hl, hb, ha⟩ := arg_acts h1
  exact (v_BitmapPlays (size := a0) (no := a2) hl hb).law mixed prims_ok ⟨_, _, Tryd.func3, rfl, by decide +kernel⟩ ⟨_, _, rfl, (CellV.lit rfl).arg, _, _, rfl, ha, _, _, rfl, (CellV.lit rfl).arg, rfl⟩ hg
end Go.Proofs.YtenbclcfhjdcaaaDoor
end
