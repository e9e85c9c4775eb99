/- The law LeafSplits: the walk. -/
import Derived.Test.YtenbclcfhjdcaaaV6p
namespace Go.Proofs.Ytenbclcfhjdcaaa.VM
open Go Go.Proofs AM B
set_option maxRecDepth 100000
theorem v_known : A 25 [] (bo true) := fun H => VC.known (y := .bool true) (fun σ => by rfl) rfl ⟨rfl, rfl⟩
set_option maxHeartbeats 8000000 in
theorem v_LeafSplits {kk km : Bool} {l m : List Ent} (hl : l.length < 2 ^ 63) (hm : m.length < 2 ^ 63) {a b : Bool} : A 6 [.agg [bo a, ES kk l], .agg [bo b, ES km m]] (bo true) := by
  intro H
  refine v_enter hC [] (fun _ _ => kn_none rfl) Try.func6 rfl ok6 (Nat.le_of_ble_eq_true rfl) fun hcl hbl => ?_
  simp
  refine v_draw (ord := [0, 1, 2, 3, 4, 5, 6, 7]) (m := 6) (by decide +kernel) ?_
  simp
  refine (v_To hl).call ?_
  simp
  refine (v_To hm).call ?_
  have hL : (l.take 18).length ≤ 18 := by simp [Nat.min_le_left]
  have hM : (m.take 18).length ≤ 18 := by simp [Nat.min_le_left]
  generalize l.take 18 = L at hL ⊢
  generalize m.take 18 = M at hM ⊢
  simp
  refine v_draw (ord := [0, 1, 2, 3, 4, 5, 6, 7]) (m := 6) (by decide +kernel) ?_
  simp
  refine (v_Of (kk := true) (l := L) (by omega)).call ?_
  simp
  refine (v_Of (kk := true) (l := M) (by omega)).call ?_
  simp
  refine (v_Split (kk := true) (l := L) (by omega)).call ?_
  obtain ⟨x1, L1, x2, L2, hu, hsp⟩ : ∃ x1 L1 x2 L2, (if splitE a L = 0 then V.tup [.agg [bo a, ES true (L.take (L.length / 2))], .agg [bo a, ES false (L.drop (L.length / 2))], i6 0] else V.tup [.agg [bo false, ES true []], .agg [bo false, ES false []], i6 (splitE a L)]) =
      .tup [.agg [bo x1, ES true L1], .agg [bo x2, ES false L2], i6 (splitE a L)] ∧ (splitE a L = 0 → x1 = a ∧ x2 = a ∧ L1 = L.take (L.length / 2) ∧ L2 = L.drop (L.length / 2)) := by
    by_cases h : splitE a L = 0
    · exact ⟨_, _, _, _, by rw [if_pos h, h], fun _ => ⟨rfl, rfl, rfl, rfl⟩⟩
    · exact ⟨_, _, _, _, by rw [if_neg h], fun h' => absurd h' h⟩
  rw [hu]
  simp
  refine (v_Merge (kk := true) (km := true) (l := L) (m := M) (by omega) (by omega)).call ?_
  obtain ⟨x3, N, hu2, hmg⟩ : ∃ x3 N, (if mergeE a b L M = 0 then V.tup [.agg [bo a, ES true (L ++ M)], i6 0] else .tup [.agg [bo false, ES true []], i6 (mergeE a b L M)]) =
      .tup [.agg [bo x3, ES true N], i6 (mergeE a b L M)] ∧ (mergeE a b L M = 0 → x3 = a ∧ N = L ++ M) := by
    by_cases h : mergeE a b L M = 0
    · exact ⟨_, _, by rw [if_pos h, h], fun _ => ⟨rfl, rfl⟩⟩
    · exact ⟨_, _, by rw [if_neg h], fun h' => absurd h' h⟩
  rw [hu2]
  simp
  refine v_draw (ord := [2, 3, 4, 5, 6, 7, 8, 0, 1, 9, 10, 11]) (m := 11) (by decide +kernel) ?_
  simp
  refine ⟨by omega, by omega, ?_⟩
  refine (v_rCheck (kk := true) (l := L) (by omega)).call ?_
  simp
  refine CondV.dec (fun h1 => ?_) (fun h1 => ?_)
  · simp
    refine (v_rCheck (kk := true) (l := M) (by omega)).call ?_
    by_cases h2 : chk b M = 0
    · by_cases hab : a = b
      · subst hab
        by_cases hlen : L.length + M.length ≤ 16
        · have hlen' : ¬ 16 < (L.length : Int) + M.length := by omega
          simp [h1, h2, hlen']
          refine (v_rCheck (kk := true) (l := L ++ M) (by simp; omega)).callF [.agg [bo a, ES true (L ++ M)]] (Frz.vec (g := H.length + 9) (w := 2) (s := 3) (rows := (L ++ M).map ec) (rw := true) (t := true) (by simp) (by simp)) (by simp) ?_
          have hm := merge_chk h1 h2 (show ¬ 16 < L.length + M.length by omega)
          by_cases h3 : chk a (L ++ M) = 0
          · obtain ⟨e1, rfl⟩ := hmg (by rw [hm, h3])
            have e1 := e1.symm
            subst e1
            simp
            refine v_draw (ord := [0, 1, 2, 3, 4, 5, 6, 7, 8, 9, 10, 11, 12, 13]) (m := 10) (by decide +kernel) ?_
            simp [h3, hm]
            rw [← List.map_append]
            refine (v_Of (kk := true) (l := L ++ M) (by simp; omega)).call ?_
            simp
            refine (v_rSame (kk := true) (km := true) (l := L ++ M) (m := L ++ M) (by simp; omega)).callU [.agg [bo a, ES true (L ++ M)], .agg [bo a, ES true (L ++ M)]] (by simp) ?_
            simp
            refine (v_rCheck (kk := true) (l := L) (by omega)).call ?_
            by_cases hlen2 : L.length < 2
            · have hs : splitE a L = 11 := by simp [splitE, h1, hlen2]
              have hk : IntKind.i64.wrap ((L.length : Int) / 2) = 0 := by rw [w64 (by omega)]; omega
              simp [h1, hk, hs]
              refine v_known.call ?_
              simp [hs, Try.results6]
              first | (refine GV.ans hcl ?_; simp []; done) | (refine GV.ans0 ?_; simp []; done)
            · have hs : splitE a L = 0 := by simp [splitE, h1, hlen2]
              have hk : IntKind.i64.wrap ((L.length : Int) / 2) = ((L.length / 2 : Nat) : Int) := by rw [w64 (by omega)]; omega
              have hk0 : ¬ ((L.length : Int) / 2 = 0) := by omega
              obtain ⟨rfl, rfl, rfl, rfl⟩ := hsp hs
              have hsm := split_merge h1 (by omega)
              simp [h1, hk, hk0, hs]
              rw [← List.map_take, ← List.map_drop]
              refine (v_Merge (kk := true) (km := false) (l := L.take (L.length / 2)) (m := L.drop (L.length / 2)) (by simp; omega) (by simp; omega)).call ?_
              rw [if_pos hsm]
              simp
              refine v_draw (ord := [0, 1, 2, 3, 4, 5, 6, 7, 8, 9, 10, 11, 12, 13, 14, 15, 16, 17, 18, 19, 20, 21, 22, 23, 24, 25, 26, 27, 28, 29, 30, 31, 32, 33, 34, 35, 36, 37, 38]) (m := 36) (by decide +kernel) ?_
              simp
              refine v_known.call ?_
              simp [hs]
              rw [← List.map_take]
              refine (v_Of (kk := true) (l := L.take (L.length / 2)) (by simp; omega)).call ?_
              have hb1 : bounds L.length L.length none (some ((L.length : Int) / 2)) none = some (0, L.length / 2, L.length) := by
                unfold bounds; simp only; rw [if_pos (by omega)]; congr 2 <;> omega
              have hb2 : bounds L.length L.length (some ((L.length : Int) / 2)) none none = some (L.length / 2, L.length, L.length) := by
                unfold bounds; simp only; rw [if_pos (by omega)]; congr 2
              simp [hb1, hb2, hk0]
              rw [← List.map_take]
              refine (v_rSame (kk := true) (km := true) (l := L.take (L.length / 2)) (m := L.take (L.length / 2)) (by simp; omega)).call ?_
              simp
              rw [← List.map_drop]
              refine (v_Of (kk := false) (l := L.drop (L.length / 2)) (by simp; omega)).call ?_
              simp [hb2, hk0]
              rw [← List.map_drop]
              refine (v_rSame (kk := true) (km := false) (l := L.drop (L.length / 2)) (m := L.drop (L.length / 2)) (by simp; omega)).call ?_
              simp
              refine (v_Same (kk := true) (km := true) (l := L) (m := L) (by omega)).call ?_
              simp [Try.results6]
              first | (refine GV.ans hcl ?_; simp []; done) | (refine GV.ans0 ?_; simp []; done)
          · simp
            refine v_draw (ord := [0, 1, 2, 3, 4, 5, 6, 7, 8, 9, 10, 11, 12, 13]) (m := 10) (by decide +kernel) ?_
            simp [h3, hm]
            refine (v_rCheck (kk := true) (l := L) (by omega)).call ?_
            by_cases hlen2 : L.length < 2
            · have hs : splitE a L = 11 := by simp [splitE, h1, hlen2]
              have hk : IntKind.i64.wrap ((L.length : Int) / 2) = 0 := by rw [w64 (by omega)]; omega
              simp [h1, hk, hs]
              refine v_known.call ?_
              simp [hs, Try.results6]
              first | (refine GV.ans hcl ?_; simp []; done) | (refine GV.ans0 ?_; simp []; done)
            · have hs : splitE a L = 0 := by simp [splitE, h1, hlen2]
              have hk : IntKind.i64.wrap ((L.length : Int) / 2) = ((L.length / 2 : Nat) : Int) := by rw [w64 (by omega)]; omega
              have hk0 : ¬ ((L.length : Int) / 2 = 0) := by omega
              obtain ⟨rfl, rfl, rfl, rfl⟩ := hsp hs
              have hsm := split_merge h1 (by omega)
              simp [h1, hk, hk0, hs]
              rw [← List.map_take, ← List.map_drop]
              refine (v_Merge (kk := true) (km := false) (l := L.take (L.length / 2)) (m := L.drop (L.length / 2)) (by simp; omega) (by simp; omega)).call ?_
              rw [if_pos hsm]
              simp
              refine v_draw (ord := [0, 1, 2, 3, 4, 5, 6, 7, 8, 9, 10, 11, 12, 13, 14, 15, 16, 17, 18, 19, 20, 21, 22, 23, 24, 25, 26, 27, 28, 29, 30, 31, 32, 33, 34, 35, 36, 37, 38]) (m := 36) (by decide +kernel) ?_
              simp
              refine v_known.call ?_
              simp [hs]
              rw [← List.map_take]
              refine (v_Of (kk := true) (l := L.take (L.length / 2)) (by simp; omega)).call ?_
              have hb1 : bounds L.length L.length none (some ((L.length : Int) / 2)) none = some (0, L.length / 2, L.length) := by
                unfold bounds; simp only; rw [if_pos (by omega)]; congr 2 <;> omega
              have hb2 : bounds L.length L.length (some ((L.length : Int) / 2)) none none = some (L.length / 2, L.length, L.length) := by
                unfold bounds; simp only; rw [if_pos (by omega)]; congr 2
              simp [hb1, hb2, hk0]
              rw [← List.map_take]
              refine (v_rSame (kk := true) (km := true) (l := L.take (L.length / 2)) (m := L.take (L.length / 2)) (by simp; omega)).call ?_
              simp
              rw [← List.map_drop]
              refine (v_Of (kk := false) (l := L.drop (L.length / 2)) (by simp; omega)).call ?_
              simp [hb2, hk0]
              rw [← List.map_drop]
              refine (v_rSame (kk := true) (km := false) (l := L.drop (L.length / 2)) (m := L.drop (L.length / 2)) (by simp; omega)).call ?_
              simp
              refine (v_Same (kk := true) (km := true) (l := L) (m := L) (by omega)).call ?_
              simp [Try.results6]
              first | (refine GV.ans hcl ?_; simp []; done) | (refine GV.ans0 ?_; simp []; done)
        · have hlen' : 16 < (L.length : Int) + M.length := by omega
          have hm : mergeE a a L M = 6 := by simp [mergeE, h1, h2, show 16 < L.length + M.length by omega]
          simp [h1, h2, hlen']
          refine v_draw (ord := [0, 1, 2, 3, 4, 5, 6, 7, 8, 9, 10, 11, 12, 13]) (m := 10) (by decide +kernel) ?_
          simp [hm]
          refine (v_rCheck (kk := true) (l := L) (by omega)).call ?_
          by_cases hlen2 : L.length < 2
          · have hs : splitE a L = 11 := by simp [splitE, h1, hlen2]
            have hk : IntKind.i64.wrap ((L.length : Int) / 2) = 0 := by rw [w64 (by omega)]; omega
            simp [h1, hk, hs]
            refine v_known.call ?_
            simp [hs, Try.results6]
            first | (refine GV.ans hcl ?_; simp []; done) | (refine GV.ans0 ?_; simp []; done)
          · have hs : splitE a L = 0 := by simp [splitE, h1, hlen2]
            have hk : IntKind.i64.wrap ((L.length : Int) / 2) = ((L.length / 2 : Nat) : Int) := by rw [w64 (by omega)]; omega
            have hk0 : ¬ ((L.length : Int) / 2 = 0) := by omega
            obtain ⟨rfl, rfl, rfl, rfl⟩ := hsp hs
            have hsm := split_merge h1 (by omega)
            simp [h1, hk, hk0, hs]
            rw [← List.map_take, ← List.map_drop]
            refine (v_Merge (kk := true) (km := false) (l := L.take (L.length / 2)) (m := L.drop (L.length / 2)) (by simp; omega) (by simp; omega)).call ?_
            rw [if_pos hsm]
            simp
            refine v_draw (ord := [0, 1, 2, 3, 4, 5, 6, 7, 8, 9, 10, 11, 12, 13, 14, 15, 16, 17, 18, 19, 20, 21, 22, 23, 24, 25, 26, 27, 28, 29, 30, 31, 32, 33, 34, 35, 36, 37, 38]) (m := 36) (by decide +kernel) ?_
            simp
            refine v_known.call ?_
            simp [hs]
            rw [← List.map_take]
            refine (v_Of (kk := true) (l := L.take (L.length / 2)) (by simp; omega)).call ?_
            have hb1 : bounds L.length L.length none (some ((L.length : Int) / 2)) none = some (0, L.length / 2, L.length) := by
              unfold bounds; simp only; rw [if_pos (by omega)]; congr 2 <;> omega
            have hb2 : bounds L.length L.length (some ((L.length : Int) / 2)) none none = some (L.length / 2, L.length, L.length) := by
              unfold bounds; simp only; rw [if_pos (by omega)]; congr 2
            simp [hb1, hb2, hk0]
            rw [← List.map_take]
            refine (v_rSame (kk := true) (km := true) (l := L.take (L.length / 2)) (m := L.take (L.length / 2)) (by simp; omega)).call ?_
            simp
            rw [← List.map_drop]
            refine (v_Of (kk := false) (l := L.drop (L.length / 2)) (by simp; omega)).call ?_
            simp [hb2, hk0]
            rw [← List.map_drop]
            refine (v_rSame (kk := true) (km := false) (l := L.drop (L.length / 2)) (m := L.drop (L.length / 2)) (by simp; omega)).call ?_
            simp
            refine (v_Same (kk := true) (km := true) (l := L) (m := L) (by omega)).call ?_
            simp [Try.results6]
            first | (refine GV.ans hcl ?_; simp []; done) | (refine GV.ans0 ?_; simp []; done)
      · have hm : mergeE a b L M = 11 := by simp [mergeE, h1, h2, hab]
        have hab' : (a == b) = false := by rw [Bool.beq_eq_decide_eq]; simp [hab]
        simp [h1, h2, hab', hm]
        refine v_draw (ord := [0, 1, 2, 3, 4, 5, 6, 7, 8, 9, 10, 11, 12, 13]) (m := 10) (by decide +kernel) ?_
        simp [hm]
        refine (v_rCheck (kk := true) (l := L) (by omega)).call ?_
        by_cases hlen2 : L.length < 2
        · have hs : splitE a L = 11 := by simp [splitE, h1, hlen2]
          have hk : IntKind.i64.wrap ((L.length : Int) / 2) = 0 := by rw [w64 (by omega)]; omega
          simp [h1, hk, hs]
          refine v_known.call ?_
          simp [hs, Try.results6]
          first | (refine GV.ans hcl ?_; simp []; done) | (refine GV.ans0 ?_; simp []; done)
        · have hs : splitE a L = 0 := by simp [splitE, h1, hlen2]
          have hk : IntKind.i64.wrap ((L.length : Int) / 2) = ((L.length / 2 : Nat) : Int) := by rw [w64 (by omega)]; omega
          have hk0 : ¬ ((L.length : Int) / 2 = 0) := by omega
          obtain ⟨rfl, rfl, rfl, rfl⟩ := hsp hs
          have hsm := split_merge h1 (by omega)
          simp [h1, hk, hk0, hs]
          rw [← List.map_take, ← List.map_drop]
          refine (v_Merge (kk := true) (km := false) (l := L.take (L.length / 2)) (m := L.drop (L.length / 2)) (by simp; omega) (by simp; omega)).call ?_
          rw [if_pos hsm]
          simp
          refine v_draw (ord := [0, 1, 2, 3, 4, 5, 6, 7, 8, 9, 10, 11, 12, 13, 14, 15, 16, 17, 18, 19, 20, 21, 22, 23, 24, 25, 26, 27, 28, 29, 30, 31, 32, 33, 34, 35, 36, 37, 38]) (m := 36) (by decide +kernel) ?_
          simp
          refine v_known.call ?_
          simp [hs]
          rw [← List.map_take]
          refine (v_Of (kk := true) (l := L.take (L.length / 2)) (by simp; omega)).call ?_
          have hb1 : bounds L.length L.length none (some ((L.length : Int) / 2)) none = some (0, L.length / 2, L.length) := by
            unfold bounds; simp only; rw [if_pos (by omega)]; congr 2 <;> omega
          have hb2 : bounds L.length L.length (some ((L.length : Int) / 2)) none none = some (L.length / 2, L.length, L.length) := by
            unfold bounds; simp only; rw [if_pos (by omega)]; congr 2
          simp [hb1, hb2, hk0]
          rw [← List.map_take]
          refine (v_rSame (kk := true) (km := true) (l := L.take (L.length / 2)) (m := L.take (L.length / 2)) (by simp; omega)).call ?_
          simp
          rw [← List.map_drop]
          refine (v_Of (kk := false) (l := L.drop (L.length / 2)) (by simp; omega)).call ?_
          simp [hb2, hk0]
          rw [← List.map_drop]
          refine (v_rSame (kk := true) (km := false) (l := L.drop (L.length / 2)) (m := L.drop (L.length / 2)) (by simp; omega)).call ?_
          simp
          refine (v_Same (kk := true) (km := true) (l := L) (m := L) (by omega)).call ?_
          simp [Try.results6]
          first | (refine GV.ans hcl ?_; simp []; done) | (refine GV.ans0 ?_; simp []; done)
    · have hm : mergeE a b L M = chk b M := by simp [mergeE, h1, h2]
      simp [h1, h2, hm]
      refine v_draw (ord := [0, 1, 2, 3, 4, 5, 6, 7, 8, 9, 10, 11, 12, 13]) (m := 10) (by decide +kernel) ?_
      simp [h2, hm]
      refine (v_rCheck (kk := true) (l := L) (by omega)).call ?_
      by_cases hlen2 : L.length < 2
      · have hs : splitE a L = 11 := by simp [splitE, h1, hlen2]
        have hk : IntKind.i64.wrap ((L.length : Int) / 2) = 0 := by rw [w64 (by omega)]; omega
        simp [h1, hk, hs]
        refine v_known.call ?_
        simp [hs, Try.results6]
        first | (refine GV.ans hcl ?_; simp []; done) | (refine GV.ans0 ?_; simp []; done)
      · have hs : splitE a L = 0 := by simp [splitE, h1, hlen2]
        have hk : IntKind.i64.wrap ((L.length : Int) / 2) = ((L.length / 2 : Nat) : Int) := by rw [w64 (by omega)]; omega
        have hk0 : ¬ ((L.length : Int) / 2 = 0) := by omega
        obtain ⟨rfl, rfl, rfl, rfl⟩ := hsp hs
        have hsm := split_merge h1 (by omega)
        simp [h1, hk, hk0, hs]
        rw [← List.map_take, ← List.map_drop]
        refine (v_Merge (kk := true) (km := false) (l := L.take (L.length / 2)) (m := L.drop (L.length / 2)) (by simp; omega) (by simp; omega)).call ?_
        rw [if_pos hsm]
        simp
        refine v_draw (ord := [0, 1, 2, 3, 4, 5, 6, 7, 8, 9, 10, 11, 12, 13, 14, 15, 16, 17, 18, 19, 20, 21, 22, 23, 24, 25, 26, 27, 28, 29, 30, 31, 32, 33, 34, 35, 36, 37, 38]) (m := 36) (by decide +kernel) ?_
        simp
        refine v_known.call ?_
        simp [hs]
        rw [← List.map_take]
        refine (v_Of (kk := true) (l := L.take (L.length / 2)) (by simp; omega)).call ?_
        have hb1 : bounds L.length L.length none (some ((L.length : Int) / 2)) none = some (0, L.length / 2, L.length) := by
          unfold bounds; simp only; rw [if_pos (by omega)]; congr 2 <;> omega
        have hb2 : bounds L.length L.length (some ((L.length : Int) / 2)) none none = some (L.length / 2, L.length, L.length) := by
          unfold bounds; simp only; rw [if_pos (by omega)]; congr 2
        simp [hb1, hb2, hk0]
        rw [← List.map_take]
        refine (v_rSame (kk := true) (km := true) (l := L.take (L.length / 2)) (m := L.take (L.length / 2)) (by simp; omega)).call ?_
        simp
        rw [← List.map_drop]
        refine (v_Of (kk := false) (l := L.drop (L.length / 2)) (by simp; omega)).call ?_
        simp [hb2, hk0]
        rw [← List.map_drop]
        refine (v_rSame (kk := true) (km := false) (l := L.drop (L.length / 2)) (m := L.drop (L.length / 2)) (by simp; omega)).call ?_
        simp
        refine (v_Same (kk := true) (km := true) (l := L) (m := L) (by omega)).call ?_
        simp [Try.results6]
        first | (refine GV.ans hcl ?_; simp []; done) | (refine GV.ans0 ?_; simp []; done)
  · have hm : mergeE a b L M = chk a L := by simp [mergeE, h1]
    have hs : splitE a L = chk a L := by simp [splitE, h1]
    simp [h1, hm, hs]
    refine v_draw (ord := [0, 1, 2, 3, 4, 5, 6, 7, 8, 9, 10, 11, 12, 13]) (m := 10) (by decide +kernel) ?_
    simp [h1, hm]
    refine (v_rCheck (kk := true) (l := L) (by omega)).call ?_
    simp [h1]
    refine v_known.call ?_
    simp [h1, hs]
    refine (v_rCheck (kk := true) (l := L) (by omega)).call ?_
    simp [h1, hs, Try.results6]
    first | (refine GV.ans hcl ?_; simp []; done) | (refine GV.ans0 ?_; simp []; done)
end Go.Proofs.Ytenbclcfhjdcaaa.VM
