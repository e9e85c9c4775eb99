/- What the proof of LeafTurns rests on, part 6 of 7. -/
import Derived.Test.YtenbclcfhjdcaaaLeafTurnsP5
section
set_option maxHeartbeats 8000000
set_option linter.unusedVariables false
set_option linter.unusedSimpArgs false
/- Law LeafTurns (over leaf Without's contract, which holds a sorry: VRw). -/
namespace Go.Proofs.Ytenbclcfhjdcaaa.VM
open Go Go.Proofs AM B
set_option maxRecDepth 100000
theorem G.nilZ2 {H : Hp} {Q : Ev → Hp → Prop} {m s s' : Nat} {e : Ev} {Z : Hp} (t t' : Tmp) (hcl : Cl H) (hm : m ≤ H.length + Z.length) (hs : 0 < s ∧ s ≤ 1048576) (hs' : 0 < s' ∧ s' ≤ 1048576) (hZ : UpOs (H.length + Z.length) [] [s, s'] (H ++ Z) Z Z) (ht : e t = .lit (.slice none 0 0)) (ht' : e t' = .lit (.slice none 0 0))
    (h : Q (vupd (vupd (VM.clip (H.length + Z.length) e) (some t) (.own (H.length + Z.length) 0)) (some t') (.own (H.length + Z.length + 1) 0)) (H ++ (Z ++ [.vec 0 [] s true true, .vec 0 [] s' true true]))) : G m Q e (H ++ Z) := by
  have := G.mk (Q := Q) (m := m) (e := e) (H0 := H) (Z := Z) (Z' := Z) (X := []) [s, s'] (vupd (vupd (VM.clip (H.length + Z.length) e) (some t) (.own (H.length + Z.length) 0)) (some t') (.own (H.length + Z.length + 1) 0)) hcl hm (by simpa using ⟨hs, hs'⟩) (by simpa using hZ) (fun j => by
    show Up _ _ _ _ (if j = t' then V.own (H.length + Z.length + 1) 0 else if j = t then V.own (H.length + Z.length) 0 else VM.clip _ e j) (e j)
    by_cases c : j = t'
    · subst c
      rw [if_pos rfl, ht']
      simp [Up]
    · rw [if_neg c]
      by_cases c2 : j = t
      · subst c2
        rw [if_pos rfl, ht]
        simp [Up]
      · rw [if_neg c2]
        exact clip_up j) (by simpa using h)
  simpa using this
theorem v_known9t : A 25 [] (bo true) := fun H => VC.known (y := .bool true) (fun σ => by rfl) rfl ⟨rfl, rfl⟩
set_option maxHeartbeats 8000000 in
theorem v_LeafTurns {kk : Bool} {l : List Ent} (hl : l.length < 2 ^ 63) {a : Bool} {e0 : Ent} : A 9 [.agg [bo a, ES kk l], .agg (ec e0)] (bo true) := by
  intro H
  refine v_enter hC [] (fun _ _ => kn_none rfl) Try.func9 rfl ok9 (Nat.le_of_ble_eq_true rfl) fun hcl hbl => ?_
  simp
  refine (v_To (kk := kk) (l := l) (lf := a) hl).call ?_
  obtain ⟨L, hL⟩ : ∃ L, L = l.take 18 := ⟨_, rfl⟩
  have hLl : L.length ≤ 18 := by rw [hL, List.length_take]; omega
  rw [← hL]
  simp
  refine (v_Of (kk := true) (l := L) (lf := a) (by omega)).call ?_
  simp
  refine v_draw (ord := [0, 1, 2, 3, 4, 5, 6, 7, 8, 9]) (m := 8) (by decide +kernel) (by decide +kernel) ?_
  simp
  refine (v_entry e0.s e0.n e0.p).call ?_
  simp
  refine (v_With (kk := true) (l := L) (by omega) (a := a) (e := e0)).call ?_
  obtain ⟨wl, hwl⟩ : ∃ wl, wl = if withE a L e0 = 0 then withL L e0 else [] := ⟨_, rfl⟩
  obtain ⟨wa, hwa⟩ : ∃ wa, wa = if withE a L e0 = 0 then a else false := ⟨_, rfl⟩
  rw [show (if withE a L e0 = 0 then V.tup [.agg [bo a, ES true (withL L e0)], i6 0] else V.tup [.agg [bo false, ES true []], i6 (withE a L e0)]) = .tup [.agg [bo wa, ES true wl], i6 (withE a L e0)] by
    rw [hwl, hwa]; split
    · rename_i h; rw [h]
    · rfl]
  obtain ⟨we, hwe⟩ : ∃ we, we = withE a L e0 := ⟨_, rfl⟩
  rw [← hwe]
  simp
  refine v_draw (ord := [0, 1, 2, 3, 4, 5, 6, 7, 8, 9, 10]) (m := 9) (by decide +kernel) (by decide +kernel) ?_
  simp
  refine (v_key e0.s e0.n).call ?_
  simp
  refine (v_Without (kk := true) (l := L) (by omega) (a := a) (s := e0.s) (n := e0.n)).call ?_
  obtain ⟨ol, hol⟩ : ∃ ol, ol = if outE a L e0.s e0.n = 0 then outL L e0.s e0.n else [] := ⟨_, rfl⟩
  obtain ⟨oa, hoa⟩ : ∃ oa, oa = if outE a L e0.s e0.n = 0 then a else false := ⟨_, rfl⟩
  rw [show (if outE a L e0.s e0.n = 0 then V.tup [.agg [bo a, ES true (outL L e0.s e0.n)], i6 0] else V.tup [.agg [bo false, ES true []], i6 (outE a L e0.s e0.n)]) = .tup [.agg [bo oa, ES true ol], i6 (outE a L e0.s e0.n)] by
    rw [hol, hoa]; split
    · rename_i h; rw [h]
    · rfl]
  obtain ⟨oe, hoe⟩ : ∃ oe, oe = outE a L e0.s e0.n := ⟨_, rfl⟩
  rw [← hoe]
  simp
  refine v_draw (ord := [0, 1, 2, 3, 4]) (m := 3) (by decide +kernel) (by decide +kernel) ?_
  simp
  refine (v_Of (kk := true) (l := L) (lf := a) (by omega)).call ?_
  simp
  refine (v_rSame (kk := true) (km := true) (l := L) (m := L) (by omega) (a := a) (b := a)).call ?_
  simp
  refine (v_rCheck (kk := true) (l := L) (by omega) (lf := a)).call ?_
  simp
  refine CondV.on (fun h => ?_) (fun h => ?_)
  · have h1 : chk a L ≠ 0 := by simpa using h
    have hw : we = chk a L := by rw [hwe]; simp [withE, h1]
    have ho : oe = chk a L := by rw [hoe]; simp [outE, h1]
    simp
    refine v_known9t.call ?_
    simp
    refine (v_rCheck (kk := true) (l := L) (by omega) (lf := a)).call ?_
    simp [hw]
    refine (v_rCheck (kk := true) (l := L) (by omega) (lf := a)).call ?_
    simp [ho, Try.results9]
    first | (refine GV.ans hcl ?_; simp []; done) | (refine GV.ans0 ?_; simp []; done)
  have h1 : chk a L = 0 := by simpa using h
  have hlen := chk_len h1
  obtain ⟨_, har, hr, _⟩ := chk_ok h1
  simp
  refine v_loopX hC (fun (j : Nat) e T => ∃ w w' t t', T = H ++ [.mem [bo a, ES kk l] true, .mem (ec e0) true, .mem [bo a, ES true L] true, .mem [bo a, ES true L] true, .mem [bo wa, ES true wl] true, .mem [bo oa, ES true ol] true, .vec w ((wiL L e0 j).map ec) 3 true t, .vec w' ((woL L e0 j).map ec) 3 true t'] ∧ e 3 = .ptr (H.length + 1) 0 ∧ e 6 = .ptr (H.length + 3) 0 ∧ e 7 = .ptr (H.length + 4) 0 ∧ e 8 = i6 we ∧ e 9 = .ptr (H.length + 5) 0 ∧ e 10 = i6 oe ∧ e 11 = .own (H.length + 6) w ∧ e 12 = .own (H.length + 7) w' ∧ e 13 = bo (isJ L e0 j) ∧ e 14 = bo (decide (pAt L e0 < j)) ∧ e 15 = i6 j ∧ j ≤ L.length) (fun j => L.length - j) 0 ?_ ?_
  · refine G.nilZ2 (H := H) (Z := [.mem [bo a, ES kk l] true, .mem (ec e0) true, .mem [bo a, ES true L] true, .mem [bo a, ES true L] true, .mem [bo wa, ES true wl] true, .mem [bo oa, ES true ol] true]) (s := 3) (s' := 3) 11 12 hcl (by simp) (by omega) (by omega) (by simp) (by simp) (by simp) ?_
    exact ⟨0, 0, true, true, by simp [wiL, woL], by simp, by simp, by simp, by simp, by simp, by simp, by simp, by simp, by simp [isJ], by simp, by simp, by simp⟩
  · rintro j e T ⟨w, w', t, t', rfl, h3, h6, h7, h8, h9, h10, h11, h12, h13, h14, h15, hj⟩
    have hwl2 := wiL_len (l := L) (e := e0) (j := j)
    have hol2 := woL_len (l := L) (e := e0) (j := j)
    simp [h6, h15]
    refine CondV.dec (fun hlt => ?_) (fun hge => ?_)
    · have hlt : j < L.length := by omega
      simp
      refine v_draw (ord := [0, 1, 2, 3, 4, 5, 6, 7, 8, 9, 10, 11, 12, 13, 14]) (m := 12) (by decide +kernel) (by decide +kernel) ?_
      simp [h14]
      rcases Nat.lt_trichotomy (pAt L e0) j with c | c | c
      · simp [c]
        refine v_draw (ord := [0, 1, 2, 3, 4, 5, 6, 7, 8]) (m := 8) (by decide +kernel) (by decide +kernel) ?_
        simp [h3, h6, h15, getE hlt]
        refine CondV.on (fun hk => ?_) (fun hk => ?_)
        · have hne : neK e0 (ent L j) = false := by unfold neK; simpa using hk
          simp [h15, w64 (n := (j : Int) + 1) (by omega)]
          refine GH.refl ⟨j + 1, ⟨w, w', t, t', ?_, by simp [h3], by simp [h6], by simp [h7], by simp [h8], by simp [h9], by simp [h10], by simp [h11], by simp [h12], by rw [isJ_succ hlt, hne]; simp, by rw [show decide (pAt L e0 < j + 1) = decide (pAt L e0 < j) by rw [decide_eq_decide]; omega]; simp [h14], by simp, hlt⟩, by omega⟩
          rw [wiL_succ hlt (by omega), woL_succ hlt, hne]; simp
        · have hne : neK e0 (ent L j) = true := by unfold neK; rw [decide_eq_true_eq]; rintro ⟨g1, g2⟩; simp [g1, g2] at hk
          simp [h6, h11, h12, h15, getE hlt, w64 (n := (j : Int) + 1) (by omega)]
          refine ⟨by omega, by omega, GH.refl ⟨j + 1, ⟨w + 1, w' + 1, t, t', ?_, by simp [h3], by simp [h6], by simp [h7], by simp [h8], by simp [h9], by simp [h10], by simp, by simp, by rw [isJ_succ hlt, hne]; simp [h13], by rw [show decide (pAt L e0 < j + 1) = decide (pAt L e0 < j) by rw [decide_eq_decide]; omega]; simp [h14], by simp, hlt⟩, by omega⟩⟩
          rw [wiL_succ hlt (by omega), woL_succ hlt, hne]; simp
      · have hc1 : ¬ pAt L e0 < j := by omega
        have hpl : IntKind.i64.wrap (IntKind.i64.wrap (65536 * e0.s) + e0.n) ≤ IntKind.i64.wrap (IntKind.i64.wrap (65536 * (ent L j).s) + (ent L j).n) := by
          have := pAt_at (l := L) (e := e0) (by omega)
          rwa [c] at this
        simp [hc1, h3, h6, h14, h15, getE hlt]
        refine (v_Place _ _).call ?_
        simp [hc1, h3, h6, h14, h15, getE hlt]
        refine (v_Place _ _).call ?_
        simp [hc1, hpl, h3, h11, h14]
        refine ⟨by omega, ?_⟩
        refine v_draw (ord := [0, 1, 2, 3, 4, 5, 6, 7, 8]) (m := 8) (by decide +kernel) (by decide +kernel) ?_
        simp [h3, h6, h15, getE hlt]
        refine CondV.on (fun hk => ?_) (fun hk => ?_)
        · have hne : neK e0 (ent L j) = false := by unfold neK; simpa using hk
          simp [h15, w64 (n := (j : Int) + 1) (by omega)]
          refine GH.refl ⟨j + 1, ⟨w + 1, w', t, t', ?_, by simp [h3], by simp [h6], by simp [h7], by simp [h8], by simp [h9], by simp [h10], by simp [h11], by simp [h12], by rw [isJ_succ hlt, hne]; simp, by rw [show decide (pAt L e0 < j + 1) = true by simp; omega]; simp, by simp, hlt⟩, by omega⟩
          rw [wiL_put hlt c, woL_succ hlt, hne]; simp
        · have hne : neK e0 (ent L j) = true := by unfold neK; rw [decide_eq_true_eq]; rintro ⟨g1, g2⟩; simp [g1, g2] at hk
          simp [h6, h11, h12, h15, getE hlt, w64 (n := (j : Int) + 1) (by omega)]
          refine ⟨by omega, by omega, GH.refl ⟨j + 1, ⟨w + 1 + 1, w' + 1, t, t', ?_, by simp [h3], by simp [h6], by simp [h7], by simp [h8], by simp [h9], by simp [h10], by simp, by simp, by rw [isJ_succ hlt, hne]; simp [h13], by rw [show decide (pAt L e0 < j + 1) = true by simp; omega]; simp, by simp, hlt⟩, by omega⟩⟩
          rw [wiL_put hlt c, woL_succ hlt, hne]; simp
      · have hc1 : ¬ pAt L e0 < j := by omega
        have hpl : ¬ IntKind.i64.wrap (IntKind.i64.wrap (65536 * e0.s) + e0.n) ≤ IntKind.i64.wrap (IntKind.i64.wrap (65536 * (ent L j).s) + (ent L j).n) := by
          have := pAt_lt (l := L) (e := e0) (j := j) c
          unfold plW at this
          omega
        simp [hc1, h3, h6, h14, h15, getE hlt]
        refine (v_Place _ _).call ?_
        simp [hc1, h3, h6, h14, h15, getE hlt]
        refine (v_Place _ _).call ?_
        simp [hc1, hpl, h3, h11, h14]
        refine v_draw (ord := [0, 1, 2, 3, 4, 5, 6, 7, 8]) (m := 8) (by decide +kernel) (by decide +kernel) ?_
        simp [h3, h6, h15, getE hlt]
        refine CondV.on (fun hk => ?_) (fun hk => ?_)
        · have hne : neK e0 (ent L j) = false := by unfold neK; simpa using hk
          simp [h15, w64 (n := (j : Int) + 1) (by omega)]
          refine GH.refl ⟨j + 1, ⟨w, w', t, t', ?_, by simp [h3], by simp [h6], by simp [h7], by simp [h8], by simp [h9], by simp [h10], by simp [h11], by simp [h12], by rw [isJ_succ hlt, hne]; simp, by rw [show decide (pAt L e0 < j + 1) = decide (pAt L e0 < j) by rw [decide_eq_decide]; omega]; simp [h14], by simp, hlt⟩, by omega⟩
          rw [wiL_succ hlt (by omega), woL_succ hlt, hne]; simp
        · have hne : neK e0 (ent L j) = true := by unfold neK; rw [decide_eq_true_eq]; rintro ⟨g1, g2⟩; simp [g1, g2] at hk
          simp [h6, h11, h12, h15, getE hlt, w64 (n := (j : Int) + 1) (by omega)]
          refine ⟨by omega, by omega, GH.refl ⟨j + 1, ⟨w + 1, w' + 1, t, t', ?_, by simp [h3], by simp [h6], by simp [h7], by simp [h8], by simp [h9], by simp [h10], by simp, by simp, by rw [isJ_succ hlt, hne]; simp [h13], by rw [show decide (pAt L e0 < j + 1) = decide (pAt L e0 < j) by rw [decide_eq_decide]; omega]; simp [h14], by simp, hlt⟩, by omega⟩⟩
          rw [wiL_succ hlt (by omega), woL_succ hlt, hne]; simp
    · have hjl : j = L.length := by omega
      subst hjl
      have hWs := fun he => wiL_with har hr (e := e0) he
      rw [isJ_at hr] at h13
      simp [h14]
      refine CondV.on (fun hp => ?_) (fun hp => ?_)
      · have hp : ¬ pAt L e0 < L.length := by simpa using hp
        rw [if_neg hp] at hWs
        simp [h3, h11]
        refine ⟨by omega, ?_⟩
        obtain ⟨W, hW⟩ : ∃ W, W = wiL L e0 L.length ++ [e0] := ⟨_, rfl⟩
        rw [← hW] at hWs
        rw [show (wiL L e0 L.length).map ec ++ [[V.lit (Value.int IntKind.i64 e0.s), V.lit (Value.int IntKind.i64 e0.n), V.lit (Value.int IntKind.i64 e0.p)]] = W.map ec by rw [hW]; simp]
        have fin : ∀ {Q : Prop}, Q → Q := fun h => h
        cases his : isAt L e0.s e0.n with
        | true =>
          have ho : oe = 0 := by rw [hoe]; simp [outE, h1, his]
          have holw : ol = woL L e0 L.length := by rw [hol, ← hoe, if_pos ho, woL_out hr his]
          have hoaa : oa = a := by rw [hoa, ← hoe, if_pos ho]
          try simp
          refine v_draw (ord := [0, 1, 2, 3, 4, 5, 6, 7, 8, 9, 10, 11, 12, 13, 14, 15, 16, 17, 18, 19, 20, 21, 22]) (m := 9) (by decide +kernel) (by decide +kernel) ?_
          simp [h6, h9, h10, h12, h13, his, ho]
          refine (v_Of (kk := true) (l := ol) (lf := oa) (by rw [holw]; omega)).call ?_
          simp [h6, h9, h10, h12, h13, his, ho]
          refine (v_rSame (kk := true) (km := true) (l := ol) (m := woL L e0 L.length) (by rw [holw]; omega) (a := oa) (b := a)).callF [.agg [bo oa, ES true ol], .agg [bo a, ES true (woL L e0 L.length)]] (Frz.vec (g := H.length + 7) (w := w') (s := 3) (rows := (woL L e0 L.length).map ec) (rw := true) (t := t') (by simp) (by simp [PureR_map])) (by simp [UpFz, PureR_map]) ?_
          simp [holw, hoaa, h3, h10, h13, his, ho]
          refine (v_rRight e0.s e0.n e0.p).call ?_
          simp
          refine CondV.on (fun hr1 => ?_) (fun hr1 => ?_)
          · have hok : okE e0 = false := by unfold okE; simpa using hr1
            have hw : we = 10 := by rw [hwe]; simp [withE, h1, hok]
            simp
            refine v_known9t.call ?_
            simp [h8, hw, Try.results9]
            first | (refine GV.ans hcl ?_; simp []; done) | (refine GV.ans0 ?_; simp []; done)
          · have hok : okE e0 = true := by unfold okE; simpa using hr1
            have hW2 := hWs hok
            have hlong := wiL_long har hr (e := e0) hok
            rw [← hW2, his] at hlong
            simp [h11]
            refine CondV.dec (fun h16 => ?_) (fun h16 => ?_)
            · have hw : we = 6 := by
                rw [hwe]; unfold withE
                rw [if_neg (by simp [h1]), if_neg (by simp [hok]), if_pos (by
                  rw [his]
                  simp at hlong
                  first | omega | exact ⟨rfl, by omega⟩)]
              simp
              refine v_known9t.call ?_
              simp [h8, hw, Try.results9]
              first | (refine GV.ans hcl ?_; simp []; done) | (refine GV.ans0 ?_; simp []; done)
            · have hw : we = 0 := by
                rw [hwe]; unfold withE
                rw [if_neg (by simp [h1]), if_neg (by simp [hok]), if_neg (by
                  rw [his]
                  simp at hlong
                  first | (simp; done) | (rintro ⟨_, h⟩; omega))]
              have hwl2 : wl = W := by rw [hwl, ← hwe, if_pos hw, hW2]
              have hwa2 : wa = a := by rw [hwa, ← hwe, if_pos hw]
              simp
              refine v_draw (ord := [0, 1, 2, 3, 4, 5, 6, 7, 8, 9, 10, 11, 12, 13, 14]) (m := 10) (by decide +kernel) (by decide +kernel) ?_
              simp
              refine v_known9t.call ?_
              simp [h6, h7, h8, h11, hw, hwl2, hwa2]
              refine (v_Of (kk := true) (l := W) (lf := a) (by omega)).call ?_
              simp [h6, h7, h8, h11, hw]
              refine (v_rSame (kk := true) (km := true) (l := W) (m := W) (by omega) (a := a) (b := a)).callF [.agg [bo a, ES true W], .agg [bo a, ES true W]] (Frz.vec (g := H.length + 6) (s := 3) (rows := W.map ec) (rw := true) (t := t) (by simp; rfl) (by simp [PureR_map])) (by simp [UpFz, PureR_map]) ?_
              simp [Try.results9]
              first | (refine GV.ans hcl ?_; simp []; done) | (refine GV.ans0 ?_; simp []; done)
        | false =>
          have ho : oe = 7 := by rw [hoe]; simp [outE, h1, his]
          try simp
          refine v_draw (ord := [0, 1, 2, 3, 4, 5, 6, 7, 8, 9, 10, 11, 12, 13, 14, 15, 16, 17, 18, 19, 20, 21, 22]) (m := 9) (by decide +kernel) (by decide +kernel) ?_
          simp [h3, h6, h9, h10, h12, h13, his, ho]
          refine (v_rRight e0.s e0.n e0.p).call ?_
          simp
          refine CondV.on (fun hr1 => ?_) (fun hr1 => ?_)
          · have hok : okE e0 = false := by unfold okE; simpa using hr1
            have hw : we = 10 := by rw [hwe]; simp [withE, h1, hok]
            simp
            refine v_known9t.call ?_
            simp [h8, hw, Try.results9]
            first | (refine GV.ans hcl ?_; simp []; done) | (refine GV.ans0 ?_; simp []; done)
          · have hok : okE e0 = true := by unfold okE; simpa using hr1
            have hW2 := hWs hok
            have hlong := wiL_long har hr (e := e0) hok
            rw [← hW2, his] at hlong
            simp [h11]
            refine CondV.dec (fun h16 => ?_) (fun h16 => ?_)
            · have hw : we = 6 := by
                rw [hwe]; unfold withE
                rw [if_neg (by simp [h1]), if_neg (by simp [hok]), if_pos (by
                  rw [his]
                  simp at hlong
                  first | omega | exact ⟨rfl, by omega⟩)]
              simp
              refine v_known9t.call ?_
              simp [h8, hw, Try.results9]
              first | (refine GV.ans hcl ?_; simp []; done) | (refine GV.ans0 ?_; simp []; done)
            · have hw : we = 0 := by
                rw [hwe]; unfold withE
                rw [if_neg (by simp [h1]), if_neg (by simp [hok]), if_neg (by
                  rw [his]
                  simp at hlong
                  first | (simp; done) | (rintro ⟨_, h⟩; omega))]
              have hwl2 : wl = W := by rw [hwl, ← hwe, if_pos hw, hW2]
              have hwa2 : wa = a := by rw [hwa, ← hwe, if_pos hw]
              simp
              refine v_draw (ord := [0, 1, 2, 3, 4, 5, 6, 7, 8, 9, 10, 11, 12, 13, 14]) (m := 10) (by decide +kernel) (by decide +kernel) ?_
              simp
              refine v_known9t.call ?_
              simp [h6, h7, h8, h11, hw, hwl2, hwa2]
              refine (v_Of (kk := true) (l := W) (lf := a) (by omega)).call ?_
              simp [h6, h7, h8, h11, hw]
              refine (v_rSame (kk := true) (km := true) (l := W) (m := W) (by omega) (a := a) (b := a)).callF [.agg [bo a, ES true W], .agg [bo a, ES true W]] (Frz.vec (g := H.length + 6) (s := 3) (rows := W.map ec) (rw := true) (t := t) (by simp; rfl) (by simp [PureR_map])) (by simp [UpFz, PureR_map]) ?_
              simp [Try.results9]
              first | (refine GV.ans hcl ?_; simp []; done) | (refine GV.ans0 ?_; simp []; done)
      · have hp : pAt L e0 < L.length := by simpa using hp
        rw [if_pos hp] at hWs
        obtain ⟨W, hW⟩ : ∃ W, W = wiL L e0 L.length := ⟨_, rfl⟩
        rw [← hW] at hWs
        rw [← hW]
        have fin : ∀ {Q : Prop}, Q → Q := fun h => h
        cases his : isAt L e0.s e0.n with
        | true =>
          have ho : oe = 0 := by rw [hoe]; simp [outE, h1, his]
          have holw : ol = woL L e0 L.length := by rw [hol, ← hoe, if_pos ho, woL_out hr his]
          have hoaa : oa = a := by rw [hoa, ← hoe, if_pos ho]
          try simp
          refine v_draw (ord := [0, 1, 2, 3, 4, 5, 6, 7, 8, 9, 10, 11, 12, 13, 14, 15, 16, 17, 18, 19, 20, 21, 22]) (m := 9) (by decide +kernel) (by decide +kernel) ?_
          simp [h6, h9, h10, h12, h13, his, ho]
          refine (v_Of (kk := true) (l := ol) (lf := oa) (by rw [holw]; omega)).call ?_
          simp [h6, h9, h10, h12, h13, his, ho]
          refine (v_rSame (kk := true) (km := true) (l := ol) (m := woL L e0 L.length) (by rw [holw]; omega) (a := oa) (b := a)).callF [.agg [bo oa, ES true ol], .agg [bo a, ES true (woL L e0 L.length)]] (Frz.vec (g := H.length + 7) (w := w') (s := 3) (rows := (woL L e0 L.length).map ec) (rw := true) (t := t') (by simp) (by simp [PureR_map])) (by simp [UpFz, PureR_map]) ?_
          simp [holw, hoaa, h3, h10, h13, his, ho]
          refine (v_rRight e0.s e0.n e0.p).call ?_
          simp
          refine CondV.on (fun hr1 => ?_) (fun hr1 => ?_)
          · have hok : okE e0 = false := by unfold okE; simpa using hr1
            have hw : we = 10 := by rw [hwe]; simp [withE, h1, hok]
            simp
            refine v_known9t.call ?_
            simp [h8, hw, Try.results9]
            first | (refine GV.ans hcl ?_; simp []; done) | (refine GV.ans0 ?_; simp []; done)
          · have hok : okE e0 = true := by unfold okE; simpa using hr1
            have hW2 := hWs hok
            have hlong := wiL_long har hr (e := e0) hok
            rw [← hW2, his] at hlong
            simp [h11]
            refine CondV.dec (fun h16 => ?_) (fun h16 => ?_)
            · have hw : we = 6 := by
                rw [hwe]; unfold withE
                rw [if_neg (by simp [h1]), if_neg (by simp [hok]), if_pos (by
                  rw [his]
                  simp at hlong
                  first | omega | exact ⟨rfl, by omega⟩)]
              simp
              refine v_known9t.call ?_
              simp [h8, hw, Try.results9]
              first | (refine GV.ans hcl ?_; simp []; done) | (refine GV.ans0 ?_; simp []; done)
            · have hw : we = 0 := by
                rw [hwe]; unfold withE
                rw [if_neg (by simp [h1]), if_neg (by simp [hok]), if_neg (by
                  rw [his]
                  simp at hlong
                  first | (simp; done) | (rintro ⟨_, h⟩; omega))]
              have hwl2 : wl = W := by rw [hwl, ← hwe, if_pos hw, hW2]
              have hwa2 : wa = a := by rw [hwa, ← hwe, if_pos hw]
              simp
              refine v_draw (ord := [0, 1, 2, 3, 4, 5, 6, 7, 8, 9, 10, 11, 12, 13, 14]) (m := 10) (by decide +kernel) (by decide +kernel) ?_
              simp
              refine v_known9t.call ?_
              simp [h6, h7, h8, h11, hw, hwl2, hwa2]
              refine (v_Of (kk := true) (l := W) (lf := a) (by omega)).call ?_
              simp [h6, h7, h8, h11, hw]
              refine (v_rSame (kk := true) (km := true) (l := W) (m := W) (by omega) (a := a) (b := a)).callF [.agg [bo a, ES true W], .agg [bo a, ES true W]] (Frz.vec (g := H.length + 6) (s := 3) (rows := W.map ec) (rw := true) (t := t) (by simp; rfl) (by simp [PureR_map])) (by simp [UpFz, PureR_map]) ?_
              simp [Try.results9]
              first | (refine GV.ans hcl ?_; simp []; done) | (refine GV.ans0 ?_; simp []; done)
        | false =>
          have ho : oe = 7 := by rw [hoe]; simp [outE, h1, his]
          try simp
          refine v_draw (ord := [0, 1, 2, 3, 4, 5, 6, 7, 8, 9, 10, 11, 12, 13, 14, 15, 16, 17, 18, 19, 20, 21, 22]) (m := 9) (by decide +kernel) (by decide +kernel) ?_
          simp [h3, h6, h9, h10, h12, h13, his, ho]
          refine (v_rRight e0.s e0.n e0.p).call ?_
          simp
          refine CondV.on (fun hr1 => ?_) (fun hr1 => ?_)
          · have hok : okE e0 = false := by unfold okE; simpa using hr1
            have hw : we = 10 := by rw [hwe]; simp [withE, h1, hok]
            simp
            refine v_known9t.call ?_
            simp [h8, hw, Try.results9]
            first | (refine GV.ans hcl ?_; simp []; done) | (refine GV.ans0 ?_; simp []; done)
          · have hok : okE e0 = true := by unfold okE; simpa using hr1
            have hW2 := hWs hok
            have hlong := wiL_long har hr (e := e0) hok
            rw [← hW2, his] at hlong
            simp [h11]
            refine CondV.dec (fun h16 => ?_) (fun h16 => ?_)
            · have hw : we = 6 := by
                rw [hwe]; unfold withE
                rw [if_neg (by simp [h1]), if_neg (by simp [hok]), if_pos (by
                  rw [his]
                  simp at hlong
                  first | omega | exact ⟨rfl, by omega⟩)]
              simp
              refine v_known9t.call ?_
              simp [h8, hw, Try.results9]
              first | (refine GV.ans hcl ?_; simp []; done) | (refine GV.ans0 ?_; simp []; done)
            · have hw : we = 0 := by
                rw [hwe]; unfold withE
                rw [if_neg (by simp [h1]), if_neg (by simp [hok]), if_neg (by
                  rw [his]
                  simp at hlong
                  first | (simp; done) | (rintro ⟨_, h⟩; omega))]
              have hwl2 : wl = W := by rw [hwl, ← hwe, if_pos hw, hW2]
              have hwa2 : wa = a := by rw [hwa, ← hwe, if_pos hw]
              simp
              refine v_draw (ord := [0, 1, 2, 3, 4, 5, 6, 7, 8, 9, 10, 11, 12, 13, 14]) (m := 10) (by decide +kernel) (by decide +kernel) ?_
              simp
              refine v_known9t.call ?_
              simp [h6, h7, h8, h11, hw, hwl2, hwa2]
              refine (v_Of (kk := true) (l := W) (lf := a) (by omega)).call ?_
              simp [h6, h7, h8, h11, hw]
              refine (v_rSame (kk := true) (km := true) (l := W) (m := W) (by omega) (a := a) (b := a)).callF [.agg [bo a, ES true W], .agg [bo a, ES true W]] (Frz.vec (g := H.length + 6) (s := 3) (rows := W.map ec) (rw := true) (t := t) (by simp; rfl) (by simp [PureR_map])) (by simp [UpFz, PureR_map]) ?_
              simp [Try.results9]
              first | (refine GV.ans hcl ?_; simp []; done) | (refine GV.ans0 ?_; simp []; done)
end Go.Proofs.Ytenbclcfhjdcaaa.VM
end
