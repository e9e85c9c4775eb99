/- What the proof of CommandReads rests on, part 7 of 7. -/
import Derived.Test.YtenbclcfhjdcaaaDoorCommandReadsP6
import Derived.Test.YtenbclcfhjdcaaaDoorCommandReadsS
section
set_option maxHeartbeats 8000000
set_option linter.unusedVariables false
set_option linter.unusedSimpArgs false

/- Law CommandBytes. -/
namespace Go.Proofs.YtenbclcfhjdcaaaDoor.VM
open Go Go.Proofs AM B
set_option maxRecDepth 100000
set_option maxHeartbeats 8000000
theorem vD_ok {k a b c : Int} {bs rest : List Int} : vD (k, (a, b, c), bs, rest, 0) = .tup [Cv k a b c (if hasB k then BS true bs else .lit (.slice none 0 0)), BS true rest, i6 0] := by simp [vD]
theorem chk_bytes {k a b c : Int} {l : List Int} (he : chkC k a b c l = 0) : hasB k = true ∨ l = [] := by
  have h11 := chk_kind he
  by_cases h9 : k = 9
  · subst h9; exact .inr (chk_nine he).2.2.2
  · by_cases h3 : k ≤ 3
    · exact (chk_one ⟨h11.1, h3⟩ he).2.2.2
    · exact (chk_zero' h11 (by omega) he).2.2.2
theorem g_venc {n : Int} {rest : List Int} (h : 0 ≤ n) (h9 : n < 9223372036854775808) : gE (venc n.toNat ++ rest) = 0 ∧ gV_ (venc n.toNat ++ rest) = n ∧ gR (venc n.toNat ++ rest) = rest := by
  have h1 := getN_venc (n := n.toNat) (rest := rest) (by omega)
  unfold gE gV_ gR
  rw [h1]
  refine ⟨rfl, ?_, ?_⟩
  · show ((n.toNat : Nat) : Int) = n; omega
  · simp
theorem decT_text {a : Int} {l x : List Int} (hl : l.length ≤ 1100) : decT a (venc l.length ++ l ++ x) = ((a, 0, 0), l, x, 0) := by
  have h := getT_text (b := l) (rest := x) (by omega)
  rw [← List.append_assoc] at h
  unfold decT
  rw [h, if_neg (fun h => h rfl)]
theorem dec_enc {k a b c : Int} {l x : List Int} (he : chkC k a b c l = 0) (ha9 : a < 9223372036854775808) (hb9 : b < 9223372036854775808) (hc9 : c < 9223372036854775808) (hl : l.length ≤ 1100) : decC (encC k a b c l ++ x) = (k, (a, b, c), l, x, 0) := by
  have h11 := chk_kind he
  by_cases h9 : k = 9
  · subst h9
    obtain ⟨p1, p2, p3, rfl⟩ := chk_nine he
    rw [encC9]
    show (9, dec9 ((venc a.toNat ++ (venc b.toNat ++ venc c.toNat)) ++ x)) = _
    rw [List.append_assoc, List.append_assoc]
    obtain ⟨q1, q2, q3⟩ := g_venc (rest := venc b.toNat ++ (venc c.toNat ++ x)) p1 ha9
    obtain ⟨r1, r2, r3⟩ := g_venc (rest := venc c.toNat ++ x) p2 hb9
    obtain ⟨s1, s2, s3⟩ := g_venc (rest := x) p3 hc9
    unfold dec9
    rw [q3, r3, s3, q1, q2, r1, r2, s1, s2]
    rfl
  · by_cases h3 : k ≤ 3
    · have h13 : 1 ≤ k ∧ k ≤ 3 := ⟨h11.1, h3⟩
      obtain ⟨p1, rfl, rfl, p4⟩ := chk_one h13 he
      rw [encC1 h13]
      show (if 1 ≤ k ∧ k ≤ 11 then (k, decK k ((venc a.toNat ++ (if hasB k = true then venc l.length ++ l else [])) ++ x)) else (0, bad 13)) = _
      rw [if_pos h11]
      unfold decK
      rw [if_neg h9, if_pos h13, List.append_assoc]
      obtain ⟨q1, q2, q3⟩ := g_venc (rest := (if hasB k = true then venc l.length ++ l else []) ++ x) p1 ha9
      unfold dec1
      rw [q3, q1, q2]
      rcases p4 with p4 | p4
      · rw [p4, if_pos rfl, if_neg (fun h => h rfl), if_pos rfl, decT_text hl]
      · subst p4
        cases hh : hasB k
        · rfl
        · rw [if_pos rfl, if_neg (fun h => h rfl), if_pos rfl, decT_text hl]
    · have h13 : ¬ (1 ≤ k ∧ k ≤ 3 ∨ k = 9) := by omega
      obtain ⟨rfl, rfl, rfl, p4⟩ := chk_zero' h11 h13 he
      rw [encC0 h11 h13]
      show (if 1 ≤ k ∧ k ≤ 11 then (k, decK k ((if hasB k = true then venc l.length ++ l else []) ++ x)) else (0, bad 13)) = _
      rw [if_pos h11]
      unfold decK
      rw [if_neg h9, if_neg (by omega)]
      unfold dec0
      rcases p4 with p4 | p4
      · rw [p4, if_pos rfl, if_pos rfl, decT_text hl]
      · subst p4
        cases hh : hasB k
        · rfl
        · rw [if_pos rfl, if_pos rfl, decT_text hl]
theorem encC_len {k a b c : Int} {l : List Int} (hl : l.length ≤ 1100) : (encC k a b c l).length ≤ 1200 := by
  have va := venc_length a.toNat
  have vb := venc_length b.toNat
  have vc := venc_length c.toNat
  have vl := venc_length l.length
  unfold encC
  split <;> split <;> (try split) <;> simp <;> omega
theorem encC_byte {k a b c : Int} {l : List Int} (hk : 1 ≤ k ∧ k ≤ 11) (bl : ∀ x ∈ l, 0 ≤ x ∧ x ≤ 255) : ∀ x ∈ encC k a b c l, 0 ≤ x ∧ x ≤ 255 := by
  intro x hx
  unfold encC at hx
  rcases List.mem_cons.1 hx with rfl | hx
  · omega
  rcases List.mem_append.1 hx with hx | hx
  · split at hx
    · rcases List.mem_append.1 hx with hx | hx
      · exact vencF_byte _ _ _ hx
      · rcases List.mem_append.1 hx with hx | hx <;> exact vencF_byte _ _ _ hx
    · split at hx
      · exact vencF_byte _ _ _ hx
      · simp at hx
  · split at hx
    · rcases List.mem_append.1 hx with hx | hx
      · exact vencF_byte _ _ _ hx
      · exact bl x hx
    · simp at hx
theorem v_Changes {k : Int} : A 40 [i6 k] (bo (decide (0 < k) && decide (k < 7))) := by
  rw [show decide (0 < k) = decide (1 ≤ k) from decide_eq_decide.2 (by omega), show decide (k < 7) = decide (k ≤ 6) from decide_eq_decide.2 (by omega)]
  intro H
  refine v_enter hC [] (fun _ _ => kn_none rfl) Tryd.func40 rfl ok40 (Nat.le_of_ble_eq_true rfl) fun hcl hbl => ?_
  simp
  by_cases h1 : 1 ≤ k
  · simp [h1, Tryd.results40]
    first | (refine GV.ans hcl ?_; simp [h1]; done) | (refine GV.ans0 ?_; simp [h1]; done)
  · simp [h1, Tryd.results40]
    first | (refine GV.ans hcl ?_; simp [h1]; done) | (refine GV.ans0 ?_; simp [h1]; done)
theorem wordOf_cells {k : Int} (h0 : 0 < k) (h12 : k < 12) : ([.lit (.string ⟨#[]⟩), .lit (.string ⟨#[97, 100, 100]⟩), .lit (.string ⟨#[100, 101, 108, 101, 116, 101]⟩), .lit (.string ⟨#[115, 116, 101, 112]⟩), .lit (.string ⟨#[115, 116, 97, 103, 101]⟩), .lit (.string ⟨#[99, 111, 109, 109, 105, 116]⟩), .lit (.string ⟨#[97, 98, 111, 114, 116]⟩), .lit (.string ⟨#[99, 111, 117, 110, 116]⟩), .lit (.string ⟨#[108, 111, 99, 97, 116, 101]⟩), .lit (.string ⟨#[101, 120, 116, 114, 97, 99, 116]⟩), .lit (.string ⟨#[108, 105, 115, 116]⟩), .lit (.string ⟨#[115, 116, 97, 116]⟩)] : List V)[k.toNat]? = some (.lit (.string (TW.wordOf k))) := by
  obtain rfl | rfl | rfl | rfl | rfl | rfl | rfl | rfl | rfl | rfl | rfl : k = 1 ∨ k = 2 ∨ k = 3 ∨ k = 4 ∨ k = 5 ∨ k = 6 ∨ k = 7 ∨ k = 8 ∨ k = 9 ∨ k = 10 ∨ k = 11 := by omega
  all_goals rfl
theorem v_CommandBytes {k a b c kind : Int} {kk kb : Bool} {l x : List Int} (hk : -9223372036854775808 ≤ k ∧ k ≤ 9223372036854775807) (hkd : -9223372036854775808 ≤ kind ∧ kind ≤ 9223372036854775807) (ha9 : a < 9223372036854775808) (hb9 : b < 9223372036854775808) (hc9 : c < 9223372036854775808)
    (hl : l.length < 2 ^ 63) (hx : x.length < 2 ^ 63) (bl : ∀ y ∈ l, 0 ≤ y ∧ y ≤ 255) (bx : ∀ y ∈ x, 0 ≤ y ∧ y ≤ 255) : A 7 [Cv k a b c (BS kk l), BS kb x, i6 kind] (bo true) := by
  intro H
  unfold Cv
  refine v_enter hC [84] (fun _ _ => kn_none rfl) Tryd.func7 rfl ok7 (Nat.le_of_ble_eq_true rfl) fun hcl hbl => ?_
  simp
  refine (v_To (k := k) (a := a) (b := b) (c := c) (kk := kk) (l := l) hl).callU [Cv k a b c (BS kk l)] (by simp [Cv]) ?_
  obtain ⟨m, hm⟩ : ∃ m, l.take 1100 = m := ⟨_, rfl⟩
  have hml : m.length ≤ 1100 := by rw [← hm, List.length_take]; omega
  have bm : ∀ y ∈ m, 0 ≤ y ∧ y ≤ 255 := fun y hy => bl y (List.mem_of_mem_take (hm ▸ hy))
  rw [hm]
  unfold Cv
  simp
  refine (v_Of (k := k) (a := a) (b := b) (c := c) (kk := true) (l := m)).callU [Cv k a b c (BS true m)] (by simp [Cv]) ?_
  unfold Cv
  have hbd : bounds x.length x.length none (some (if 20 < (x.length : Int) then 20 else (x.length : Int))) none = some (0, min x.length 20, x.length) := by
    rw [show (if 20 < (x.length : Int) then 20 else (x.length : Int)) = ((min x.length 20 : Nat) : Int) by split <;> omega]
    exact bounds_hi (by omega)
  simp [hbd]
  rw [← List.map_take]
  obtain ⟨y, hy⟩ : ∃ y, x.take (min x.length 20) = y := ⟨_, rfl⟩
  have hyl : y.length ≤ 20 := by rw [← hy, List.length_take]; omega
  have bY : ∀ z ∈ y, 0 ≤ z ∧ z ≤ 255 := fun z hz => bx z (List.mem_of_mem_take (hy ▸ hz))
  rw [hy]
  refine (v_cEncode (k := k) (a := a) (b := b) (c := c) (l := m) hk ha9 hb9 hc9 bm hml).callU [Cv k a b c (BS true m)] (by simp [Cv]) ?_
  simp
  refine (v_r30Check (k := k) (a := a) (b := b) (c := c) (kk := true) (l := m)).callU [Cv k a b c (BS true m)] (by simp [Cv]) ?_
  simp
  by_cases h0 : 0 < kind
  · by_cases h12 : kind < 12
    · have hwc := wordOf_cells h0 h12
      have hnn : 0 ≤ kind := by omega
      have h12' : kind ≤ 12 := by omega
      have hE : True := trivial
      have hwg := (List.getElem_eq_iff (by simp; omega)).2 hwc
      simp [h0, h12, hnn, h12', hwg]
      refine (v_cCheck (k := k) (a := a) (b := b) (c := c) (kk := true) (l := m) hk bm).callU [Cv k a b c (BS true m)] (by simp [Cv]) ?_
      simp
      refine (v_cSame (k := k) (a := a) (b := b) (c := c) (k' := k) (a' := a) (b' := b) (c' := c) (kk := true) (kl := true) (l := m) (m := m) bm bm).callU [Cv k a b c (BS true m), Cv k a b c (BS true m)] (by simp [Cv]) ?_
      simp
      refine (v_Word (k := kind) hkd).call ?_
      simp [hE]
      refine (v_Changes (k := kind)).call ?_
      by_cases g0 : 0 < kind
      · by_cases g7 : kind < 7
        · simp [g0, g7]
          by_cases he : chkC k a b c m = 0
          case neg =>
            have hE' : encE' k a b c m = [] := by unfold encE'; rw [if_neg he]
            simp [he]
            refine v_known.call ?_
            simp [hE', Tryd.results7]
            first | (refine GV.ans hcl ?_; simp []; done) | (refine GV.ans0 ?_; simp []; done)
          have hE' : encE' k a b c m = encC k a b c m := by unfold encE'; rw [if_pos he]
          have h11 := chk_kind he
          have hEl := encC_len (k := k) (a := a) (b := b) (c := c) hml
          have hcb := encC_byte (a := a) (b := b) (c := c) h11 bm
          have hdc := dec_enc (x := y) he ha9 hb9 hc9 hml
          obtain ⟨E, hEn⟩ : ∃ E, encC k a b c m = E := ⟨_, rfl⟩
          rw [hEn] at hEl hcb hdc hE'
          simp [he, hE']
          refine ⟨by omega, by omega, ?_⟩
          have hD := v_cDecode (kk := true) (l := E ++ y) (by rw [List.length_append]; omega) (fun z hz => (List.mem_append.1 hz).elim (hcb z) (bY z))
          rw [hdc, vD_ok] at hD
          have hN := v_r30Encode (kk := true) he ha9 hb9 hc9 hml
          rw [hEn] at hN
          refine hD.callF [BS true (E ++ y)] (Frz.vec (g := H.length + 4) (w := 2) (s := 1) (rows := (E ++ y).map bc) (rw := true) (t := true) (by simp) (by simp)) (by simp) ?_
          cases hh : hasB k
          · have hm0 : m = [] := (chk_bytes he).resolve_left (by rw [hh]; decide)
            simp [Cv]
            refine v_known.call ?_
            simp
            refine hN.callU [Cv k a b c (BS true m)] (by simp [Cv]) ?_
            simp
            refine (v_Same1 (kk := true) (km := true) (l := encE' k a b c m) (m := E) (by rw [hE']; omega)).call ?_
            simp [hE']
            refine (v_cSame (k := k) (a := a) (b := b) (c := c) (k' := k) (a' := a) (b' := b) (c' := c) (kk := true) (kl := true) (l := []) (m := m) (by simp) bm).callU [Cv k a b c (BS true []), Cv k a b c (BS true m)] (by simp [Cv]) ?_
            simp [hm0]
            refine (v_Same1 (kk := true) (km := kb) (l := y) (m := y) (by omega)).callU [BS true y, BS kb y] (by simp) ?_
            simp [Tryd.results7]
            first | (refine GV.ans hcl ?_; simp []; done) | (refine GV.ans0 ?_; simp []; done)
          · simp [Cv]
            refine v_known.call ?_
            simp
            refine hN.callU [Cv k a b c (BS true m)] (by simp [Cv]) ?_
            simp
            refine (v_Same1 (kk := true) (km := true) (l := encE' k a b c m) (m := E) (by rw [hE']; omega)).call ?_
            simp [hE']
            refine (v_cSame (k := k) (a := a) (b := b) (c := c) (k' := k) (a' := a) (b' := b) (c' := c) (kk := true) (kl := true) (l := m) (m := m) bm bm).callU [Cv k a b c (BS true m), Cv k a b c (BS true m)] (by simp [Cv]) ?_
            simp
            refine (v_Same1 (kk := true) (km := kb) (l := y) (m := y) (by omega)).callU [BS true y, BS kb y] (by simp) ?_
            simp [Tryd.results7]
            first | (refine GV.ans hcl ?_; simp []; done) | (refine GV.ans0 ?_; simp []; done)
        · simp [g0, g7]
          by_cases he : chkC k a b c m = 0
          case neg =>
            have hE' : encE' k a b c m = [] := by unfold encE'; rw [if_neg he]
            simp [he]
            refine v_known.call ?_
            simp [hE', Tryd.results7]
            first | (refine GV.ans hcl ?_; simp []; done) | (refine GV.ans0 ?_; simp []; done)
          have hE' : encE' k a b c m = encC k a b c m := by unfold encE'; rw [if_pos he]
          have h11 := chk_kind he
          have hEl := encC_len (k := k) (a := a) (b := b) (c := c) hml
          have hcb := encC_byte (a := a) (b := b) (c := c) h11 bm
          have hdc := dec_enc (x := y) he ha9 hb9 hc9 hml
          obtain ⟨E, hEn⟩ : ∃ E, encC k a b c m = E := ⟨_, rfl⟩
          rw [hEn] at hEl hcb hdc hE'
          simp [he, hE']
          refine ⟨by omega, by omega, ?_⟩
          have hD := v_cDecode (kk := true) (l := E ++ y) (by rw [List.length_append]; omega) (fun z hz => (List.mem_append.1 hz).elim (hcb z) (bY z))
          rw [hdc, vD_ok] at hD
          have hN := v_r30Encode (kk := true) he ha9 hb9 hc9 hml
          rw [hEn] at hN
          refine hD.callF [BS true (E ++ y)] (Frz.vec (g := H.length + 4) (w := 2) (s := 1) (rows := (E ++ y).map bc) (rw := true) (t := true) (by simp) (by simp)) (by simp) ?_
          cases hh : hasB k
          · have hm0 : m = [] := (chk_bytes he).resolve_left (by rw [hh]; decide)
            simp [Cv]
            refine v_known.call ?_
            simp
            refine hN.callU [Cv k a b c (BS true m)] (by simp [Cv]) ?_
            simp
            refine (v_Same1 (kk := true) (km := true) (l := encE' k a b c m) (m := E) (by rw [hE']; omega)).call ?_
            simp [hE']
            refine (v_cSame (k := k) (a := a) (b := b) (c := c) (k' := k) (a' := a) (b' := b) (c' := c) (kk := true) (kl := true) (l := []) (m := m) (by simp) bm).callU [Cv k a b c (BS true []), Cv k a b c (BS true m)] (by simp [Cv]) ?_
            simp [hm0]
            refine (v_Same1 (kk := true) (km := kb) (l := y) (m := y) (by omega)).callU [BS true y, BS kb y] (by simp) ?_
            simp [Tryd.results7]
            first | (refine GV.ans hcl ?_; simp []; done) | (refine GV.ans0 ?_; simp []; done)
          · simp [Cv]
            refine v_known.call ?_
            simp
            refine hN.callU [Cv k a b c (BS true m)] (by simp [Cv]) ?_
            simp
            refine (v_Same1 (kk := true) (km := true) (l := encE' k a b c m) (m := E) (by rw [hE']; omega)).call ?_
            simp [hE']
            refine (v_cSame (k := k) (a := a) (b := b) (c := c) (k' := k) (a' := a) (b' := b) (c' := c) (kk := true) (kl := true) (l := m) (m := m) bm bm).callU [Cv k a b c (BS true m), Cv k a b c (BS true m)] (by simp [Cv]) ?_
            simp
            refine (v_Same1 (kk := true) (km := kb) (l := y) (m := y) (by omega)).callU [BS true y, BS kb y] (by simp) ?_
            simp [Tryd.results7]
            first | (refine GV.ans hcl ?_; simp []; done) | (refine GV.ans0 ?_; simp []; done)
      · simp [g0]
        by_cases he : chkC k a b c m = 0
        case neg =>
          have hE' : encE' k a b c m = [] := by unfold encE'; rw [if_neg he]
          simp [he]
          refine v_known.call ?_
          simp [hE', Tryd.results7]
          first | (refine GV.ans hcl ?_; simp []; done) | (refine GV.ans0 ?_; simp []; done)
        have hE' : encE' k a b c m = encC k a b c m := by unfold encE'; rw [if_pos he]
        have h11 := chk_kind he
        have hEl := encC_len (k := k) (a := a) (b := b) (c := c) hml
        have hcb := encC_byte (a := a) (b := b) (c := c) h11 bm
        have hdc := dec_enc (x := y) he ha9 hb9 hc9 hml
        obtain ⟨E, hEn⟩ : ∃ E, encC k a b c m = E := ⟨_, rfl⟩
        rw [hEn] at hEl hcb hdc hE'
        simp [he, hE']
        refine ⟨by omega, by omega, ?_⟩
        have hD := v_cDecode (kk := true) (l := E ++ y) (by rw [List.length_append]; omega) (fun z hz => (List.mem_append.1 hz).elim (hcb z) (bY z))
        rw [hdc, vD_ok] at hD
        have hN := v_r30Encode (kk := true) he ha9 hb9 hc9 hml
        rw [hEn] at hN
        refine hD.callF [BS true (E ++ y)] (Frz.vec (g := H.length + 4) (w := 2) (s := 1) (rows := (E ++ y).map bc) (rw := true) (t := true) (by simp) (by simp)) (by simp) ?_
        cases hh : hasB k
        · have hm0 : m = [] := (chk_bytes he).resolve_left (by rw [hh]; decide)
          simp [Cv]
          refine v_known.call ?_
          simp
          refine hN.callU [Cv k a b c (BS true m)] (by simp [Cv]) ?_
          simp
          refine (v_Same1 (kk := true) (km := true) (l := encE' k a b c m) (m := E) (by rw [hE']; omega)).call ?_
          simp [hE']
          refine (v_cSame (k := k) (a := a) (b := b) (c := c) (k' := k) (a' := a) (b' := b) (c' := c) (kk := true) (kl := true) (l := []) (m := m) (by simp) bm).callU [Cv k a b c (BS true []), Cv k a b c (BS true m)] (by simp [Cv]) ?_
          simp [hm0]
          refine (v_Same1 (kk := true) (km := kb) (l := y) (m := y) (by omega)).callU [BS true y, BS kb y] (by simp) ?_
          simp [Tryd.results7]
          first | (refine GV.ans hcl ?_; simp []; done) | (refine GV.ans0 ?_; simp []; done)
        · simp [Cv]
          refine v_known.call ?_
          simp
          refine hN.callU [Cv k a b c (BS true m)] (by simp [Cv]) ?_
          simp
          refine (v_Same1 (kk := true) (km := true) (l := encE' k a b c m) (m := E) (by rw [hE']; omega)).call ?_
          simp [hE']
          refine (v_cSame (k := k) (a := a) (b := b) (c := c) (k' := k) (a' := a) (b' := b) (c' := c) (kk := true) (kl := true) (l := m) (m := m) bm bm).callU [Cv k a b c (BS true m), Cv k a b c (BS true m)] (by simp [Cv]) ?_
          simp
          refine (v_Same1 (kk := true) (km := kb) (l := y) (m := y) (by omega)).callU [BS true y, BS kb y] (by simp) ?_
          simp [Tryd.results7]
          first | (refine GV.ans hcl ?_; simp []; done) | (refine GV.ans0 ?_; simp []; done)
    · have hE := wordOf_none (k := kind) (by omega)
      simp [h0, h12]
      refine (v_cCheck (k := k) (a := a) (b := b) (c := c) (kk := true) (l := m) hk bm).callU [Cv k a b c (BS true m)] (by simp [Cv]) ?_
      simp
      refine (v_cSame (k := k) (a := a) (b := b) (c := c) (k' := k) (a' := a) (b' := b) (c' := c) (kk := true) (kl := true) (l := m) (m := m) bm bm).callU [Cv k a b c (BS true m), Cv k a b c (BS true m)] (by simp [Cv]) ?_
      simp
      refine (v_Word (k := kind) hkd).call ?_
      simp [hE]
      refine (v_Changes (k := kind)).call ?_
      by_cases g0 : 0 < kind
      · by_cases g7 : kind < 7
        · simp [g0, g7]
          by_cases he : chkC k a b c m = 0
          case neg =>
            have hE' : encE' k a b c m = [] := by unfold encE'; rw [if_neg he]
            simp [he]
            refine v_known.call ?_
            simp [hE', Tryd.results7]
            first | (refine GV.ans hcl ?_; simp []; done) | (refine GV.ans0 ?_; simp []; done)
          have hE' : encE' k a b c m = encC k a b c m := by unfold encE'; rw [if_pos he]
          have h11 := chk_kind he
          have hEl := encC_len (k := k) (a := a) (b := b) (c := c) hml
          have hcb := encC_byte (a := a) (b := b) (c := c) h11 bm
          have hdc := dec_enc (x := y) he ha9 hb9 hc9 hml
          obtain ⟨E, hEn⟩ : ∃ E, encC k a b c m = E := ⟨_, rfl⟩
          rw [hEn] at hEl hcb hdc hE'
          simp [he, hE']
          refine ⟨by omega, by omega, ?_⟩
          have hD := v_cDecode (kk := true) (l := E ++ y) (by rw [List.length_append]; omega) (fun z hz => (List.mem_append.1 hz).elim (hcb z) (bY z))
          rw [hdc, vD_ok] at hD
          have hN := v_r30Encode (kk := true) he ha9 hb9 hc9 hml
          rw [hEn] at hN
          refine hD.callF [BS true (E ++ y)] (Frz.vec (g := H.length + 4) (w := 2) (s := 1) (rows := (E ++ y).map bc) (rw := true) (t := true) (by simp) (by simp)) (by simp) ?_
          cases hh : hasB k
          · have hm0 : m = [] := (chk_bytes he).resolve_left (by rw [hh]; decide)
            simp [Cv]
            refine v_known.call ?_
            simp
            refine hN.callU [Cv k a b c (BS true m)] (by simp [Cv]) ?_
            simp
            refine (v_Same1 (kk := true) (km := true) (l := encE' k a b c m) (m := E) (by rw [hE']; omega)).call ?_
            simp [hE']
            refine (v_cSame (k := k) (a := a) (b := b) (c := c) (k' := k) (a' := a) (b' := b) (c' := c) (kk := true) (kl := true) (l := []) (m := m) (by simp) bm).callU [Cv k a b c (BS true []), Cv k a b c (BS true m)] (by simp [Cv]) ?_
            simp [hm0]
            refine (v_Same1 (kk := true) (km := kb) (l := y) (m := y) (by omega)).callU [BS true y, BS kb y] (by simp) ?_
            simp [Tryd.results7]
            first | (refine GV.ans hcl ?_; simp []; done) | (refine GV.ans0 ?_; simp []; done)
          · simp [Cv]
            refine v_known.call ?_
            simp
            refine hN.callU [Cv k a b c (BS true m)] (by simp [Cv]) ?_
            simp
            refine (v_Same1 (kk := true) (km := true) (l := encE' k a b c m) (m := E) (by rw [hE']; omega)).call ?_
            simp [hE']
            refine (v_cSame (k := k) (a := a) (b := b) (c := c) (k' := k) (a' := a) (b' := b) (c' := c) (kk := true) (kl := true) (l := m) (m := m) bm bm).callU [Cv k a b c (BS true m), Cv k a b c (BS true m)] (by simp [Cv]) ?_
            simp
            refine (v_Same1 (kk := true) (km := kb) (l := y) (m := y) (by omega)).callU [BS true y, BS kb y] (by simp) ?_
            simp [Tryd.results7]
            first | (refine GV.ans hcl ?_; simp []; done) | (refine GV.ans0 ?_; simp []; done)
        · simp [g0, g7]
          by_cases he : chkC k a b c m = 0
          case neg =>
            have hE' : encE' k a b c m = [] := by unfold encE'; rw [if_neg he]
            simp [he]
            refine v_known.call ?_
            simp [hE', Tryd.results7]
            first | (refine GV.ans hcl ?_; simp []; done) | (refine GV.ans0 ?_; simp []; done)
          have hE' : encE' k a b c m = encC k a b c m := by unfold encE'; rw [if_pos he]
          have h11 := chk_kind he
          have hEl := encC_len (k := k) (a := a) (b := b) (c := c) hml
          have hcb := encC_byte (a := a) (b := b) (c := c) h11 bm
          have hdc := dec_enc (x := y) he ha9 hb9 hc9 hml
          obtain ⟨E, hEn⟩ : ∃ E, encC k a b c m = E := ⟨_, rfl⟩
          rw [hEn] at hEl hcb hdc hE'
          simp [he, hE']
          refine ⟨by omega, by omega, ?_⟩
          have hD := v_cDecode (kk := true) (l := E ++ y) (by rw [List.length_append]; omega) (fun z hz => (List.mem_append.1 hz).elim (hcb z) (bY z))
          rw [hdc, vD_ok] at hD
          have hN := v_r30Encode (kk := true) he ha9 hb9 hc9 hml
          rw [hEn] at hN
          refine hD.callF [BS true (E ++ y)] (Frz.vec (g := H.length + 4) (w := 2) (s := 1) (rows := (E ++ y).map bc) (rw := true) (t := true) (by simp) (by simp)) (by simp) ?_
          cases hh : hasB k
          · have hm0 : m = [] := (chk_bytes he).resolve_left (by rw [hh]; decide)
            simp [Cv]
            refine v_known.call ?_
            simp
            refine hN.callU [Cv k a b c (BS true m)] (by simp [Cv]) ?_
            simp
            refine (v_Same1 (kk := true) (km := true) (l := encE' k a b c m) (m := E) (by rw [hE']; omega)).call ?_
            simp [hE']
            refine (v_cSame (k := k) (a := a) (b := b) (c := c) (k' := k) (a' := a) (b' := b) (c' := c) (kk := true) (kl := true) (l := []) (m := m) (by simp) bm).callU [Cv k a b c (BS true []), Cv k a b c (BS true m)] (by simp [Cv]) ?_
            simp [hm0]
            refine (v_Same1 (kk := true) (km := kb) (l := y) (m := y) (by omega)).callU [BS true y, BS kb y] (by simp) ?_
            simp [Tryd.results7]
            first | (refine GV.ans hcl ?_; simp []; done) | (refine GV.ans0 ?_; simp []; done)
          · simp [Cv]
            refine v_known.call ?_
            simp
            refine hN.callU [Cv k a b c (BS true m)] (by simp [Cv]) ?_
            simp
            refine (v_Same1 (kk := true) (km := true) (l := encE' k a b c m) (m := E) (by rw [hE']; omega)).call ?_
            simp [hE']
            refine (v_cSame (k := k) (a := a) (b := b) (c := c) (k' := k) (a' := a) (b' := b) (c' := c) (kk := true) (kl := true) (l := m) (m := m) bm bm).callU [Cv k a b c (BS true m), Cv k a b c (BS true m)] (by simp [Cv]) ?_
            simp
            refine (v_Same1 (kk := true) (km := kb) (l := y) (m := y) (by omega)).callU [BS true y, BS kb y] (by simp) ?_
            simp [Tryd.results7]
            first | (refine GV.ans hcl ?_; simp []; done) | (refine GV.ans0 ?_; simp []; done)
      · simp [g0]
        by_cases he : chkC k a b c m = 0
        case neg =>
          have hE' : encE' k a b c m = [] := by unfold encE'; rw [if_neg he]
          simp [he]
          refine v_known.call ?_
          simp [hE', Tryd.results7]
          first | (refine GV.ans hcl ?_; simp []; done) | (refine GV.ans0 ?_; simp []; done)
        have hE' : encE' k a b c m = encC k a b c m := by unfold encE'; rw [if_pos he]
        have h11 := chk_kind he
        have hEl := encC_len (k := k) (a := a) (b := b) (c := c) hml
        have hcb := encC_byte (a := a) (b := b) (c := c) h11 bm
        have hdc := dec_enc (x := y) he ha9 hb9 hc9 hml
        obtain ⟨E, hEn⟩ : ∃ E, encC k a b c m = E := ⟨_, rfl⟩
        rw [hEn] at hEl hcb hdc hE'
        simp [he, hE']
        refine ⟨by omega, by omega, ?_⟩
        have hD := v_cDecode (kk := true) (l := E ++ y) (by rw [List.length_append]; omega) (fun z hz => (List.mem_append.1 hz).elim (hcb z) (bY z))
        rw [hdc, vD_ok] at hD
        have hN := v_r30Encode (kk := true) he ha9 hb9 hc9 hml
        rw [hEn] at hN
        refine hD.callF [BS true (E ++ y)] (Frz.vec (g := H.length + 4) (w := 2) (s := 1) (rows := (E ++ y).map bc) (rw := true) (t := true) (by simp) (by simp)) (by simp) ?_
        cases hh : hasB k
        · have hm0 : m = [] := (chk_bytes he).resolve_left (by rw [hh]; decide)
          simp [Cv]
          refine v_known.call ?_
          simp
          refine hN.callU [Cv k a b c (BS true m)] (by simp [Cv]) ?_
          simp
          refine (v_Same1 (kk := true) (km := true) (l := encE' k a b c m) (m := E) (by rw [hE']; omega)).call ?_
          simp [hE']
          refine (v_cSame (k := k) (a := a) (b := b) (c := c) (k' := k) (a' := a) (b' := b) (c' := c) (kk := true) (kl := true) (l := []) (m := m) (by simp) bm).callU [Cv k a b c (BS true []), Cv k a b c (BS true m)] (by simp [Cv]) ?_
          simp [hm0]
          refine (v_Same1 (kk := true) (km := kb) (l := y) (m := y) (by omega)).callU [BS true y, BS kb y] (by simp) ?_
          simp [Tryd.results7]
          first | (refine GV.ans hcl ?_; simp []; done) | (refine GV.ans0 ?_; simp []; done)
        · simp [Cv]
          refine v_known.call ?_
          simp
          refine hN.callU [Cv k a b c (BS true m)] (by simp [Cv]) ?_
          simp
          refine (v_Same1 (kk := true) (km := true) (l := encE' k a b c m) (m := E) (by rw [hE']; omega)).call ?_
          simp [hE']
          refine (v_cSame (k := k) (a := a) (b := b) (c := c) (k' := k) (a' := a) (b' := b) (c' := c) (kk := true) (kl := true) (l := m) (m := m) bm bm).callU [Cv k a b c (BS true m), Cv k a b c (BS true m)] (by simp [Cv]) ?_
          simp
          refine (v_Same1 (kk := true) (km := kb) (l := y) (m := y) (by omega)).callU [BS true y, BS kb y] (by simp) ?_
          simp [Tryd.results7]
          first | (refine GV.ans hcl ?_; simp []; done) | (refine GV.ans0 ?_; simp []; done)
  · have hE := wordOf_none (k := kind) (by omega)
    simp [h0]
    refine (v_cCheck (k := k) (a := a) (b := b) (c := c) (kk := true) (l := m) hk bm).callU [Cv k a b c (BS true m)] (by simp [Cv]) ?_
    simp
    refine (v_cSame (k := k) (a := a) (b := b) (c := c) (k' := k) (a' := a) (b' := b) (c' := c) (kk := true) (kl := true) (l := m) (m := m) bm bm).callU [Cv k a b c (BS true m), Cv k a b c (BS true m)] (by simp [Cv]) ?_
    simp
    refine (v_Word (k := kind) hkd).call ?_
    simp [hE]
    refine (v_Changes (k := kind)).call ?_
    by_cases g0 : 0 < kind
    · by_cases g7 : kind < 7
      · simp [g0, g7]
        by_cases he : chkC k a b c m = 0
        case neg =>
          have hE' : encE' k a b c m = [] := by unfold encE'; rw [if_neg he]
          simp [he]
          refine v_known.call ?_
          simp [hE', Tryd.results7]
          first | (refine GV.ans hcl ?_; simp []; done) | (refine GV.ans0 ?_; simp []; done)
        have hE' : encE' k a b c m = encC k a b c m := by unfold encE'; rw [if_pos he]
        have h11 := chk_kind he
        have hEl := encC_len (k := k) (a := a) (b := b) (c := c) hml
        have hcb := encC_byte (a := a) (b := b) (c := c) h11 bm
        have hdc := dec_enc (x := y) he ha9 hb9 hc9 hml
        obtain ⟨E, hEn⟩ : ∃ E, encC k a b c m = E := ⟨_, rfl⟩
        rw [hEn] at hEl hcb hdc hE'
        simp [he, hE']
        refine ⟨by omega, by omega, ?_⟩
        have hD := v_cDecode (kk := true) (l := E ++ y) (by rw [List.length_append]; omega) (fun z hz => (List.mem_append.1 hz).elim (hcb z) (bY z))
        rw [hdc, vD_ok] at hD
        have hN := v_r30Encode (kk := true) he ha9 hb9 hc9 hml
        rw [hEn] at hN
        refine hD.callF [BS true (E ++ y)] (Frz.vec (g := H.length + 4) (w := 2) (s := 1) (rows := (E ++ y).map bc) (rw := true) (t := true) (by simp) (by simp)) (by simp) ?_
        cases hh : hasB k
        · have hm0 : m = [] := (chk_bytes he).resolve_left (by rw [hh]; decide)
          simp [Cv]
          refine v_known.call ?_
          simp
          refine hN.callU [Cv k a b c (BS true m)] (by simp [Cv]) ?_
          simp
          refine (v_Same1 (kk := true) (km := true) (l := encE' k a b c m) (m := E) (by rw [hE']; omega)).call ?_
          simp [hE']
          refine (v_cSame (k := k) (a := a) (b := b) (c := c) (k' := k) (a' := a) (b' := b) (c' := c) (kk := true) (kl := true) (l := []) (m := m) (by simp) bm).callU [Cv k a b c (BS true []), Cv k a b c (BS true m)] (by simp [Cv]) ?_
          simp [hm0]
          refine (v_Same1 (kk := true) (km := kb) (l := y) (m := y) (by omega)).callU [BS true y, BS kb y] (by simp) ?_
          simp [Tryd.results7]
          first | (refine GV.ans hcl ?_; simp []; done) | (refine GV.ans0 ?_; simp []; done)
        · simp [Cv]
          refine v_known.call ?_
          simp
          refine hN.callU [Cv k a b c (BS true m)] (by simp [Cv]) ?_
          simp
          refine (v_Same1 (kk := true) (km := true) (l := encE' k a b c m) (m := E) (by rw [hE']; omega)).call ?_
          simp [hE']
          refine (v_cSame (k := k) (a := a) (b := b) (c := c) (k' := k) (a' := a) (b' := b) (c' := c) (kk := true) (kl := true) (l := m) (m := m) bm bm).callU [Cv k a b c (BS true m), Cv k a b c (BS true m)] (by simp [Cv]) ?_
          simp
          refine (v_Same1 (kk := true) (km := kb) (l := y) (m := y) (by omega)).callU [BS true y, BS kb y] (by simp) ?_
          simp [Tryd.results7]
          first | (refine GV.ans hcl ?_; simp []; done) | (refine GV.ans0 ?_; simp []; done)
      · simp [g0, g7]
        by_cases he : chkC k a b c m = 0
        case neg =>
          have hE' : encE' k a b c m = [] := by unfold encE'; rw [if_neg he]
          simp [he]
          refine v_known.call ?_
          simp [hE', Tryd.results7]
          first | (refine GV.ans hcl ?_; simp []; done) | (refine GV.ans0 ?_; simp []; done)
        have hE' : encE' k a b c m = encC k a b c m := by unfold encE'; rw [if_pos he]
        have h11 := chk_kind he
        have hEl := encC_len (k := k) (a := a) (b := b) (c := c) hml
        have hcb := encC_byte (a := a) (b := b) (c := c) h11 bm
        have hdc := dec_enc (x := y) he ha9 hb9 hc9 hml
        obtain ⟨E, hEn⟩ : ∃ E, encC k a b c m = E := ⟨_, rfl⟩
        rw [hEn] at hEl hcb hdc hE'
        simp [he, hE']
        refine ⟨by omega, by omega, ?_⟩
        have hD := v_cDecode (kk := true) (l := E ++ y) (by rw [List.length_append]; omega) (fun z hz => (List.mem_append.1 hz).elim (hcb z) (bY z))
        rw [hdc, vD_ok] at hD
        have hN := v_r30Encode (kk := true) he ha9 hb9 hc9 hml
        rw [hEn] at hN
        refine hD.callF [BS true (E ++ y)] (Frz.vec (g := H.length + 4) (w := 2) (s := 1) (rows := (E ++ y).map bc) (rw := true) (t := true) (by simp) (by simp)) (by simp) ?_
        cases hh : hasB k
        · have hm0 : m = [] := (chk_bytes he).resolve_left (by rw [hh]; decide)
          simp [Cv]
          refine v_known.call ?_
          simp
          refine hN.callU [Cv k a b c (BS true m)] (by simp [Cv]) ?_
          simp
          refine (v_Same1 (kk := true) (km := true) (l := encE' k a b c m) (m := E) (by rw [hE']; omega)).call ?_
          simp [hE']
          refine (v_cSame (k := k) (a := a) (b := b) (c := c) (k' := k) (a' := a) (b' := b) (c' := c) (kk := true) (kl := true) (l := []) (m := m) (by simp) bm).callU [Cv k a b c (BS true []), Cv k a b c (BS true m)] (by simp [Cv]) ?_
          simp [hm0]
          refine (v_Same1 (kk := true) (km := kb) (l := y) (m := y) (by omega)).callU [BS true y, BS kb y] (by simp) ?_
          simp [Tryd.results7]
          first | (refine GV.ans hcl ?_; simp []; done) | (refine GV.ans0 ?_; simp []; done)
        · simp [Cv]
          refine v_known.call ?_
          simp
          refine hN.callU [Cv k a b c (BS true m)] (by simp [Cv]) ?_
          simp
          refine (v_Same1 (kk := true) (km := true) (l := encE' k a b c m) (m := E) (by rw [hE']; omega)).call ?_
          simp [hE']
          refine (v_cSame (k := k) (a := a) (b := b) (c := c) (k' := k) (a' := a) (b' := b) (c' := c) (kk := true) (kl := true) (l := m) (m := m) bm bm).callU [Cv k a b c (BS true m), Cv k a b c (BS true m)] (by simp [Cv]) ?_
          simp
          refine (v_Same1 (kk := true) (km := kb) (l := y) (m := y) (by omega)).callU [BS true y, BS kb y] (by simp) ?_
          simp [Tryd.results7]
          first | (refine GV.ans hcl ?_; simp []; done) | (refine GV.ans0 ?_; simp []; done)
    · simp [g0]
      by_cases he : chkC k a b c m = 0
      case neg =>
        have hE' : encE' k a b c m = [] := by unfold encE'; rw [if_neg he]
        simp [he]
        refine v_known.call ?_
        simp [hE', Tryd.results7]
        first | (refine GV.ans hcl ?_; simp []; done) | (refine GV.ans0 ?_; simp []; done)
      have hE' : encE' k a b c m = encC k a b c m := by unfold encE'; rw [if_pos he]
      have h11 := chk_kind he
      have hEl := encC_len (k := k) (a := a) (b := b) (c := c) hml
      have hcb := encC_byte (a := a) (b := b) (c := c) h11 bm
      have hdc := dec_enc (x := y) he ha9 hb9 hc9 hml
      obtain ⟨E, hEn⟩ : ∃ E, encC k a b c m = E := ⟨_, rfl⟩
      rw [hEn] at hEl hcb hdc hE'
      simp [he, hE']
      refine ⟨by omega, by omega, ?_⟩
      have hD := v_cDecode (kk := true) (l := E ++ y) (by rw [List.length_append]; omega) (fun z hz => (List.mem_append.1 hz).elim (hcb z) (bY z))
      rw [hdc, vD_ok] at hD
      have hN := v_r30Encode (kk := true) he ha9 hb9 hc9 hml
      rw [hEn] at hN
      refine hD.callF [BS true (E ++ y)] (Frz.vec (g := H.length + 4) (w := 2) (s := 1) (rows := (E ++ y).map bc) (rw := true) (t := true) (by simp) (by simp)) (by simp) ?_
      cases hh : hasB k
      · have hm0 : m = [] := (chk_bytes he).resolve_left (by rw [hh]; decide)
        simp [Cv]
        refine v_known.call ?_
        simp
        refine hN.callU [Cv k a b c (BS true m)] (by simp [Cv]) ?_
        simp
        refine (v_Same1 (kk := true) (km := true) (l := encE' k a b c m) (m := E) (by rw [hE']; omega)).call ?_
        simp [hE']
        refine (v_cSame (k := k) (a := a) (b := b) (c := c) (k' := k) (a' := a) (b' := b) (c' := c) (kk := true) (kl := true) (l := []) (m := m) (by simp) bm).callU [Cv k a b c (BS true []), Cv k a b c (BS true m)] (by simp [Cv]) ?_
        simp [hm0]
        refine (v_Same1 (kk := true) (km := kb) (l := y) (m := y) (by omega)).callU [BS true y, BS kb y] (by simp) ?_
        simp [Tryd.results7]
        first | (refine GV.ans hcl ?_; simp []; done) | (refine GV.ans0 ?_; simp []; done)
      · simp [Cv]
        refine v_known.call ?_
        simp
        refine hN.callU [Cv k a b c (BS true m)] (by simp [Cv]) ?_
        simp
        refine (v_Same1 (kk := true) (km := true) (l := encE' k a b c m) (m := E) (by rw [hE']; omega)).call ?_
        simp [hE']
        refine (v_cSame (k := k) (a := a) (b := b) (c := c) (k' := k) (a' := a) (b' := b) (c' := c) (kk := true) (kl := true) (l := m) (m := m) bm bm).callU [Cv k a b c (BS true m), Cv k a b c (BS true m)] (by simp [Cv]) ?_
        simp
        refine (v_Same1 (kk := true) (km := kb) (l := y) (m := y) (by omega)).callU [BS true y, BS kb y] (by simp) ?_
        simp [Tryd.results7]
        first | (refine GV.ans hcl ?_; simp []; done) | (refine GV.ans0 ?_; simp []; done)
end Go.Proofs.YtenbclcfhjdcaaaDoor.VM
end
section
set_option maxHeartbeats 8000000
set_option linter.unusedVariables false
set_option linter.unusedSimpArgs false

/- Plain facts on decoded commands; All. -/
namespace Go.Proofs.YtenbclcfhjdcaaaDoor.VM
open Go Go.Proofs AM B
set_option maxRecDepth 100000
set_option maxHeartbeats 4000000
def dE (l : List Int) : Int := (decC l).2.2.2.2
def dR (l : List Int) : List Int := (decC l).2.2.2.1
def dB (l : List Int) : List Int := (decC l).2.2.1
/-- Right, out of bytes: kind, numbers, bytes; what is behind. -/
structure Good (q : Int × Dr) (l : List Int) : Prop where
  chk : chkC q.1 q.2.1.1 q.2.1.2.1 q.2.1.2.2 q.2.2.1 = 0
  sub : ∀ x ∈ q.2.2.1, x ∈ l
  len : q.2.2.1.length ≤ l.length
theorem suf_gR (r : List Int) : ∃ n, n ≤ r.length ∧ gR r = r.drop n := ⟨_, getN_le r, rfl⟩
theorem suf_trans {r s t : List Int} (h1 : ∃ n, n ≤ r.length ∧ s = r.drop n) (h2 : ∃ n, n ≤ s.length ∧ t = s.drop n) : ∃ n, n ≤ r.length ∧ t = r.drop n := by
  obtain ⟨n, hn, rfl⟩ := h1
  obtain ⟨m, hm, rfl⟩ := h2
  rw [List.length_drop] at hm
  exact ⟨n + m, by omega, by rw [List.drop_drop]⟩
theorem suf_getT {r : List Int} (h : (getT r).2.2 = 0) : (∃ n, n ≤ r.length ∧ (getT r).2.1 = r.drop n) ∧ (∀ x ∈ (getT r).1, x ∈ r) ∧ (getT r).1.length ≤ r.length := by
  by_cases h1 : gE r = 0
  · by_cases h2 : (gR r).length < (getN r).1
    · exfalso
      have ht : getT r = ([], [], 4) := by unfold getT; rw [if_neg (not_not_intro (show (getN r).2.2 = 0 from h1)), if_pos (show (r.drop (getN r).2.1).length < _ from h2)]
      rw [ht] at h; cases h
    · have ht : getT r = ((gR r).take (getN r).1, (gR r).drop (getN r).1, 0) := by unfold getT; rw [if_neg (not_not_intro (show (getN r).2.2 = 0 from h1)), if_neg (show ¬ (r.drop (getN r).2.1).length < _ from h2)]; rfl
      rw [ht]
      refine ⟨suf_trans (suf_gR r) ⟨(getN r).1, by omega, rfl⟩, fun x hx => gR_mem (List.mem_of_mem_take hx), ?_⟩
      have := gR_len r
      rw [List.length_take]; omega
  · exfalso
    have ht : (getT r).2.2 = gE r := by unfold getT; rw [if_pos (show (getN r).2.2 ≠ 0 from h1)]; rfl
    rw [ht] at h; exact h1 h
theorem bad_err {e : Int} {k : Int} (h : e ≠ 0) : ¬ ((k, bad e) : Int × Dr).2.2.2.2 = 0 := h
/-- A command read without error. -/
theorem dec_good : ∀ {l : List Int}, dE l = 0 → Good (decC l) l ∧ ∃ n, 0 < n ∧ n ≤ l.length ∧ dR l = l.drop n
  | [], h => by cases h
  | k :: r, h => by
    have key : (1 ≤ k ∧ k ≤ 11) → (decK k r).2.2.2 = 0 → Good (k, decK k r) (k :: r) ∧ ∃ n, n ≤ r.length ∧ (decK k r).2.2.1 = r.drop n := by
      intro h11 hz
      unfold decK at hz ⊢
      by_cases h9 : k = 9
      · subst h9
        rw [if_pos rfl] at hz ⊢
        unfold dec9 at hz ⊢
        by_cases h1 : gE r = 0
        · by_cases h2 : gE (gR r) = 0
          · by_cases h3 : gE (gR (gR r)) = 0
            · rw [if_neg (not_not_intro h1), if_neg (not_not_intro h2), if_neg (not_not_intro h3)]
              refine ⟨⟨?_, by simp, by simp⟩, suf_trans (suf_trans (suf_gR r) (suf_gR _)) (suf_gR _)⟩
              have a1 := gV_le r
              have a2 := gV_le (gR r)
              have a3 := gV_le (gR (gR r))
              show chkC 9 (gV_ r) (gV_ (gR r)) (gV_ (gR (gR r))) [] = 0
              unfold chkC
              rw [if_neg (by omega), if_pos rfl, if_neg (by omega), if_neg (fun h => h rfl)]
            · rw [if_neg (not_not_intro h1), if_neg (not_not_intro h2), if_pos h3] at hz; exact absurd hz h3
          · rw [if_neg (not_not_intro h1), if_pos h2] at hz; exact absurd hz h2
        · rw [if_pos h1] at hz; exact absurd hz h1
      · rw [if_neg h9] at hz ⊢
        by_cases h13 : 1 ≤ k ∧ k ≤ 3
        · rw [if_pos h13] at hz ⊢
          unfold dec1 at hz ⊢
          by_cases h1 : gE r = 0
          · rw [if_neg (not_not_intro h1)] at hz ⊢
            have a1 := gV_le r
            cases hh : hasB k
            · rw [hh] at hz
              rw [if_neg (by decide)]
              refine ⟨⟨?_, by simp, by simp⟩, suf_gR r⟩
              show chkC k (gV_ r) 0 0 [] = 0
              rw [chk1 h13, if_neg (by omega), if_neg (by simp)]
            · rw [hh, if_pos rfl] at hz
              rw [if_pos rfl]
              unfold decT at hz ⊢
              by_cases ht : (getT (gR r)).2.2 = 0
              · rw [if_neg (not_not_intro ht)]
                obtain ⟨t1, t2, t3⟩ := suf_getT ht
                have := gR_len r
                refine ⟨⟨?_, fun x hx => List.mem_cons_of_mem _ (gR_mem (t2 x hx)), by show (getT (gR r)).1.length ≤ _; simp; omega⟩, suf_trans (suf_gR r) t1⟩
                show chkC k (gV_ r) 0 0 (getT (gR r)).1 = 0
                rw [chk1 h13, if_neg (by omega), if_neg (by simp [hh])]
              · rw [if_pos ht] at hz; exact absurd hz ht
          · rw [if_pos h1] at hz; exact absurd hz h1
        · rw [if_neg h13] at hz ⊢
          unfold dec0 at hz ⊢
          cases hh : hasB k
          · rw [if_neg (by decide)]
            refine ⟨⟨?_, by simp, by simp⟩, 0, by omega, rfl⟩
            show chkC k 0 0 0 [] = 0
            rw [chk0 h11 (by omega), if_neg (by simp)]
          · rw [hh, if_pos rfl] at hz
            rw [if_pos rfl]
            unfold decT at hz ⊢
            by_cases ht : (getT r).2.2 = 0
            · rw [if_neg (not_not_intro ht)]
              obtain ⟨t1, t2, t3⟩ := suf_getT ht
              refine ⟨⟨?_, fun x hx => List.mem_cons_of_mem _ (t2 x hx), by show (getT r).1.length ≤ _; simp; omega⟩, t1⟩
              show chkC k 0 0 0 (getT r).1 = 0
              rw [chk0 h11 (by omega), if_neg (by simp [hh])]
            · rw [if_pos ht] at hz; exact absurd hz ht
    by_cases h11 : 1 ≤ k ∧ k ≤ 11
    · have e : decC (k :: r) = (k, decK k r) := by
        show (if 1 ≤ k ∧ k ≤ 11 then (k, decK k r) else (0, bad 13)) = _
        rw [if_pos h11]
      unfold dE at h
      unfold dR
      rw [e] at h ⊢
      obtain ⟨g1, n, hn, g2⟩ := key h11 h
      exact ⟨g1, n + 1, by omega, by simp; omega, g2⟩
    · have e : decC (k :: r) = (0, bad 13) := by
        show (if 1 ≤ k ∧ k ≤ 11 then (k, decK k r) else (0, bad 13)) = _
        rw [if_neg h11]
      unfold dE at h
      rw [e] at h; cases h
/-- Commands, one behind the other: they, what is left, what is wrong. -/
def allF : Nat → List Int → List (Int × Dr) × List Int × Int
  | 0, l => ([], l, 0)
  | n + 1, l => if l = [] then ([], [], 0) else if dE l = 0 then (decC l :: (allF n (dR l)).1, (allF n (dR l)).2) else ([], l, dE l)
theorem dR_lt {l : List Int} (h : dE l = 0) : (dR l).length < l.length := by
  obtain ⟨_, n, h1, h2, h3⟩ := dec_good h
  rw [h3, List.length_drop]; omega
theorem dR_mem {l : List Int} (h : dE l = 0) {x : Int} (hx : x ∈ dR l) : x ∈ l := by
  obtain ⟨_, n, h1, h2, h3⟩ := dec_good h
  rw [h3] at hx; exact List.mem_of_mem_drop hx
def rowC (q : Int × Dr) : List V := [i6 q.1, i6 q.2.1.1, i6 q.2.1.2.1, i6 q.2.1.2.2, if hasB q.1 then BS true q.2.2.1 else .lit (.slice none 0 0)]
theorem vD_good {l : List Int} (h : dE l = 0) : vD (decC l) = .tup [.agg (rowC (decC l)), BS true (dR l), i6 0] := by
  unfold dE at h
  unfold vD
  rw [if_pos h, if_pos h, h]; rfl
theorem vD_err {l : List Int} (h : dE l ≠ 0) : vD (decC l) = .tup [Cv 0 0 0 0 (.lit (.slice none 0 0)), .lit (.slice none 0 0), i6 (dE l)] := by
  unfold dE at h ⊢
  unfold vD
  rw [if_neg h, if_neg h]
end Go.Proofs.YtenbclcfhjdcaaaDoor.VM
end
section
set_option maxHeartbeats 8000000
set_option linter.unusedVariables false
set_option linter.unusedSimpArgs false

/- command.All. -/
namespace Go.Proofs.YtenbclcfhjdcaaaDoor.VM
open Go Go.Proofs AM B
set_option maxRecDepth 100000
set_option maxHeartbeats 4000000
theorem rowC_len (q : Int × Dr) : (rowC q).length = 5 := rfl
theorem rowC_ok (q : Int × Dr) : RowsOk 5 [rowC q] := fun r hr => by
  obtain rfl := List.mem_singleton.1 hr
  refine ⟨rfl, ?_⟩
  unfold rowC
  cases hasB q.1 <;> rfl
@[simp] theorem rowC_pure (q : Int × Dr) : pureVs (rowC q) = true := by
  unfold rowC
  cases hasB q.1 <;> simp
theorem rowC_cell (q : Int × Dr) : ∀ x ∈ rowC q, x.isCell = true := fun x hx => List.all_eq_true.1 ((rowC_ok q) _ (List.mem_singleton.2 rfl)).2 x hx
theorem allF_step {m : Nat} {r : List Int} (hne : r ≠ []) (hE : dE r = 0) : allF (m + 1) r = (decC r :: (allF m (dR r)).1, (allF m (dR r)).2) := by
  show (if r = [] then ([], [], 0) else if dE r = 0 then (decC r :: (allF m (dR r)).1, (allF m (dR r)).2) else ([], r, dE r)) = _
  rw [if_neg hne, if_pos hE]
theorem v_All {kk : Bool} {l : List Int} (hl : l.length ≤ 1000) (hb : ∀ x ∈ l, 0 ≤ x ∧ x ≤ 255) : A 44 [BS kk l] (.tup [.fsl true 5 ((allF (l.length + 1) l).1.map rowC), i6 (l.length - (allF (l.length + 1) l).2.1.length : Int), i6 (allF (l.length + 1) l).2.2]) := by
  intro H
  refine v_enter hC [] (fun _ _ => kn_none rfl) Tryd.func44 rfl ok44 (Nat.le_of_ble_eq_true rfl) fun hcl hbl => ?_
  simp
  refine v_loopX hC (fun (X : List (Int × Dr) × List Int × Nat) e T => ∃ w t kr, T = H ++ [.vec w (X.1.map rowC) 5 true t] ∧ e 0 = BS kk l ∧ e 5 = .own H.length w ∧ e 6 = BS kr X.2.1 ∧ e 7 = i6 0 ∧ X.2.1.length < X.2.2 ∧ X.2.1.length ≤ l.length ∧ X.1.length + X.2.2 = l.length + 1 ∧ (∀ x ∈ X.2.1, 0 ≤ x ∧ x ≤ 255) ∧ allF (l.length + 1) l = (X.1 ++ (allF X.2.2 X.2.1).1, (allF X.2.2 X.2.1).2)) (fun X => X.2.1.length) ([], l, l.length + 1) (G.nilT0 (s := 5) 5 hcl (Nat.le_refl _) (by omega) (by simp) ?_) ?_
  · exact ⟨0, true, kk, by simp, by simp, by simp, by simp, by simp, by simp, by simp, by simp, hb, by simp⟩
  · rintro ⟨d, r, n⟩ e T ⟨w, t, kr, rfl, h0, h5, h6, h7, hn, hrl, hdn, hbr, hall⟩
    simp only at h6 hn hrl hdn hbr hall
    simp [h0, h5, h6, h7]
    obtain ⟨m, rfl⟩ : ∃ m, n = m + 1 := ⟨n - 1, by omega⟩
    have hdl : d.length ≤ 1001 := by omega
    refine CondV.dec (fun hlt => ?_) (fun hge => ?_)
    · have hne : r ≠ [] := by intro h; subst h; simp at hlt
      have hc := v_cDecode (kk := kr) (l := r) (by omega) hbr
      by_cases hE : dE r = 0
      · rw [vD_good hE] at hc
        simp [h0, h5, h6, h7]
        refine hc.call ?_
        have hrow : rowC (decC r) = [i6 (decC r).1, i6 (decC r).2.1.1, i6 (decC r).2.1.2.1, i6 (decC r).2.1.2.2, if hasB (decC r).1 then BS true (decC r).2.2.1 else .lit (.slice none 0 0)] := rfl
        cases hh : hasB (decC r).1
        · rw [hh] at hrow
          rw [hrow]
          simp [h0, h5, h6, h7]
          refine ⟨by omega, GH.of (G.clip (Z := [_]) (X := [_]) (Z' := [.vec (w + 1) ((d ++ [decC r]).map rowC) 5 true t]) hcl (by simp [hrow]) (by simp [hrow]; exact ⟨fun _ _ _ _ _ _ _ _ => ⟨rfl, rowC_cell _⟩, UpR.self (show PureR _ by simp)⟩) ⟨(d ++ [decC r], dR r, m), ⟨w + 1, t, true, rfl, by simp [h0], by simp, by simp, by simp [h7], show (dR r).length < m by have := dR_lt hE; omega, show (dR r).length ≤ l.length by have := dR_lt hE; omega, show (d ++ [decC r]).length + m = l.length + 1 by simp; omega, fun x hx => hbr x (dR_mem hE hx), ?_⟩, dR_lt hE⟩)⟩
          rw [hall]
          show (d ++ (allF (m + 1) r).1, (allF (m + 1) r).2) = _
          rw [allF_step hne hE]
          simp
        · rw [hh] at hrow
          rw [hrow]
          simp [h0, h5, h6, h7]
          refine ⟨by omega, GH.of (G.clip (Z := [_]) (X := [_]) (Z' := [.vec (w + 1) ((d ++ [decC r]).map rowC) 5 true t]) hcl (by simp [hrow]) (by simp [hrow]; exact ⟨fun _ _ _ _ _ _ _ _ => ⟨rfl, rowC_cell _⟩, UpR.self (show PureR _ by simp)⟩) ⟨(d ++ [decC r], dR r, m), ⟨w + 1, t, true, rfl, by simp [h0], by simp, by simp, by simp [h7], show (dR r).length < m by have := dR_lt hE; omega, show (dR r).length ≤ l.length by have := dR_lt hE; omega, show (d ++ [decC r]).length + m = l.length + 1 by simp; omega, fun x hx => hbr x (dR_mem hE hx), ?_⟩, dR_lt hE⟩)⟩
          rw [hall]
          show (d ++ (allF (m + 1) r).1, (allF (m + 1) r).2) = _
          rw [allF_step hne hE]
          simp
      · rw [vD_err hE] at hc
        have e1 : allF (m + 1) r = ([], r, dE r) := by unfold allF; rw [if_neg hne, if_neg hE]
        rw [e1] at hall
        simp only [List.append_nil] at hall
        rw [hall]
        simp [h0, h5, h6, h7]
        refine hc.call ?_
        simp [h0, h5, h6, h7, hE, Cv, Tryd.results44]
        first | (refine GV.ans hcl ?_; simp [w64 (n := (l.length : Int) - (r.length : Int)) (by omega)]; done) | (refine GV.ans0 ?_; simp [w64 (n := (l.length : Int) - (r.length : Int)) (by omega)]; done)
    · have hr0 : r = [] := List.eq_nil_of_length_eq_zero (by omega)
      subst hr0
      have e1 : allF (m + 1) [] = ([], [], 0) := rfl
      rw [e1] at hall
      simp only [List.append_nil] at hall
      rw [hall]
      simp [h0, h5, h6, h7, w64 (n := (l.length : Int)) (by omega), Tryd.results44]
      first | (refine GV.ans hcl ?_; simp []; done) | (refine GV.ans0 ?_; simp []; done)
end Go.Proofs.YtenbclcfhjdcaaaDoor.VM
end
section
set_option maxHeartbeats 8000000
set_option linter.unusedVariables false
set_option linter.unusedSimpArgs false

/- Law CommandReads. -/
namespace Go.Proofs.YtenbclcfhjdcaaaDoor.VM
open Go Go.Proofs AM B
set_option maxRecDepth 100000
set_option maxHeartbeats 8000000
theorem dec_form {r : List Int} (h : dE r = 0) : ∃ k a b c bs, decC r = (k, (a, b, c), bs, dR r, 0) ∧ chkC k a b c bs = 0 ∧ (∀ x ∈ bs, x ∈ r) ∧ bs.length ≤ r.length := by
  obtain ⟨g, _⟩ := dec_good h
  refine ⟨(decC r).1, (decC r).2.1.1, (decC r).2.1.2.1, (decC r).2.1.2.2, (decC r).2.2.1, ?_, g.chk, g.sub, g.len⟩
  unfold dE at h
  rw [← h]; rfl
theorem vR_err {N : Nat} {l : List Int} (h : dE l ≠ 0) : vR N (decC l) = .tup [Cv 0 0 0 0 (.lit (.slice none 0 0)), i6 0, i6 (dE l)] := by
  unfold dE at h ⊢
  unfold vR
  rw [if_neg h, if_neg h]
theorem drop_dR {L r : List Int} {p : Nat} (hr : L.drop p = r) (h : dE r = 0) : L.drop (p + (r.length - (dR r).length)) = dR r := by
  obtain ⟨_, n, h1, h2, h3⟩ := dec_good h
  have : (dR r).length = r.length - n := by rw [h3, List.length_drop]
  rw [← List.drop_drop, hr, show r.length - (dR r).length = n by omega, h3]
theorem v_CommandReads {kk : Bool} {l : List Int} (hl : l.length < 2 ^ 63) (hb : ∀ x ∈ l, 0 ≤ x ∧ x ≤ 255) : A 8 [BS kk l] (bo true) := by
  intro H
  refine v_enter hC [] (fun _ _ => kn_none rfl) Tryd.func8 rfl ok8 (Nat.le_of_ble_eq_true rfl) fun hcl hbl => ?_
  have hbd : bounds l.length l.length none (some (if 300 < (l.length : Int) then 300 else (l.length : Int))) none = some (0, min l.length 300, l.length) := by
    rw [show (if 300 < (l.length : Int) then 300 else (l.length : Int)) = ((min l.length 300 : Nat) : Int) by split <;> omega]
    exact bounds_hi (by omega)
  simp [hbd]
  rw [← List.map_take]
  obtain ⟨L, hL⟩ : ∃ L, l.take (min l.length 300) = L := ⟨_, rfl⟩
  have hLl : L.length ≤ 300 := by rw [← hL, List.length_take]; omega
  have hbL : ∀ x ∈ L, 0 ≤ x ∧ x ≤ 255 := fun x hx => hb x (List.mem_of_mem_take (hL ▸ hx))
  rw [hL]
  refine (v_All (kk := kk) (l := L) (by omega) hbL).call ?_
  obtain ⟨D, R, E, hA⟩ : ∃ D R E, allF (L.length + 1) L = (D, R, E) := ⟨_, _, _, rfl⟩
  rw [hA]
  simp
  refine v_loopX hC (fun (X : List (Int × Dr) × Nat × Nat) e T => T = H ∧ e 0 = BS kk L ∧ e 3 = .fsl true 5 (D.map rowC) ∧ e 4 = i6 ((L.length : Int) - R.length) ∧ e 5 = i6 E ∧ e 6 = i6 X.2.1 ∧ e 7 = i6 X.1.length ∧ e 8 = i6 0 ∧ X.2.1 ≤ L.length ∧ (L.drop X.2.1).length < X.2.2 ∧ X.1.length + X.2.2 = L.length + 1 ∧ (D, R, E) = (X.1 ++ (allF X.2.2 (L.drop X.2.1)).1, (allF X.2.2 (L.drop X.2.1)).2)) (fun X => L.length - X.2.1) ([], 0, L.length + 1) (G.refl ?_) ?_
  · exact ⟨rfl, by simp, by simp, by simp, by simp, by simp, by simp, by simp, by simp, by simp, by simp, by simp [← hA]⟩
  · rintro ⟨d, p, n⟩ e T ⟨rfl, h0, h3, h4, h5, h6, h7, h8, hp, hn, hdn, hall⟩
    simp only at h6 h7 hp hn hdn hall
    simp [h0, h3, h4, h5, h6, h7, h8]
    obtain ⟨m, rfl⟩ : ∃ m, n = m + 1 := ⟨n - 1, by omega⟩
    by_cases hlt : p < L.length
    case neg =>
      have hpL : p = L.length := by omega
      subst hpL
      rw [List.drop_length, show allF (m + 1) [] = ([], [], 0) from rfl] at hall
      simp only [List.append_nil] at hall
      cases hall
      simp [h0, h3, h4, h5, h6, h7, h8]
      refine v_known.call ?_
      simp [h0, h3, h4, h5, h6, h7, h8, Tryd.results8]
      first | (refine GV.ans hcl ?_; simp []; done) | (refine GV.ans0 ?_; simp []; done)
    obtain ⟨r, hr⟩ : ∃ r, L.drop p = r := ⟨_, rfl⟩
    have hrl : r.length = L.length - p := by rw [← hr, List.length_drop]
    have hne : r ≠ [] := by intro h; rw [h] at hrl; simp at hrl; omega
    have hbr : ∀ x ∈ r, 0 ≤ x ∧ x ≤ 255 := fun x hx => hbL x (List.mem_of_mem_drop (hr ▸ hx))
    rw [hr] at hn hall
    have hbp : bounds L.length L.length (some (p : Int)) none none = some (p, L.length, L.length) := bounds_lo (by omega)
    have htk : List.take L.length (List.map bc L) = List.map bc L := List.take_of_length_le (by simp)
    have hdr : List.drop p (List.map bc L) = List.map bc r := by rw [← List.map_drop, hr]
    have hd1 := v_r30Decode (kk := false) (l := r) (by omega) hbr
    have hd2 := v_cDecode (kk := false) (l := r) (by omega) hbr
    simp [hlt, h0, h3, h4, h5, h6, h7, h8, hbp, htk, hdr]
    by_cases hE : dE r = 0
    case neg =>
      have e1 : allF (m + 1) r = ([], r, dE r) := by
        show (if r = [] then ([], [], 0) else if dE r = 0 then (decC r :: (allF m (dR r)).1, (allF m (dR r)).2) else ([], r, dE r)) = _
        rw [if_neg hne, if_neg hE]
      rw [e1] at hall
      simp only [List.append_nil] at hall
      cases hall
      rw [vD_err hE] at hd2
      rw [vR_err hE] at hd1
      refine hd1.call ?_
      simp [h0, h3, h4, h5, h6, h7, h8, hbp, htk, hdr, Cv]
      refine hd2.call ?_
      simp [h0, h3, h4, h5, h6, h7, h8, hE, Cv]
      refine v_known.call ?_
      have hs : ((L.length : Int) - ((L.length - p : Nat) : Int)) = (p : Int) := by omega
      simp [h0, h3, h4, h5, h6, h7, h8, hrl, hs, Tryd.results8]
      first | (refine GV.ans hcl ?_; simp []; done) | (refine GV.ans0 ?_; simp []; done)
    obtain ⟨k, a, b, c, bs, hq, hck, hsub, hbl⟩ := dec_form hE
    have hfit := dR_lt hE
    rw [hq, vR_ok (p := r.length - (dR r).length) rfl] at hd1
    rw [hq, vD_ok] at hd2
    rw [allF_step hne hE] at hall
    have hDk : D[d.length]? = some (decC r) := by
      have : D = d ++ decC r :: (allF m (dR r)).1 := congrArg (·.1) hall
      rw [this, List.getElem?_append_right (Nat.le_refl _)]; simp
    have hDl : d.length < D.length := (List.getElem?_eq_some_iff.1 hDk).1
    obtain ⟨p2, hp2⟩ : ∃ p2, p + (r.length - (dR r).length) = p2 := ⟨_, rfl⟩
    have hdp := drop_dR hr hE
    rw [hp2] at hdp
    have hw2 : IntKind.i64.wrap ((p : Int) + ((r.length - (dR r).length : Nat) : Int)) = (p2 : Int) := by rw [w64 (by omega)]; omega
    have hbp2 : bounds L.length L.length (some (p2 : Int)) none none = some (p2, L.length, L.length) := bounds_lo (by omega)
    have hdr2 : List.drop p2 (List.map bc L) = List.map bc (dR r) := by rw [← List.map_drop, hdp]
    have hDg : D[d.length]'hDl = decC r := (List.getElem_eq_iff hDl).2 hDk
    have hnl : ¬ D.length ≤ d.length := by omega
    have hkb := chk_kind hck
    have hbbs : ∀ x ∈ bs, 0 ≤ x ∧ x ≤ 255 := fun x hx => hbr x (hsub x hx)
    cases hh : hasB k
    · have hbs : bs = [] := (chk_bytes hck).resolve_left (by rw [hh]; decide)
      subst hbs
      rw [hh] at hd1 hd2
      refine hd1.call ?_
      simp [h0, h3, h4, h5, h6, h7, h8, hbp, htk, hdr, Cv]
      refine hd2.call ?_
      simp [h0, h3, h4, h5, h6, h7, h8, Cv]
      refine v_draw (ord := [0, 1, 2, 3, 4, 5, 6, 7, 8, 9, 10, 11, 12, 13, 14, 15, 16, 17, 18, 19, 20, 21, 22, 23, 24, 25, 26, 27, 28, 29, 30, 31, 32]) (m := 25) (by decide +kernel) (by decide +kernel) ?_
      simp [h0, h3, h4, h5, h6, h7, h8]
      refine (v_To (k := k) (a := a) (b := b) (c := c) (kk := true) (l := []) (by simp)).callU [Cv k a b c (BS true [])] (by simp [Cv]) ?_
      simp [h0, h3, h4, h5, h6, h7, h8]
      refine (v_cSame (k := k) (a := a) (b := b) (c := c) (k' := k) (a' := a) (b' := b) (c' := c) (kk := true) (kl := true) (l := []) (m := []) (by simp) (by simp)).callU [Cv k a b c (BS true []), Cv k a b c (BS true [])] (by simp [Cv]) ?_
      simp [h0, h3, h4, h5, h6, h7, h8, hw2, hbp2, htk, hdr2]
      refine (v_Same1 (kk := true) (km := false) (l := dR r) (m := dR r) (by omega)).call ?_
      have hrow : rowC (decC r) = [i6 k, i6 a, i6 b, i6 c, .lit (.slice none 0 0)] := by rw [hq]; unfold rowC; rw [hh]; rfl
      simp [h0, h3, h4, h5, h6, h7, h8, hnl, hDk, hDg, hrow]
      refine (v_cSame (k := k) (a := a) (b := b) (c := c) (k' := k) (a' := a) (b' := b) (c' := c) (kk := true) (kl := true) (l := []) (m := []) (by simp) (by simp)).callU [Cv k a b c (BS true []), Cv k a b c (BS true [])] (by simp [Cv]) ?_
      simp [h0, h3, h4, h5, h6, h7, h8]
      refine (v_cCheck (k := k) (a := a) (b := b) (c := c) (kk := true) (l := []) (by omega) (by simp)).callU [Cv k a b c (BS true [])] (by simp [Cv]) ?_
      rw [hck]
      simp [h0, h3, h4, h5, h6, h7, h8, w64 (n := (d.length : Int) + 1) (by omega)]
      refine GH.of (G.clip (Z := []) (X := [_, _]) (Z' := []) hcl (by simp) (by simp) ⟨(d ++ [decC r], p2, m), ⟨by simp, by simp [h0], by simp [h3], by simp [h4], by simp [h5], by simp [hw2], by simp, by simp, show p2 ≤ L.length by omega, show (L.drop p2).length < m by rw [hdp]; omega, show (d ++ [decC r]).length + m = L.length + 1 by simp; omega, ?_⟩, show L.length - p2 < L.length - p by omega⟩)
      show (D, R, E) = ((d ++ [decC r]) ++ (allF m (L.drop p2)).1, (allF m (L.drop p2)).2)
      rw [hdp, hall]
      simp
    · rw [hh] at hd1 hd2
      refine hd1.call ?_
      simp [h0, h3, h4, h5, h6, h7, h8, hbp, htk, hdr, Cv]
      refine hd2.call ?_
      simp [h0, h3, h4, h5, h6, h7, h8, Cv]
      refine v_draw (ord := [0, 1, 2, 3, 4, 5, 6, 7, 8, 9, 10, 11, 12, 13, 14, 15, 16, 17, 18, 19, 20, 21, 22, 23, 24, 25, 26, 27, 28, 29, 30, 31, 32]) (m := 25) (by decide +kernel) (by decide +kernel) ?_
      simp [h0, h3, h4, h5, h6, h7, h8]
      have htb : bs.take 1100 = bs := List.take_of_length_le (by omega)
      have hTo := v_To (k := k) (a := a) (b := b) (c := c) (kk := false) (l := bs) (by omega)
      rw [htb] at hTo
      refine hTo.callU [Cv k a b c (BS false bs)] (by simp [Cv]) ?_
      simp [h0, h3, h4, h5, h6, h7, h8]
      refine (v_cSame (k := k) (a := a) (b := b) (c := c) (k' := k) (a' := a) (b' := b) (c' := c) (kk := true) (kl := true) (l := bs) (m := bs) hbbs hbbs).callU [Cv k a b c (BS true bs), Cv k a b c (BS true bs)] (by simp [Cv]) ?_
      simp [h0, h3, h4, h5, h6, h7, h8, hw2, hbp2, htk, hdr2]
      refine (v_Same1 (kk := true) (km := false) (l := dR r) (m := dR r) (by omega)).call ?_
      have hrow : rowC (decC r) = [i6 k, i6 a, i6 b, i6 c, BS true bs] := by rw [hq]; unfold rowC; rw [hh]; rfl
      simp [h0, h3, h4, h5, h6, h7, h8, hnl, hDk, hDg, hrow]
      refine (v_cSame (k := k) (a := a) (b := b) (c := c) (k' := k) (a' := a) (b' := b) (c' := c) (kk := true) (kl := true) (l := bs) (m := bs) hbbs hbbs).callU [Cv k a b c (BS true bs), Cv k a b c (BS true bs)] (by simp [Cv]) ?_
      simp [h0, h3, h4, h5, h6, h7, h8]
      refine (v_cCheck (k := k) (a := a) (b := b) (c := c) (kk := true) (l := bs) (by omega) hbbs).callU [Cv k a b c (BS true bs)] (by simp [Cv]) ?_
      rw [hck]
      simp [h0, h3, h4, h5, h6, h7, h8, w64 (n := (d.length : Int) + 1) (by omega)]
      refine GH.of (G.clip (Z := []) (X := [_, _]) (Z' := []) hcl (by simp) (by simp) ⟨(d ++ [decC r], p2, m), ⟨by simp, by simp [h0], by simp [h3], by simp [h4], by simp [h5], by simp [hw2], by simp, by simp, show p2 ≤ L.length by omega, show (L.drop p2).length < m by rw [hdp]; omega, show (d ++ [decC r]).length + m = L.length + 1 by simp; omega, ?_⟩, show L.length - p2 < L.length - p by omega⟩)
      show (D, R, E) = ((d ++ [decC r]) ++ (allF m (L.drop p2)).1, (allF m (L.drop p2)).2)
      rw [hdp, hall]
      simp
end Go.Proofs.YtenbclcfhjdcaaaDoor.VM
end
section
set_option maxHeartbeats 8000000
set_option linter.unusedVariables false
set_option linter.unusedSimpArgs false

/- CommandReads at the arguments as they read. -/
namespace Go.Proofs.YtenbclcfhjdcaaaDoor
open Go Go.RowKit AM VM B
theorem commandReads_row {H : Type} {enc : TypeId × Value → H} (A0 : Option Addr) (n0 c0 : Nat) (w : World) (hg : Globs w.heap) (h0 : Rd enc Tryd.prog w 39 [.slice A0 n0 c0]) :
    Calls Tryd.prog 8 #[.slice A0 n0 c0] w fun e w' => e = .returned (.bool true) ∧ Below w.heap.size w w' := by
  obtain ⟨kk, l, q1, q2, q3⟩ := arg_bytes h0
  exact (v_CommandReads (kk := kk) (l := l) q1 q2).law mixed prims_ok ⟨_, _, Tryd.func8, rfl, by decide +kernel⟩ ⟨_, _, rfl, q3, rfl⟩ hg
end Go.Proofs.YtenbclcfhjdcaaaDoor
end
