/- What the proof of CommandBytes rests on, part 7 of 7. -/
import Derived.Test.YtenbclcfhjdcaaaDoorCommandBytesP6
import Derived.Test.YtenbclcfhjdcaaaDoorCommandBytesS
import Derived.Deep.Strs
section
set_option maxHeartbeats 8000000
set_option linter.unusedVariables false
set_option linter.unusedSimpArgs false

/- Law CommandBytes. -/
namespace Go.Proofs.YtenbclcfhjdcaaaDoor.VM
open Go Go.Proofs AM B
set_option maxRecDepth 100000
set_option maxHeartbeats 8000000
theorem vD_ok {k a b c : Int} {bs rest : List Int} : vD (k, (a, b, c), bs, rest, 0) = .tup [Cv k a b c (if hasB k then BS true bs else .lit (.slice none 0 0)), BS true rest, i6 0] := by simp [vD]
theorem chk_bytes {k a b c : Int} {l : List Int} (he : chkC k a b c l = 0) : hasB k = true ∨ l = [] := by
  have h11 := chk_kind he
  by_cases h9 : k = 9
  · subst h9; exact .inr (chk_nine he).2.2.2
  · by_cases h3 : k ≤ 3
    · exact (chk_one ⟨h11.1, h3⟩ he).2.2.2
    · exact (chk_zero' h11 (by omega) he).2.2.2
theorem g_venc {n : Int} {rest : List Int} (h : 0 ≤ n) (h9 : n < 9223372036854775808) : gE (venc n.toNat ++ rest) = 0 ∧ gV_ (venc n.toNat ++ rest) = n ∧ gR (venc n.toNat ++ rest) = rest := by
  have h1 := getN_venc (n := n.toNat) (rest := rest) (by omega)
  unfold gE gV_ gR
  rw [h1]
  refine ⟨rfl, ?_, ?_⟩
  · show ((n.toNat : Nat) : Int) = n; omega
  · simp
theorem decT_text {a : Int} {l x : List Int} (hl : l.length ≤ 1100) : decT a (venc l.length ++ l ++ x) = ((a, 0, 0), l, x, 0) := by
  have h := getT_text (b := l) (rest := x) (by omega)
  rw [← List.append_assoc] at h
  unfold decT
  rw [h, if_neg (fun h => h rfl)]
theorem dec_enc {k a b c : Int} {l x : List Int} (he : chkC k a b c l = 0) (ha9 : a < 9223372036854775808) (hb9 : b < 9223372036854775808) (hc9 : c < 9223372036854775808) (hl : l.length ≤ 1100) : decC (encC k a b c l ++ x) = (k, (a, b, c), l, x, 0) := by
  have h11 := chk_kind he
  by_cases h9 : k = 9
  · subst h9
    obtain ⟨p1, p2, p3, rfl⟩ := chk_nine he
    rw [encC9]
    show (9, dec9 ((venc a.toNat ++ (venc b.toNat ++ venc c.toNat)) ++ x)) = _
    rw [List.append_assoc, List.append_assoc]
    obtain ⟨q1, q2, q3⟩ := g_venc (rest := venc b.toNat ++ (venc c.toNat ++ x)) p1 ha9
    obtain ⟨r1, r2, r3⟩ := g_venc (rest := venc c.toNat ++ x) p2 hb9
    obtain ⟨s1, s2, s3⟩ := g_venc (rest := x) p3 hc9
    unfold dec9
    rw [q3, r3, s3, q1, q2, r1, r2, s1, s2]
    rfl
  · by_cases h3 : k ≤ 3
    · have h13 : 1 ≤ k ∧ k ≤ 3 := ⟨h11.1, h3⟩
      obtain ⟨p1, rfl, rfl, p4⟩ := chk_one h13 he
      rw [encC1 h13]
      show (if 1 ≤ k ∧ k ≤ 11 then (k, decK k ((venc a.toNat ++ (if hasB k = true then venc l.length ++ l else [])) ++ x)) else (0, bad 13)) = _
      rw [if_pos h11]
      unfold decK
      rw [if_neg h9, if_pos h13, List.append_assoc]
      obtain ⟨q1, q2, q3⟩ := g_venc (rest := (if hasB k = true then venc l.length ++ l else []) ++ x) p1 ha9
      unfold dec1
      rw [q3, q1, q2]
      rcases p4 with p4 | p4
      · rw [p4, if_pos rfl, if_neg (fun h => h rfl), if_pos rfl, decT_text hl]
      · subst p4
        cases hh : hasB k
        · rfl
        · rw [if_pos rfl, if_neg (fun h => h rfl), if_pos rfl, decT_text hl]
    · have h13 : ¬ (1 ≤ k ∧ k ≤ 3 ∨ k = 9) := by omega
      obtain ⟨rfl, rfl, rfl, p4⟩ := chk_zero' h11 h13 he
      rw [encC0 h11 h13]
      show (if 1 ≤ k ∧ k ≤ 11 then (k, decK k ((if hasB k = true then venc l.length ++ l else []) ++ x)) else (0, bad 13)) = _
      rw [if_pos h11]
      unfold decK
      rw [if_neg h9, if_neg (by omega)]
      unfold dec0
      rcases p4 with p4 | p4
      · rw [p4, if_pos rfl, if_pos rfl, decT_text hl]
      · subst p4
        cases hh : hasB k
        · rfl
        · rw [if_pos rfl, if_pos rfl, decT_text hl]
theorem encC_len {k a b c : Int} {l : List Int} (hl : l.length ≤ 1100) : (encC k a b c l).length ≤ 1200 := by
  have va := venc_length a.toNat
  have vb := venc_length b.toNat
  have vc := venc_length c.toNat
  have vl := venc_length l.length
  unfold encC
  split <;> split <;> (try split) <;> simp <;> omega
theorem encC_byte {k a b c : Int} {l : List Int} (hk : 1 ≤ k ∧ k ≤ 11) (bl : ∀ x ∈ l, 0 ≤ x ∧ x ≤ 255) : ∀ x ∈ encC k a b c l, 0 ≤ x ∧ x ≤ 255 := by
  intro x hx
  unfold encC at hx
  rcases List.mem_cons.1 hx with rfl | hx
  · omega
  rcases List.mem_append.1 hx with hx | hx
  · split at hx
    · rcases List.mem_append.1 hx with hx | hx
      · exact vencF_byte _ _ _ hx
      · rcases List.mem_append.1 hx with hx | hx <;> exact vencF_byte _ _ _ hx
    · split at hx
      · exact vencF_byte _ _ _ hx
      · simp at hx
  · split at hx
    · rcases List.mem_append.1 hx with hx | hx
      · exact vencF_byte _ _ _ hx
      · exact bl x hx
    · simp at hx
theorem v_Changes {k : Int} : A 40 [i6 k] (bo (decide (0 < k) && decide (k < 7))) := by
  rw [show decide (0 < k) = decide (1 ≤ k) from decide_eq_decide.2 (by omega), show decide (k < 7) = decide (k ≤ 6) from decide_eq_decide.2 (by omega)]
  intro H
  refine v_enter hC [] (fun _ _ => kn_none rfl) Tryd.func40 rfl ok40 (Nat.le_of_ble_eq_true rfl) fun hcl hbl => ?_
  simp
  by_cases h1 : 1 ≤ k
  · simp [h1, Tryd.results40]
    first | (refine GV.ans hcl ?_; simp [h1]; done) | (refine GV.ans0 ?_; simp [h1]; done)
  · simp [h1, Tryd.results40]
    first | (refine GV.ans hcl ?_; simp [h1]; done) | (refine GV.ans0 ?_; simp [h1]; done)
theorem wordOf_cells {k : Int} (h0 : 0 < k) (h12 : k < 12) : ([.lit (.string ⟨#[]⟩), .lit (.string ⟨#[97, 100, 100]⟩), .lit (.string ⟨#[100, 101, 108, 101, 116, 101]⟩), .lit (.string ⟨#[115, 116, 101, 112]⟩), .lit (.string ⟨#[115, 116, 97, 103, 101]⟩), .lit (.string ⟨#[99, 111, 109, 109, 105, 116]⟩), .lit (.string ⟨#[97, 98, 111, 114, 116]⟩), .lit (.string ⟨#[99, 111, 117, 110, 116]⟩), .lit (.string ⟨#[108, 111, 99, 97, 116, 101]⟩), .lit (.string ⟨#[101, 120, 116, 114, 97, 99, 116]⟩), .lit (.string ⟨#[108, 105, 115, 116]⟩), .lit (.string ⟨#[115, 116, 97, 116]⟩)] : List V)[k.toNat]? = some (.lit (.string (TW.wordOf k))) := by
  obtain rfl | rfl | rfl | rfl | rfl | rfl | rfl | rfl | rfl | rfl | rfl : k = 1 ∨ k = 2 ∨ k = 3 ∨ k = 4 ∨ k = 5 ∨ k = 6 ∨ k = 7 ∨ k = 8 ∨ k = 9 ∨ k = 10 ∨ k = 11 := by omega
  all_goals rfl
theorem v_CommandBytes {k a b c kind : Int} {kk kb : Bool} {l x : List Int} (hk : -9223372036854775808 ≤ k ∧ k ≤ 9223372036854775807) (hkd : -9223372036854775808 ≤ kind ∧ kind ≤ 9223372036854775807) (ha9 : a < 9223372036854775808) (hb9 : b < 9223372036854775808) (hc9 : c < 9223372036854775808)
    (hl : l.length < 2 ^ 63) (hx : x.length < 2 ^ 63) (bl : ∀ y ∈ l, 0 ≤ y ∧ y ≤ 255) (bx : ∀ y ∈ x, 0 ≤ y ∧ y ≤ 255) : A 7 [Cv k a b c (BS kk l), BS kb x, i6 kind] (bo true) := by
  intro H
  unfold Cv
  refine v_enter hC [84] (fun _ _ => kn_none rfl) Tryd.func7 rfl ok7 (Nat.le_of_ble_eq_true rfl) fun hcl hbl => ?_
  simp
  refine (v_To (k := k) (a := a) (b := b) (c := c) (kk := kk) (l := l) hl).callU [Cv k a b c (BS kk l)] (by simp [Cv]) ?_
  obtain ⟨m, hm⟩ : ∃ m, l.take 1100 = m := ⟨_, rfl⟩
  have hml : m.length ≤ 1100 := by rw [← hm, List.length_take]; omega
  have bm : ∀ y ∈ m, 0 ≤ y ∧ y ≤ 255 := fun y hy => bl y (List.mem_of_mem_take (hm ▸ hy))
  rw [hm]
  unfold Cv
  simp
  refine (v_Of (k := k) (a := a) (b := b) (c := c) (kk := true) (l := m)).callU [Cv k a b c (BS true m)] (by simp [Cv]) ?_
  unfold Cv
  have hbd : bounds x.length x.length none (some (if 20 < (x.length : Int) then 20 else (x.length : Int))) none = some (0, min x.length 20, x.length) := by
    rw [show (if 20 < (x.length : Int) then 20 else (x.length : Int)) = ((min x.length 20 : Nat) : Int) by split <;> omega]
    exact bounds_hi (by omega)
  simp [hbd]
  rw [← List.map_take]
  obtain ⟨y, hy⟩ : ∃ y, x.take (min x.length 20) = y := ⟨_, rfl⟩
  have hyl : y.length ≤ 20 := by rw [← hy, List.length_take]; omega
  have bY : ∀ z ∈ y, 0 ≤ z ∧ z ≤ 255 := fun z hz => bx z (List.mem_of_mem_take (hy ▸ hz))
  rw [hy]
  refine (v_cEncode (k := k) (a := a) (b := b) (c := c) (l := m) hk ha9 hb9 hc9 bm hml).callU [Cv k a b c (BS true m)] (by simp [Cv]) ?_
  simp
  refine (v_r30Check (k := k) (a := a) (b := b) (c := c) (kk := true) (l := m)).callU [Cv k a b c (BS true m)] (by simp [Cv]) ?_
  simp
  by_cases h0 : 0 < kind
  · by_cases h12 : kind < 12
    · have hwc := wordOf_cells h0 h12
      have hnn : 0 ≤ kind := by omega
      have h12' : kind ≤ 12 := by omega
      have hE : True := trivial
      have hwg := (List.getElem_eq_iff (by simp; omega)).2 hwc
      simp [h0, h12, hnn, h12', hwg]
      refine (v_cCheck (k := k) (a := a) (b := b) (c := c) (kk := true) (l := m) hk bm).callU [Cv k a b c (BS true m)] (by simp [Cv]) ?_
      simp
      refine (v_cSame (k := k) (a := a) (b := b) (c := c) (k' := k) (a' := a) (b' := b) (c' := c) (kk := true) (kl := true) (l := m) (m := m) bm bm).callU [Cv k a b c (BS true m), Cv k a b c (BS true m)] (by simp [Cv]) ?_
      simp
      refine (v_Word (k := kind) hkd).call ?_
      simp [hE]
      refine (v_Changes (k := kind)).call ?_
      by_cases g0 : 0 < kind
      · by_cases g7 : kind < 7
        · simp [g0, g7]
          by_cases he : chkC k a b c m = 0
          case neg =>
            have hE' : encE' k a b c m = [] := by unfold encE'; rw [if_neg he]
            simp [he]
            refine v_known.call ?_
            simp [hE', Tryd.results7]
            first | (refine GV.ans hcl ?_; simp []; done) | (refine GV.ans0 ?_; simp []; done)
          have hE' : encE' k a b c m = encC k a b c m := by unfold encE'; rw [if_pos he]
          have h11 := chk_kind he
          have hEl := encC_len (k := k) (a := a) (b := b) (c := c) hml
          have hcb := encC_byte (a := a) (b := b) (c := c) h11 bm
          have hdc := dec_enc (x := y) he ha9 hb9 hc9 hml
          obtain ⟨E, hEn⟩ : ∃ E, encC k a b c m = E := ⟨_, rfl⟩
          rw [hEn] at hEl hcb hdc hE'
          simp [he, hE']
          refine ⟨by omega, by omega, ?_⟩
          have hD := v_cDecode (kk := true) (l := E ++ y) (by rw [List.length_append]; omega) (fun z hz => (List.mem_append.1 hz).elim (hcb z) (bY z))
          rw [hdc, vD_ok] at hD
          have hN := v_r30Encode (kk := true) he ha9 hb9 hc9 hml
          rw [hEn] at hN
          refine hD.callF [BS true (E ++ y)] (Frz.vec (g := H.length + 4) (w := 2) (s := 1) (rows := (E ++ y).map bc) (rw := true) (t := true) (by simp) (by simp)) (by simp) ?_
          cases hh : hasB k
          · have hm0 : m = [] := (chk_bytes he).resolve_left (by rw [hh]; decide)
            simp [Cv]
            refine v_known.call ?_
            simp
            refine hN.callU [Cv k a b c (BS true m)] (by simp [Cv]) ?_
            simp
            refine (v_Same1 (kk := true) (km := true) (l := encE' k a b c m) (m := E) (by rw [hE']; omega)).call ?_
            simp [hE']
            refine (v_cSame (k := k) (a := a) (b := b) (c := c) (k' := k) (a' := a) (b' := b) (c' := c) (kk := true) (kl := true) (l := []) (m := m) (by simp) bm).callU [Cv k a b c (BS true []), Cv k a b c (BS true m)] (by simp [Cv]) ?_
            simp [hm0]
            refine (v_Same1 (kk := true) (km := kb) (l := y) (m := y) (by omega)).callU [BS true y, BS kb y] (by simp) ?_
            simp [Tryd.results7]
            first | (refine GV.ans hcl ?_; simp []; done) | (refine GV.ans0 ?_; simp []; done)
          · simp [Cv]
            refine v_known.call ?_
            simp
            refine hN.callU [Cv k a b c (BS true m)] (by simp [Cv]) ?_
            simp
            refine (v_Same1 (kk := true) (km := true) (l := encE' k a b c m) (m := E) (by rw [hE']; omega)).call ?_
            simp [hE']
            refine (v_cSame (k := k) (a := a) (b := b) (c := c) (k' := k) (a' := a) (b' := b) (c' := c) (kk := true) (kl := true) (l := m) (m := m) bm bm).callU [Cv k a b c (BS true m), Cv k a b c (BS true m)] (by simp [Cv]) ?_
            simp
            refine (v_Same1 (kk := true) (km := kb) (l := y) (m := y) (by omega)).callU [BS true y, BS kb y] (by simp) ?_
            simp [Tryd.results7]
            first | (refine GV.ans hcl ?_; simp []; done) | (refine GV.ans0 ?_; simp []; done)
        · simp [g0, g7]
          by_cases he : chkC k a b c m = 0
          case neg =>
            have hE' : encE' k a b c m = [] := by unfold encE'; rw [if_neg he]
            simp [he]
            refine v_known.call ?_
            simp [hE', Tryd.results7]
            first | (refine GV.ans hcl ?_; simp []; done) | (refine GV.ans0 ?_; simp []; done)
          have hE' : encE' k a b c m = encC k a b c m := by unfold encE'; rw [if_pos he]
          have h11 := chk_kind he
          have hEl := encC_len (k := k) (a := a) (b := b) (c := c) hml
          have hcb := encC_byte (a := a) (b := b) (c := c) h11 bm
          have hdc := dec_enc (x := y) he ha9 hb9 hc9 hml
          obtain ⟨E, hEn⟩ : ∃ E, encC k a b c m = E := ⟨_, rfl⟩
          rw [hEn] at hEl hcb hdc hE'
          simp [he, hE']
          refine ⟨by omega, by omega, ?_⟩
          have hD := v_cDecode (kk := true) (l := E ++ y) (by rw [List.length_append]; omega) (fun z hz => (List.mem_append.1 hz).elim (hcb z) (bY z))
          rw [hdc, vD_ok] at hD
          have hN := v_r30Encode (kk := true) he ha9 hb9 hc9 hml
          rw [hEn] at hN
          refine hD.callF [BS true (E ++ y)] (Frz.vec (g := H.length + 4) (w := 2) (s := 1) (rows := (E ++ y).map bc) (rw := true) (t := true) (by simp) (by simp)) (by simp) ?_
          cases hh : hasB k
          · have hm0 : m = [] := (chk_bytes he).resolve_left (by rw [hh]; decide)
            simp [Cv]
            refine v_known.call ?_
            simp
            refine hN.callU [Cv k a b c (BS true m)] (by simp [Cv]) ?_
            simp
            refine (v_Same1 (kk := true) (km := true) (l := encE' k a b c m) (m := E) (by rw [hE']; omega)).call ?_
            simp [hE']
            refine (v_cSame (k := k) (a := a) (b := b) (c := c) (k' := k) (a' := a) (b' := b) (c' := c) (kk := true) (kl := true) (l := []) (m := m) (by simp) bm).callU [Cv k a b c (BS true []), Cv k a b c (BS true m)] (by simp [Cv]) ?_
            simp [hm0]
            refine (v_Same1 (kk := true) (km := kb) (l := y) (m := y) (by omega)).callU [BS true y, BS kb y] (by simp) ?_
            simp [Tryd.results7]
            first | (refine GV.ans hcl ?_; simp []; done) | (refine GV.ans0 ?_; simp []; done)
          · simp [Cv]
            refine v_known.call ?_
            simp
            refine hN.callU [Cv k a b c (BS true m)] (by simp [Cv]) ?_
            simp
            refine (v_Same1 (kk := true) (km := true) (l := encE' k a b c m) (m := E) (by rw [hE']; omega)).call ?_
            simp [hE']
            refine (v_cSame (k := k) (a := a) (b := b) (c := c) (k' := k) (a' := a) (b' := b) (c' := c) (kk := true) (kl := true) (l := m) (m := m) bm bm).callU [Cv k a b c (BS true m), Cv k a b c (BS true m)] (by simp [Cv]) ?_
            simp
            refine (v_Same1 (kk := true) (km := kb) (l := y) (m := y) (by omega)).callU [BS true y, BS kb y] (by simp) ?_
            simp [Tryd.results7]
            first | (refine GV.ans hcl ?_; simp []; done) | (refine GV.ans0 ?_; simp []; done)
      · simp [g0]
        by_cases he : chkC k a b c m = 0
        case neg =>
          have hE' : encE' k a b c m = [] := by unfold encE'; rw [if_neg he]
          simp [he]
          refine v_known.call ?_
          simp [hE', Tryd.results7]
          first | (refine GV.ans hcl ?_; simp []; done) | (refine GV.ans0 ?_; simp []; done)
        have hE' : encE' k a b c m = encC k a b c m := by unfold encE'; rw [if_pos he]
        have h11 := chk_kind he
        have hEl := encC_len (k := k) (a := a) (b := b) (c := c) hml
        have hcb := encC_byte (a := a) (b := b) (c := c) h11 bm
        have hdc := dec_enc (x := y) he ha9 hb9 hc9 hml
        obtain ⟨E, hEn⟩ : ∃ E, encC k a b c m = E := ⟨_, rfl⟩
        rw [hEn] at hEl hcb hdc hE'
        simp [he, hE']
        refine ⟨by omega, by omega, ?_⟩
        have hD := v_cDecode (kk := true) (l := E ++ y) (by rw [List.length_append]; omega) (fun z hz => (List.mem_append.1 hz).elim (hcb z) (bY z))
        rw [hdc, vD_ok] at hD
        have hN := v_r30Encode (kk := true) he ha9 hb9 hc9 hml
        rw [hEn] at hN
        refine hD.callF [BS true (E ++ y)] (Frz.vec (g := H.length + 4) (w := 2) (s := 1) (rows := (E ++ y).map bc) (rw := true) (t := true) (by simp) (by simp)) (by simp) ?_
        cases hh : hasB k
        · have hm0 : m = [] := (chk_bytes he).resolve_left (by rw [hh]; decide)
          simp [Cv]
          refine v_known.call ?_
          simp
          refine hN.callU [Cv k a b c (BS true m)] (by simp [Cv]) ?_
          simp
          refine (v_Same1 (kk := true) (km := true) (l := encE' k a b c m) (m := E) (by rw [hE']; omega)).call ?_
          simp [hE']
          refine (v_cSame (k := k) (a := a) (b := b) (c := c) (k' := k) (a' := a) (b' := b) (c' := c) (kk := true) (kl := true) (l := []) (m := m) (by simp) bm).callU [Cv k a b c (BS true []), Cv k a b c (BS true m)] (by simp [Cv]) ?_
          simp [hm0]
          refine (v_Same1 (kk := true) (km := kb) (l := y) (m := y) (by omega)).callU [BS true y, BS kb y] (by simp) ?_
          simp [Tryd.results7]
          first | (refine GV.ans hcl ?_; simp []; done) | (refine GV.ans0 ?_; simp []; done)
        · simp [Cv]
          refine v_known.call ?_
          simp
          refine hN.callU [Cv k a b c (BS true m)] (by simp [Cv]) ?_
          simp
          refine (v_Same1 (kk := true) (km := true) (l := encE' k a b c m) (m := E) (by rw [hE']; omega)).call ?_
          simp [hE']
          refine (v_cSame (k := k) (a := a) (b := b) (c := c) (k' := k) (a' := a) (b' := b) (c' := c) (kk := true) (kl := true) (l := m) (m := m) bm bm).callU [Cv k a b c (BS true m), Cv k a b c (BS true m)] (by simp [Cv]) ?_
          simp
          refine (v_Same1 (kk := true) (km := kb) (l := y) (m := y) (by omega)).callU [BS true y, BS kb y] (by simp) ?_
          simp [Tryd.results7]
          first | (refine GV.ans hcl ?_; simp []; done) | (refine GV.ans0 ?_; simp []; done)
    · have hE := wordOf_none (k := kind) (by omega)
      simp [h0, h12]
      refine (v_cCheck (k := k) (a := a) (b := b) (c := c) (kk := true) (l := m) hk bm).callU [Cv k a b c (BS true m)] (by simp [Cv]) ?_
      simp
      refine (v_cSame (k := k) (a := a) (b := b) (c := c) (k' := k) (a' := a) (b' := b) (c' := c) (kk := true) (kl := true) (l := m) (m := m) bm bm).callU [Cv k a b c (BS true m), Cv k a b c (BS true m)] (by simp [Cv]) ?_
      simp
      refine (v_Word (k := kind) hkd).call ?_
      simp [hE]
      refine (v_Changes (k := kind)).call ?_
      by_cases g0 : 0 < kind
      · by_cases g7 : kind < 7
        · simp [g0, g7]
          by_cases he : chkC k a b c m = 0
          case neg =>
            have hE' : encE' k a b c m = [] := by unfold encE'; rw [if_neg he]
            simp [he]
            refine v_known.call ?_
            simp [hE', Tryd.results7]
            first | (refine GV.ans hcl ?_; simp []; done) | (refine GV.ans0 ?_; simp []; done)
          have hE' : encE' k a b c m = encC k a b c m := by unfold encE'; rw [if_pos he]
          have h11 := chk_kind he
          have hEl := encC_len (k := k) (a := a) (b := b) (c := c) hml
          have hcb := encC_byte (a := a) (b := b) (c := c) h11 bm
          have hdc := dec_enc (x := y) he ha9 hb9 hc9 hml
          obtain ⟨E, hEn⟩ : ∃ E, encC k a b c m = E := ⟨_, rfl⟩
          rw [hEn] at hEl hcb hdc hE'
          simp [he, hE']
          refine ⟨by omega, by omega, ?_⟩
          have hD := v_cDecode (kk := true) (l := E ++ y) (by rw [List.length_append]; omega) (fun z hz => (List.mem_append.1 hz).elim (hcb z) (bY z))
          rw [hdc, vD_ok] at hD
          have hN := v_r30Encode (kk := true) he ha9 hb9 hc9 hml
          rw [hEn] at hN
          refine hD.callF [BS true (E ++ y)] (Frz.vec (g := H.length + 4) (w := 2) (s := 1) (rows := (E ++ y).map bc) (rw := true) (t := true) (by simp) (by simp)) (by simp) ?_
          cases hh : hasB k
          · have hm0 : m = [] := (chk_bytes he).resolve_left (by rw [hh]; decide)
            simp [Cv]
            refine v_known.call ?_
            simp
            refine hN.callU [Cv k a b c (BS true m)] (by simp [Cv]) ?_
            simp
            refine (v_Same1 (kk := true) (km := true) (l := encE' k a b c m) (m := E) (by rw [hE']; omega)).call ?_
            simp [hE']
            refine (v_cSame (k := k) (a := a) (b := b) (c := c) (k' := k) (a' := a) (b' := b) (c' := c) (kk := true) (kl := true) (l := []) (m := m) (by simp) bm).callU [Cv k a b c (BS true []), Cv k a b c (BS true m)] (by simp [Cv]) ?_
            simp [hm0]
            refine (v_Same1 (kk := true) (km := kb) (l := y) (m := y) (by omega)).callU [BS true y, BS kb y] (by simp) ?_
            simp [Tryd.results7]
            first | (refine GV.ans hcl ?_; simp []; done) | (refine GV.ans0 ?_; simp []; done)
          · simp [Cv]
            refine v_known.call ?_
            simp
            refine hN.callU [Cv k a b c (BS true m)] (by simp [Cv]) ?_
            simp
            refine (v_Same1 (kk := true) (km := true) (l := encE' k a b c m) (m := E) (by rw [hE']; omega)).call ?_
            simp [hE']
            refine (v_cSame (k := k) (a := a) (b := b) (c := c) (k' := k) (a' := a) (b' := b) (c' := c) (kk := true) (kl := true) (l := m) (m := m) bm bm).callU [Cv k a b c (BS true m), Cv k a b c (BS true m)] (by simp [Cv]) ?_
            simp
            refine (v_Same1 (kk := true) (km := kb) (l := y) (m := y) (by omega)).callU [BS true y, BS kb y] (by simp) ?_
            simp [Tryd.results7]
            first | (refine GV.ans hcl ?_; simp []; done) | (refine GV.ans0 ?_; simp []; done)
        · simp [g0, g7]
          by_cases he : chkC k a b c m = 0
          case neg =>
            have hE' : encE' k a b c m = [] := by unfold encE'; rw [if_neg he]
            simp [he]
            refine v_known.call ?_
            simp [hE', Tryd.results7]
            first | (refine GV.ans hcl ?_; simp []; done) | (refine GV.ans0 ?_; simp []; done)
          have hE' : encE' k a b c m = encC k a b c m := by unfold encE'; rw [if_pos he]
          have h11 := chk_kind he
          have hEl := encC_len (k := k) (a := a) (b := b) (c := c) hml
          have hcb := encC_byte (a := a) (b := b) (c := c) h11 bm
          have hdc := dec_enc (x := y) he ha9 hb9 hc9 hml
          obtain ⟨E, hEn⟩ : ∃ E, encC k a b c m = E := ⟨_, rfl⟩
          rw [hEn] at hEl hcb hdc hE'
          simp [he, hE']
          refine ⟨by omega, by omega, ?_⟩
          have hD := v_cDecode (kk := true) (l := E ++ y) (by rw [List.length_append]; omega) (fun z hz => (List.mem_append.1 hz).elim (hcb z) (bY z))
          rw [hdc, vD_ok] at hD
          have hN := v_r30Encode (kk := true) he ha9 hb9 hc9 hml
          rw [hEn] at hN
          refine hD.callF [BS true (E ++ y)] (Frz.vec (g := H.length + 4) (w := 2) (s := 1) (rows := (E ++ y).map bc) (rw := true) (t := true) (by simp) (by simp)) (by simp) ?_
          cases hh : hasB k
          · have hm0 : m = [] := (chk_bytes he).resolve_left (by rw [hh]; decide)
            simp [Cv]
            refine v_known.call ?_
            simp
            refine hN.callU [Cv k a b c (BS true m)] (by simp [Cv]) ?_
            simp
            refine (v_Same1 (kk := true) (km := true) (l := encE' k a b c m) (m := E) (by rw [hE']; omega)).call ?_
            simp [hE']
            refine (v_cSame (k := k) (a := a) (b := b) (c := c) (k' := k) (a' := a) (b' := b) (c' := c) (kk := true) (kl := true) (l := []) (m := m) (by simp) bm).callU [Cv k a b c (BS true []), Cv k a b c (BS true m)] (by simp [Cv]) ?_
            simp [hm0]
            refine (v_Same1 (kk := true) (km := kb) (l := y) (m := y) (by omega)).callU [BS true y, BS kb y] (by simp) ?_
            simp [Tryd.results7]
            first | (refine GV.ans hcl ?_; simp []; done) | (refine GV.ans0 ?_; simp []; done)
          · simp [Cv]
            refine v_known.call ?_
            simp
            refine hN.callU [Cv k a b c (BS true m)] (by simp [Cv]) ?_
            simp
            refine (v_Same1 (kk := true) (km := true) (l := encE' k a b c m) (m := E) (by rw [hE']; omega)).call ?_
            simp [hE']
            refine (v_cSame (k := k) (a := a) (b := b) (c := c) (k' := k) (a' := a) (b' := b) (c' := c) (kk := true) (kl := true) (l := m) (m := m) bm bm).callU [Cv k a b c (BS true m), Cv k a b c (BS true m)] (by simp [Cv]) ?_
            simp
            refine (v_Same1 (kk := true) (km := kb) (l := y) (m := y) (by omega)).callU [BS true y, BS kb y] (by simp) ?_
            simp [Tryd.results7]
            first | (refine GV.ans hcl ?_; simp []; done) | (refine GV.ans0 ?_; simp []; done)
      · simp [g0]
        by_cases he : chkC k a b c m = 0
        case neg =>
          have hE' : encE' k a b c m = [] := by unfold encE'; rw [if_neg he]
          simp [he]
          refine v_known.call ?_
          simp [hE', Tryd.results7]
          first | (refine GV.ans hcl ?_; simp []; done) | (refine GV.ans0 ?_; simp []; done)
        have hE' : encE' k a b c m = encC k a b c m := by unfold encE'; rw [if_pos he]
        have h11 := chk_kind he
        have hEl := encC_len (k := k) (a := a) (b := b) (c := c) hml
        have hcb := encC_byte (a := a) (b := b) (c := c) h11 bm
        have hdc := dec_enc (x := y) he ha9 hb9 hc9 hml
        obtain ⟨E, hEn⟩ : ∃ E, encC k a b c m = E := ⟨_, rfl⟩
        rw [hEn] at hEl hcb hdc hE'
        simp [he, hE']
        refine ⟨by omega, by omega, ?_⟩
        have hD := v_cDecode (kk := true) (l := E ++ y) (by rw [List.length_append]; omega) (fun z hz => (List.mem_append.1 hz).elim (hcb z) (bY z))
        rw [hdc, vD_ok] at hD
        have hN := v_r30Encode (kk := true) he ha9 hb9 hc9 hml
        rw [hEn] at hN
        refine hD.callF [BS true (E ++ y)] (Frz.vec (g := H.length + 4) (w := 2) (s := 1) (rows := (E ++ y).map bc) (rw := true) (t := true) (by simp) (by simp)) (by simp) ?_
        cases hh : hasB k
        · have hm0 : m = [] := (chk_bytes he).resolve_left (by rw [hh]; decide)
          simp [Cv]
          refine v_known.call ?_
          simp
          refine hN.callU [Cv k a b c (BS true m)] (by simp [Cv]) ?_
          simp
          refine (v_Same1 (kk := true) (km := true) (l := encE' k a b c m) (m := E) (by rw [hE']; omega)).call ?_
          simp [hE']
          refine (v_cSame (k := k) (a := a) (b := b) (c := c) (k' := k) (a' := a) (b' := b) (c' := c) (kk := true) (kl := true) (l := []) (m := m) (by simp) bm).callU [Cv k a b c (BS true []), Cv k a b c (BS true m)] (by simp [Cv]) ?_
          simp [hm0]
          refine (v_Same1 (kk := true) (km := kb) (l := y) (m := y) (by omega)).callU [BS true y, BS kb y] (by simp) ?_
          simp [Tryd.results7]
          first | (refine GV.ans hcl ?_; simp []; done) | (refine GV.ans0 ?_; simp []; done)
        · simp [Cv]
          refine v_known.call ?_
          simp
          refine hN.callU [Cv k a b c (BS true m)] (by simp [Cv]) ?_
          simp
          refine (v_Same1 (kk := true) (km := true) (l := encE' k a b c m) (m := E) (by rw [hE']; omega)).call ?_
          simp [hE']
          refine (v_cSame (k := k) (a := a) (b := b) (c := c) (k' := k) (a' := a) (b' := b) (c' := c) (kk := true) (kl := true) (l := m) (m := m) bm bm).callU [Cv k a b c (BS true m), Cv k a b c (BS true m)] (by simp [Cv]) ?_
          simp
          refine (v_Same1 (kk := true) (km := kb) (l := y) (m := y) (by omega)).callU [BS true y, BS kb y] (by simp) ?_
          simp [Tryd.results7]
          first | (refine GV.ans hcl ?_; simp []; done) | (refine GV.ans0 ?_; simp []; done)
  · have hE := wordOf_none (k := kind) (by omega)
    simp [h0]
    refine (v_cCheck (k := k) (a := a) (b := b) (c := c) (kk := true) (l := m) hk bm).callU [Cv k a b c (BS true m)] (by simp [Cv]) ?_
    simp
    refine (v_cSame (k := k) (a := a) (b := b) (c := c) (k' := k) (a' := a) (b' := b) (c' := c) (kk := true) (kl := true) (l := m) (m := m) bm bm).callU [Cv k a b c (BS true m), Cv k a b c (BS true m)] (by simp [Cv]) ?_
    simp
    refine (v_Word (k := kind) hkd).call ?_
    simp [hE]
    refine (v_Changes (k := kind)).call ?_
    by_cases g0 : 0 < kind
    · by_cases g7 : kind < 7
      · simp [g0, g7]
        by_cases he : chkC k a b c m = 0
        case neg =>
          have hE' : encE' k a b c m = [] := by unfold encE'; rw [if_neg he]
          simp [he]
          refine v_known.call ?_
          simp [hE', Tryd.results7]
          first | (refine GV.ans hcl ?_; simp []; done) | (refine GV.ans0 ?_; simp []; done)
        have hE' : encE' k a b c m = encC k a b c m := by unfold encE'; rw [if_pos he]
        have h11 := chk_kind he
        have hEl := encC_len (k := k) (a := a) (b := b) (c := c) hml
        have hcb := encC_byte (a := a) (b := b) (c := c) h11 bm
        have hdc := dec_enc (x := y) he ha9 hb9 hc9 hml
        obtain ⟨E, hEn⟩ : ∃ E, encC k a b c m = E := ⟨_, rfl⟩
        rw [hEn] at hEl hcb hdc hE'
        simp [he, hE']
        refine ⟨by omega, by omega, ?_⟩
        have hD := v_cDecode (kk := true) (l := E ++ y) (by rw [List.length_append]; omega) (fun z hz => (List.mem_append.1 hz).elim (hcb z) (bY z))
        rw [hdc, vD_ok] at hD
        have hN := v_r30Encode (kk := true) he ha9 hb9 hc9 hml
        rw [hEn] at hN
        refine hD.callF [BS true (E ++ y)] (Frz.vec (g := H.length + 4) (w := 2) (s := 1) (rows := (E ++ y).map bc) (rw := true) (t := true) (by simp) (by simp)) (by simp) ?_
        cases hh : hasB k
        · have hm0 : m = [] := (chk_bytes he).resolve_left (by rw [hh]; decide)
          simp [Cv]
          refine v_known.call ?_
          simp
          refine hN.callU [Cv k a b c (BS true m)] (by simp [Cv]) ?_
          simp
          refine (v_Same1 (kk := true) (km := true) (l := encE' k a b c m) (m := E) (by rw [hE']; omega)).call ?_
          simp [hE']
          refine (v_cSame (k := k) (a := a) (b := b) (c := c) (k' := k) (a' := a) (b' := b) (c' := c) (kk := true) (kl := true) (l := []) (m := m) (by simp) bm).callU [Cv k a b c (BS true []), Cv k a b c (BS true m)] (by simp [Cv]) ?_
          simp [hm0]
          refine (v_Same1 (kk := true) (km := kb) (l := y) (m := y) (by omega)).callU [BS true y, BS kb y] (by simp) ?_
          simp [Tryd.results7]
          first | (refine GV.ans hcl ?_; simp []; done) | (refine GV.ans0 ?_; simp []; done)
        · simp [Cv]
          refine v_known.call ?_
          simp
          refine hN.callU [Cv k a b c (BS true m)] (by simp [Cv]) ?_
          simp
          refine (v_Same1 (kk := true) (km := true) (l := encE' k a b c m) (m := E) (by rw [hE']; omega)).call ?_
          simp [hE']
          refine (v_cSame (k := k) (a := a) (b := b) (c := c) (k' := k) (a' := a) (b' := b) (c' := c) (kk := true) (kl := true) (l := m) (m := m) bm bm).callU [Cv k a b c (BS true m), Cv k a b c (BS true m)] (by simp [Cv]) ?_
          simp
          refine (v_Same1 (kk := true) (km := kb) (l := y) (m := y) (by omega)).callU [BS true y, BS kb y] (by simp) ?_
          simp [Tryd.results7]
          first | (refine GV.ans hcl ?_; simp []; done) | (refine GV.ans0 ?_; simp []; done)
      · simp [g0, g7]
        by_cases he : chkC k a b c m = 0
        case neg =>
          have hE' : encE' k a b c m = [] := by unfold encE'; rw [if_neg he]
          simp [he]
          refine v_known.call ?_
          simp [hE', Tryd.results7]
          first | (refine GV.ans hcl ?_; simp []; done) | (refine GV.ans0 ?_; simp []; done)
        have hE' : encE' k a b c m = encC k a b c m := by unfold encE'; rw [if_pos he]
        have h11 := chk_kind he
        have hEl := encC_len (k := k) (a := a) (b := b) (c := c) hml
        have hcb := encC_byte (a := a) (b := b) (c := c) h11 bm
        have hdc := dec_enc (x := y) he ha9 hb9 hc9 hml
        obtain ⟨E, hEn⟩ : ∃ E, encC k a b c m = E := ⟨_, rfl⟩
        rw [hEn] at hEl hcb hdc hE'
        simp [he, hE']
        refine ⟨by omega, by omega, ?_⟩
        have hD := v_cDecode (kk := true) (l := E ++ y) (by rw [List.length_append]; omega) (fun z hz => (List.mem_append.1 hz).elim (hcb z) (bY z))
        rw [hdc, vD_ok] at hD
        have hN := v_r30Encode (kk := true) he ha9 hb9 hc9 hml
        rw [hEn] at hN
        refine hD.callF [BS true (E ++ y)] (Frz.vec (g := H.length + 4) (w := 2) (s := 1) (rows := (E ++ y).map bc) (rw := true) (t := true) (by simp) (by simp)) (by simp) ?_
        cases hh : hasB k
        · have hm0 : m = [] := (chk_bytes he).resolve_left (by rw [hh]; decide)
          simp [Cv]
          refine v_known.call ?_
          simp
          refine hN.callU [Cv k a b c (BS true m)] (by simp [Cv]) ?_
          simp
          refine (v_Same1 (kk := true) (km := true) (l := encE' k a b c m) (m := E) (by rw [hE']; omega)).call ?_
          simp [hE']
          refine (v_cSame (k := k) (a := a) (b := b) (c := c) (k' := k) (a' := a) (b' := b) (c' := c) (kk := true) (kl := true) (l := []) (m := m) (by simp) bm).callU [Cv k a b c (BS true []), Cv k a b c (BS true m)] (by simp [Cv]) ?_
          simp [hm0]
          refine (v_Same1 (kk := true) (km := kb) (l := y) (m := y) (by omega)).callU [BS true y, BS kb y] (by simp) ?_
          simp [Tryd.results7]
          first | (refine GV.ans hcl ?_; simp []; done) | (refine GV.ans0 ?_; simp []; done)
        · simp [Cv]
          refine v_known.call ?_
          simp
          refine hN.callU [Cv k a b c (BS true m)] (by simp [Cv]) ?_
          simp
          refine (v_Same1 (kk := true) (km := true) (l := encE' k a b c m) (m := E) (by rw [hE']; omega)).call ?_
          simp [hE']
          refine (v_cSame (k := k) (a := a) (b := b) (c := c) (k' := k) (a' := a) (b' := b) (c' := c) (kk := true) (kl := true) (l := m) (m := m) bm bm).callU [Cv k a b c (BS true m), Cv k a b c (BS true m)] (by simp [Cv]) ?_
          simp
          refine (v_Same1 (kk := true) (km := kb) (l := y) (m := y) (by omega)).callU [BS true y, BS kb y] (by simp) ?_
          simp [Tryd.results7]
          first | (refine GV.ans hcl ?_; simp []; done) | (refine GV.ans0 ?_; simp []; done)
    · simp [g0]
      by_cases he : chkC k a b c m = 0
      case neg =>
        have hE' : encE' k a b c m = [] := by unfold encE'; rw [if_neg he]
        simp [he]
        refine v_known.call ?_
        simp [hE', Tryd.results7]
        first | (refine GV.ans hcl ?_; simp []; done) | (refine GV.ans0 ?_; simp []; done)
      have hE' : encE' k a b c m = encC k a b c m := by unfold encE'; rw [if_pos he]
      have h11 := chk_kind he
      have hEl := encC_len (k := k) (a := a) (b := b) (c := c) hml
      have hcb := encC_byte (a := a) (b := b) (c := c) h11 bm
      have hdc := dec_enc (x := y) he ha9 hb9 hc9 hml
      obtain ⟨E, hEn⟩ : ∃ E, encC k a b c m = E := ⟨_, rfl⟩
      rw [hEn] at hEl hcb hdc hE'
      simp [he, hE']
      refine ⟨by omega, by omega, ?_⟩
      have hD := v_cDecode (kk := true) (l := E ++ y) (by rw [List.length_append]; omega) (fun z hz => (List.mem_append.1 hz).elim (hcb z) (bY z))
      rw [hdc, vD_ok] at hD
      have hN := v_r30Encode (kk := true) he ha9 hb9 hc9 hml
      rw [hEn] at hN
      refine hD.callF [BS true (E ++ y)] (Frz.vec (g := H.length + 4) (w := 2) (s := 1) (rows := (E ++ y).map bc) (rw := true) (t := true) (by simp) (by simp)) (by simp) ?_
      cases hh : hasB k
      · have hm0 : m = [] := (chk_bytes he).resolve_left (by rw [hh]; decide)
        simp [Cv]
        refine v_known.call ?_
        simp
        refine hN.callU [Cv k a b c (BS true m)] (by simp [Cv]) ?_
        simp
        refine (v_Same1 (kk := true) (km := true) (l := encE' k a b c m) (m := E) (by rw [hE']; omega)).call ?_
        simp [hE']
        refine (v_cSame (k := k) (a := a) (b := b) (c := c) (k' := k) (a' := a) (b' := b) (c' := c) (kk := true) (kl := true) (l := []) (m := m) (by simp) bm).callU [Cv k a b c (BS true []), Cv k a b c (BS true m)] (by simp [Cv]) ?_
        simp [hm0]
        refine (v_Same1 (kk := true) (km := kb) (l := y) (m := y) (by omega)).callU [BS true y, BS kb y] (by simp) ?_
        simp [Tryd.results7]
        first | (refine GV.ans hcl ?_; simp []; done) | (refine GV.ans0 ?_; simp []; done)
      · simp [Cv]
        refine v_known.call ?_
        simp
        refine hN.callU [Cv k a b c (BS true m)] (by simp [Cv]) ?_
        simp
        refine (v_Same1 (kk := true) (km := true) (l := encE' k a b c m) (m := E) (by rw [hE']; omega)).call ?_
        simp [hE']
        refine (v_cSame (k := k) (a := a) (b := b) (c := c) (k' := k) (a' := a) (b' := b) (c' := c) (kk := true) (kl := true) (l := m) (m := m) bm bm).callU [Cv k a b c (BS true m), Cv k a b c (BS true m)] (by simp [Cv]) ?_
        simp
        refine (v_Same1 (kk := true) (km := kb) (l := y) (m := y) (by omega)).callU [BS true y, BS kb y] (by simp) ?_
        simp [Tryd.results7]
        first | (refine GV.ans hcl ?_; simp []; done) | (refine GV.ans0 ?_; simp []; done)
end Go.Proofs.YtenbclcfhjdcaaaDoor.VM
end
section
set_option maxHeartbeats 8000000
set_option linter.unusedVariables false
set_option linter.unusedSimpArgs false

/- CommandBytes at the arguments as they read. -/
namespace Go.Proofs.YtenbclcfhjdcaaaDoor
open Go Go.RowKit AM VM B
namespace VM
theorem wf64 {x : Int} (h : (Lit.int .i64 x).wf = true) : -9223372036854775808 ≤ x ∧ x ≤ 9223372036854775807 := by
  simp [Lit.wf, IntKind.min, IntKind.max, IntKind.signed, IntKind.bits] at h
  omega

set_option maxRecDepth 100000 in
theorem rd_cmd {H : Type} {enc : TypeId × Value → H} {w : World} {cs : List Value} (h : Rd enc Tryd.prog w 58 cs) : ∃ k a b c kk, ∃ l : List Int, l.length < 2 ^ 63 ∧ (∀ x ∈ l, 0 ≤ x ∧ x ≤ 255) ∧ (-9223372036854775808 ≤ k ∧ k ≤ 9223372036854775807) ∧ a < 9223372036854775808 ∧ b < 9223372036854775808 ∧ c < 9223372036854775808 ∧ CellsV w [i6 k, i6 a, i6 b, i6 c, BS kk l] cs := by
  obtain ⟨m, x, hm⟩ := h
  obtain ⟨xs, n, _, rfl, hl, hlen, hf⟩ := DataW.trod_struct Tryd.underlying58 hm
  have hl5 : cs.length = 5 := hl.trans (by kernel_rfl)
  have e1 : Tryd.prog.cellsOf 3 = 1 := by kernel_rfl
  have e2 : Tryd.prog.cellsOf 39 = 1 := by kernel_rfl
  match cs, hl5 with
  | [v0, v1, v2, v3, v4], _ =>
    match xs, hlen with
    | [y0, y1, y2, y3, y4], _ =>
      have h0 := hf 0 _ rfl
      have h1 := hf 1 _ rfl
      have h2 := hf 2 _ rfl
      have h3 := hf 3 _ rfl
      have h4 := hf 4 _ rfl
      simp [e1, e2] at h0 h1 h2 h3 h4
      have r0 : Rd enc Tryd.prog w 3 [v0] := ⟨n, _, h0⟩
      have r1 : Rd enc Tryd.prog w 3 [v1] := ⟨n, _, h1⟩
      have r2 : Rd enc Tryd.prog w 3 [v2] := ⟨n, _, h2⟩
      have r3 : Rd enc Tryd.prog w 3 [v3] := ⟨n, _, h3⟩
      have r4 : Rd enc Tryd.prog w 39 [v4] := ⟨n, _, h4⟩
      obtain ⟨k, q0, w0⟩ := r0.int Tryd.underlying3
      obtain ⟨a, q1, w1⟩ := r1.int Tryd.underlying3
      obtain ⟨b, q2, w2⟩ := r2.int Tryd.underlying3
      obtain ⟨c, q3, w3⟩ := r3.int Tryd.underlying3
      obtain ⟨v, kk, l, q4, p1, p2, p3⟩ := rd_bytes r4
      cases q0; cases q1; cases q2; cases q3; cases q4
      exact ⟨k, a, b, c, kk, l, p1, p2, wf64 w0, by have := wf64 w1; omega, by have := wf64 w2; omega, by have := wf64 w3; omega, _, _, rfl, .lit rfl, _, _, rfl, .lit rfl, _, _, rfl, .lit rfl, _, _, rfl, .lit rfl, _, _, rfl, p3, rfl⟩
end VM
theorem commandBytes_row {H : Type} {enc : TypeId × Value → H} (cs0 : Array Value) (A1 : Option Addr) (n1 c1 : Nat) (a2 : Int) (w : World) (hg : Globs w.heap) (h0 : Rd enc Tryd.prog w 58 cs0.toList) (h1 : Rd enc Tryd.prog w 39 [.slice A1 n1 c1]) (h2 : (Lit.int .i64 a2).wf = true) :
    Calls Tryd.prog 7 #[.agg cs0, .slice A1 n1 c1, .int .i64 a2] w fun e w' => e = .returned (.bool true) ∧ Below w.heap.size w w' := by
  obtain ⟨k, a, b, c, kk, l, p1, p2, p3, p4, p5, p6, p7⟩ := rd_cmd h0
  obtain ⟨kb, x, q1, q2, q3⟩ := arg_bytes h1
  have hk2 := wf64 h2
  exact (v_CommandBytes (k := k) (a := a) (b := b) (c := c) (kind := a2) (kk := kk) (kb := kb) (l := l) (x := x) p3 hk2 p4 p5 p6 p1 q1 p2 q2).law mixed prims_ok ⟨_, _, Tryd.func7, rfl, by decide +kernel⟩ ⟨_, _, rfl, CellsV.arg p7, _, _, rfl, q3, _, _, rfl, (CellV.lit rfl).arg, rfl⟩ hg
end Go.Proofs.YtenbclcfhjdcaaaDoor
end
