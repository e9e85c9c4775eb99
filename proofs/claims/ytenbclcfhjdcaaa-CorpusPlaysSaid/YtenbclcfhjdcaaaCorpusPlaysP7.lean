/- What the proof of CorpusPlays rests on, part 7 of 7. -/
import Derived.Test.YtenbclcfhjdcaaaCorpusPlaysP6
section
set_option maxHeartbeats 8000000
set_option linter.unusedVariables false
set_option linter.unusedSimpArgs false
/- corpus: Copy, Find, Get, At; the reference's List and Bytes. -/
namespace Go.Proofs.Ytenbclcfhjdcaaa.VM
open Go Go.Proofs AM B
set_option maxRecDepth 100000
theorem v_Copy {H : Hp} {g : Nat} {k ra : Bool} {l : List Dc} (hg : H[g]? = some (.mem [DS k l] ra)) (hl : okD l) :
    VC Try.prog prims 57 [.ptr g 0] H fun u T => u = .ptr H.length 0 ∧ T = H ++ [.mem [DS true l] true] := by
  refine v_enter hC [] (fun _ _ => kn_none rfl) Try.func57 rfl ok57 (Nat.le_of_ble_eq_true rfl) fun hcl hbl => ?_
  simp [hg]
  refine (v_dClone (kk := k) (l := l) (by have := hl.2.1; omega)).call fun w t => ?_
  simp [Try.results57]
  exact GV.keep (X := [_, _]) (H.length + 1) (.mem [DS true l] true) (.ptr H.length 0) hcl ⟨_, by simp; rfl, by omega, by simp [UpFz, PureR_map]⟩ (by simp) ⟨rfl, rfl⟩
theorem v_Find' {H : Hp} {g : Nat} {k ra : Bool} {l : List Dc} {id : Int} (hg : H[g]? = some (.mem [DS k l] ra)) (hl : okD l) :
    VC Try.prog prims 64 [.ptr g 0, i6 id] H fun u T => u = .tup [i6 (if isD l id = true then dAt l id else 0), i6 (if isD l id = true then 0 else 7)] ∧ T = H := by
  refine v_enter hC [] (fun _ _ => kn_none rfl) Try.func64 rfl ok64 (Nat.le_of_ble_eq_true rfl) fun hcl hbl => ?_
  simp [hg]
  refine (v_at (kk := k) (l := l) (by have := hl.2.1; omega) hl.1).call ?_
  simp
  refine CondV.on (fun h => ?_) (fun h => ?_)
  · have h : isD l id = false := by simpa using h
    simp [Try.results64]
    exact GV.refl ⟨by simp [h], rfl⟩
  · have h : isD l id = true := by simpa using h
    simp [Try.results64]
    exact GV.refl ⟨by simp [h], rfl⟩
theorem v_Get' {H : Hp} {g : Nat} {k ra : Bool} {l : List Dc} {id : Int} (hg : H[g]? = some (.mem [DS k l] ra)) (hl : okD l) :
    VC Try.prog prims 62 [.ptr g 0, i6 id] H fun u T => u = .tup [if isD l id = true then BS true (docAt l (dAt l id)).b else .lit (.slice none 0 0), i6 (if isD l id = true then 0 else 7)] ∧ T = H := by
  have hgl := get_lt hg
  have hgX : ∀ X : Hp, (H ++ X)[g]? = some (.mem [DS k l] ra) := fun X => by rw [List.getElem?_append_left hgl]; exact hg
  refine v_enter hC [] (fun _ _ => kn_none rfl) Try.func62 rfl ok62 (Nat.le_of_ble_eq_true rfl) fun hcl hbl => ?_
  simp
  refine CALLv.at (v_Find' hg hl) fun u T hu => ?_
  obtain ⟨e1, e2⟩ := hu
  subst e1; subst e2
  simp
  by_cases h : isD l id = true
  · have hlt : dAt l id < l.length := by unfold isD at h; exact (of_decide_eq_true h).1
    have hbj := hl.2.2 _ (mem_docAt.2 ⟨_, hlt, rfl⟩)
    simp [h, hgX, hg, getD_ hlt]
    refine CALLv.atF (((Frz.vec (g := T.length) (w := 0) (s := 1) (rows := []) (rw := true) (t := true) (by simp) (by simp)).trans
      (Frz.rows (g := T.length + 1) (w := 0) (s := 1) (rows := [[.own T.length 0], [BS true (docAt l (dAt l id)).b]]) (rows' := [[BS true []], [BS true (docAt l (dAt l id)).b]]) (rw := true) (t := true) (by simp) (fun r hr => by simp at hr; rcases hr with hr | hr <;> subst hr <;> simp [V.isCell, cellB]) (by simp [UpFz, docAt_eq _ _ hlt]))).trans
      (Frz.vec (g := T.length + 1) (w := 0) (s := 1) (rows := [[BS true []], [BS true (docAt l (dAt l id)).b]]) (rw := true) (t := true) (by simp) (by simp)))
      (VC.up (args' := [.fsl true 1 [[BS true []], [BS true (docAt l (dAt l id)).b]]]) (by simp [UpFz, docAt_eq _ _ hlt]) (v_bCat (kk := true) (ls := [(true, []), (true, (docAt l (dAt l id)).b)]) (by simp) (by simp; omega) _)) fun u T' hu => ?_
    obtain ⟨e1, e2⟩ := hu
    subst e1; subst e2
    simp [Try.results62]
    exact GV.ret (X := [_, _]) (.tup [BS true (docAt l (dAt l id)).b, i6 0]) hcl (by simp) ⟨by simp [h], rfl⟩
  · simp [h, Try.results62]
    exact GV.refl ⟨by simp [h], rfl⟩
theorem v_At' {H : Hp} {g i : Nat} {k ra : Bool} {l : List Dc} (hg : H[g]? = some (.mem [DS k l] ra)) (hl : okD l) (hi : i < l.length) :
    VC Try.prog prims 63 [.ptr g 0, i6 i] H fun u T => u = .tup [.agg (dc (docAt l i)), i6 0] ∧ T = H := by
  have hgl := get_lt hg
  have hgX : ∀ X : Hp, (H ++ X)[g]? = some (.mem [DS k l] ra) := fun X => by rw [List.getElem?_append_left hgl]; exact hg
  refine v_enter hC [] (fun _ _ => kn_none rfl) Try.func63 rfl ok63 (Nat.le_of_ble_eq_true rfl) fun hcl hbl => ?_
  have hn0 : ¬ (i : Int) < 0 := by omega
  have hnl : ¬ (l.length : Int) ≤ i := by omega
  simp [hgX, hn0, hnl]
  refine v_draw (ord := [0, 1, 2, 3, 4, 5, 6, 7, 8, 9, 10, 11, 12, 13, 14, 15, 16, 17, 18, 19]) (m := 17) (by decide +kernel) ?_
  simp [hgX, getD_ hi]
  have hbi := hl.2.2 _ (mem_docAt.2 ⟨i, hi, rfl⟩)
  refine (v_bClone (kk := true) (l := (docAt l i).b) (by omega)).call ?_
  simp [Try.results63]
  exact GV.ret (X := [_]) (.tup [.agg (dc (docAt l i)), i6 0]) hcl (by simp) ⟨rfl, rfl⟩
theorem v_rPutO {n : Nat} (hn : n < 18446744073709551616) : AO 87 [.lit (.int .u64 n)] 1 ((venc n).map bc) := by
  intro H
  refine v_enter hC [] (fun _ _ => kn_none rfl) Try.func87 rfl ok87 (Nat.le_of_ble_eq_true rfl) fun hcl hbl => ?_
  simp
  refine v_loopX hC (fun (X : Nat × List Int) e T => ∃ w t, T = H ++ [.vec w (X.2.map bc) 1 true t] ∧ e 0 = .lit (.int .u64 X.1) ∧ e 3 = .own H.length w ∧ X.1 < 18446744073709551616 ∧ venc n = X.2 ++ venc X.1) (fun X => X.1) (n, []) ?_ ?_
  · refine G.nilT0 (s := 1) 3 hcl (Nat.le_refl _) (by omega) (by simp) ?_
    exact ⟨0, true, by simp, by simp, by simp, hn, by simp⟩
  · rintro ⟨m, done⟩ e T ⟨w, t, rfl, h0, h3, hm, hv⟩
    simp only at h0 hm hv
    have hlen : done.length + (venc m).length ≤ 10 := by have := venc_length n; rw [hv, List.length_append] at this; exact this
    have hpos := venc_pos m
    have hw1 : IntKind.u8.wrap ((m : Int) % 128) = ((m % 128 : Nat) : Int) := by
      simp [IntKind.wrap, IntKind.bits, IntKind.signed]; omega
    have hw3 : IntKind.u8.wrap ((m : Int).tmod 128) = ((m % 128 : Nat) : Int) := by
      rw [Int.tmod_eq_emod_of_nonneg (by omega)]; exact hw1
    have hw2 : IntKind.u64.wrap ((m : Int) / 128) = ((m / 128 : Nat) : Int) := by
      simp [IntKind.wrap, IntKind.bits, IntKind.signed]; omega
    simp [h0, h3, hw1, hw2, hw3]
    refine CondV.dec (fun hz => ?_) (fun hnz => ?_)
    · have hlt : m < 128 := by omega
      have hv2 : venc n = done ++ [(m : Int)] := by rw [hv, venc_lt m hlt]
      simp [h0, h3, hw1, hw2, hw3, Try.results87]
      refine ⟨by omega, ?_⟩
      have hmm : (m : Int) % 128 = m := by omega
      have hmap : done.map bc ++ [bc (m : Int)] = (venc n).map bc := by rw [hv2]; simp
      rw [hmm, show [V.lit (Value.int IntKind.u8 (m : Int))] = bc (m : Int) from rfl, hmap]
      exact GV.own hcl (List.getElem?_concat_length ..) (Nat.le_refl _) (fun r hr => by obtain ⟨x, _, rfl⟩ := List.mem_map.1 hr; exact ⟨rfl, rfl⟩) (PureR_map.2 (by simp)) ⟨_, _, rfl, rfl⟩
    · have hge : 128 ≤ m := by omega
      have hvm := venc_ge m hge hm
      have hw4 : IntKind.u8.wrap ((m : Int) % 128 + 128) = ((m % 128 + 128 : Nat) : Int) := by
        simp [IntKind.wrap, IntKind.bits, IntKind.signed]; omega
      simp [h0, h3, hw1, hw2, hw3, hw4]
      refine ⟨by omega, GH.refl ⟨(m / 128, done ++ [((m % 128 + 128 : Nat) : Int)]), ⟨w + 1, t, ?_, ?_, ?_, ?_, ?_⟩, ?_⟩⟩
      · simp
      · simp
      · simp
      · simp only; omega
      · simp only; rw [hv, hvm]; simp
      · simp only; omega
/-- The reference's list of numbers. -/
theorem v_rList {kk : Bool} {ids : List Int} (hl : ids.length ≤ 1000) (h0 : ∀ n ∈ ids, 0 ≤ n) (hr : ∀ n ∈ ids, n < 9223372036854775808) : AO 98 [IS kk ids] 1 ((listB ids).map bc) := by
  intro H
  refine v_enter hC [] (fun _ _ => kn_none rfl) Try.func98 rfl ok98 (Nat.le_of_ble_eq_true rfl) fun hcl hbl => ?_
  have hwl : IntKind.u64.wrap (ids.length : Int) = (ids.length : Int) := by simp [IntKind.wrap, IntKind.bits, IntKind.signed]; omega
  have get : ∀ {k : Nat} (h : k < ids.length), ids[k]? = some ids[k] := fun h => List.getElem?_eq_getElem h
  simp [hwl]
  refine (v_rPutO (n := ids.length) (by omega)).call fun w t => ?_
  simp
  refine v_loopX hC (fun (j : Nat) e T => ∃ w t, T = H ++ [.vec w ((venc ids.length ++ vencs (ids.take j)).map bc) 1 true t] ∧ e 0 = IS kk ids ∧ e 3 = .own H.length w ∧ e 4 = i6 j ∧ j ≤ ids.length) (fun j => ids.length - j) 0 (G.refl ?_) ?_
  · exact ⟨w, t, by simp [vencs], by simp, by simp, by simp, by simp⟩
  · rintro j e T ⟨w, t, rfl, g0, g3, g4, hj⟩
    have hlen : (venc ids.length ++ vencs (ids.take j)).length ≤ 100000 := by
      have := venc_length ids.length
      have := vencs_length (ids.take j)
      rw [List.length_take] at this
      rw [List.length_append]
      omega
    simp [g0, g4]
    refine CondV.dec (fun hlt => ?_) (fun hge => ?_)
    · have hlt : j < ids.length := by omega
      have hn0 := h0 _ (List.getElem_mem hlt)
      have hn1 := hr _ (List.getElem_mem hlt)
      obtain ⟨n, hn⟩ : ∃ n : Nat, ids[j] = n := ⟨ids[j].toNat, by omega⟩
      have hw : IntKind.u64.wrap (n : Int) = (n : Int) := by simp [IntKind.wrap, IntKind.bits, IntKind.signed]; omega
      have hv := venc_length n
      simp [g0, g3, g4, get hlt, hn, hw]
      refine (v_rPut (n := n) (by omega)).call ?_
      simp [g0, g3, g4, w64 (n := (j : Int) + 1) (by omega)]
      rw [List.length_append] at hlen
      refine ⟨by omega, GH.refl ⟨j + 1, ⟨w + 1, t, ?_, ?_, ?_, ?_, hlt⟩, by omega⟩⟩
      · rw [List.take_succ_eq_append_getElem hlt, vencs_append]; simp [vencs, hn]
      · simp [g0]
      · simp
      · simp
    · have ht : ids.take j = ids := List.take_of_length_le (by omega)
      rw [ht]
      simp [g3, Try.results98]
      rw [show List.map bc (venc ids.length) ++ List.map bc (vencs ids) = (listB ids).map bc by unfold listB; simp]
      exact GV.own hcl (List.getElem?_concat_length ..) (Nat.le_refl _) (fun r hr => by obtain ⟨x, _, rfl⟩ := List.mem_map.1 hr; exact ⟨rfl, rfl⟩) (PureR_map.2 (by simp)) ⟨_, _, rfl, rfl⟩
end Go.Proofs.Ytenbclcfhjdcaaa.VM
end
section
set_option maxHeartbeats 8000000
set_option linter.unusedVariables false
set_option linter.unusedSimpArgs false
/- The reference's Bytes; Tells. -/
namespace Go.Proofs.Ytenbclcfhjdcaaa.VM
open Go Go.Proofs AM B
set_option maxRecDepth 100000
/-- Two slots that are nil become rows of one's own. -/
theorem G.nilT2 {H : Hp} {Q : Ev → Hp → Prop} {m s s' : Nat} {e : Ev} (t t' : Tmp) (hcl : Cl H) (hm : m ≤ H.length) (hs : 0 < s ∧ s ≤ 1048576) (hs' : 0 < s' ∧ s' ≤ 1048576) (ht : e t = .lit (.slice none 0 0)) (ht' : e t' = .lit (.slice none 0 0))
    (h : Q (vupd (vupd (VM.clip H.length e) (some t) (.own H.length 0)) (some t') (.own (H.length + 1) 0)) (H ++ [.vec 0 [] s true true, .vec 0 [] s' true true])) : G m Q e H := by
  have := G.mk (Q := Q) (m := m) (e := e) (H0 := H) (Z := []) (Z' := []) (X := []) [s, s'] (vupd (vupd (VM.clip H.length e) (some t) (.own H.length 0)) (some t') (.own (H.length + 1) 0)) hcl (by simpa using hm) (by simpa using ⟨hs, hs'⟩) (by simp) (fun j => by
    show Up _ _ _ _ (if j = t' then V.own (H.length + 1) 0 else if j = t then V.own H.length 0 else VM.clip _ e j) (e j)
    by_cases c : j = t'
    · subst c
      rw [if_pos rfl, ht']
      simp [Up]
    · rw [if_neg c]
      by_cases c2 : j = t
      · subst c2
        rw [if_pos rfl, ht]
        simp [Up]
      · rw [if_neg c2]
        exact clip_up j) (by simpa using h)
  simpa using this
theorem txt_take (l : List Dc) (j : Nat) (h : j < l.length) : txtD (l.take (j + 1)) = txtD (l.take j) ++ [(docAt l j).b] := by
  unfold txtD
  rw [List.take_succ_eq_append_getElem h, docAt_eq l j h, List.map_append]; rfl
theorem v_rBytes {kk : Bool} {l : List Dc} (hl : gooD l) : A 61 [DS kk l] (BS true (bytesD l)) := by
  intro H
  refine v_enter hC [] (fun _ _ => kn_none rfl) Try.func61 rfl ok61 (Nat.le_of_ble_eq_true rfl) fun hcl hbl => ?_
  have hlen := hl.1.2.1
  simp
  refine v_loopX hC (fun (j : Nat) e T => ∃ w w' t, T = H ++ [.vec w ((idsD (l.take j)).map ic) 1 true t, .vec w' ((textB (txtD (l.take j))).map bc) 1 true true] ∧ e 0 = DS kk l ∧ e 3 = .own H.length w ∧ e 4 = .own (H.length + 1) w' ∧ e 5 = i6 j ∧ j ≤ l.length) (fun j => l.length - j) 0 ?_ ?_
  · refine G.nilT2 (s := 1) (s' := 1) 3 4 hcl (Nat.le_refl _) (by omega) (by omega) (by simp) (by simp) ?_
    exact ⟨0, 0, true, by simp [idsD, txtD, textB], by simp, by simp, by simp, by simp, by simp⟩
  · rintro j e T ⟨w, w', t, rfl, h0, h3, h4, h5, hj⟩
    have hil : (idsD (l.take j)).length ≤ 64 := by simp [idsD]; omega
    have htl : (txtD (l.take j)).length ≤ 64 := by simp [txtD]; omega
    have htb : ∀ b ∈ txtD (l.take j), b.length ≤ 1024 := fun b hb => by obtain ⟨d, hd, rfl⟩ := List.mem_map.1 hb; exact hl.1.2.2 d (List.mem_of_mem_take hd)
    have h2 : (textB (txtD (l.take j))).length ≤ 100000 := by
      have h := textB_len htb
      calc _ ≤ (1024 + 10) * (txtD (l.take j)).length := h
        _ ≤ (1024 + 10) * 64 := Nat.mul_le_mul_left _ htl
        _ ≤ _ := by omega
    simp [h0, h5]
    refine CondV.dec (fun hlt => ?_) (fun hge => ?_)
    · have hlt : j < l.length := by omega
      have hbj := hl.1.2.2 _ (mem_docAt.2 ⟨j, hlt, rfl⟩)
      have hw : IntKind.u64.wrap ((docAt l j).b.length : Int) = ((docAt l j).b.length : Int) := by simp [IntKind.wrap, IntKind.bits, IntKind.signed]; omega
      simp [h0, h3, h5, getD_ hlt]
      refine ⟨by omega, ?_⟩
      refine v_draw (ord := [0, 1, 2, 3, 4, 5, 6, 7, 8, 9, 10, 11, 12, 13, 14, 15, 16]) (m := 15) (by decide +kernel) ?_
      simp [h0, h3, h4, h5, getD_ hlt, hw]
      have hv := venc_length (docAt l j).b.length
      refine (v_rPut (n := (docAt l j).b.length) (by omega)).call ?_
      simp [h0, h4, h5, getD_ hlt, w64 (n := (j : Int) + 1) (by omega)]
      refine ⟨by omega, by omega, GH.refl ⟨j + 1, ⟨w + 1, w' + 2, t, ?_, ?_, ?_, ?_, ?_, hlt⟩, by omega⟩⟩
      · rw [txt_take l j hlt]
        simp [idsD, textB, List.take_add_one, getD_ hlt]
      · simp [h0]
      · simp [h3]
      · simp
      · simp
    · have ht : l.take j = l := List.take_of_length_le (by omega)
      rw [ht]
      rw [ht] at h2 hil
      simp [h3, h4]
      have hid : ∀ n ∈ idsD l, 1 ≤ n ∧ n ≤ 65535 := fun n hn => by obtain ⟨d, hd, rfl⟩ := List.mem_map.1 hn; exact (hl.2 d hd).1
      refine CALLv.atF (Frz.vec (g := H.length) (w := w) (s := 1) (rows := (idsD l).map ic) (rw := true) (t := t) (by simp) (by simp [PureR_map])) (VC.up (args' := [IS true (idsD l)]) (by simp [UpFz, PureR_map]) (v_rList (kk := true) (ids := idsD l) (by omega) (fun n hn => by have := hid n hn; omega) (fun n hn => by have := hid n hn; omega) _)) fun u T hu => ?_
      obtain ⟨w2, t2, e1, e2⟩ := hu
      subst e1; subst e2
      have h1 : (listB (idsD l)).length ≤ 100000 := by
        have := venc_length (idsD l).length
        have := vencs_length (idsD l)
        unfold listB; rw [List.length_append]; omega
      simp [h4, Try.results61]
      refine ⟨by omega, ?_⟩
      rw [show List.map bc (listB (idsD l)) ++ List.map bc (textB (txtD l)) = (bytesD l).map bc by unfold bytesD; simp]
      first | (refine GV.ans hcl ?_; simp []; done) | (refine GV.ans0 ?_; simp []; done)
end Go.Proofs.Ytenbclcfhjdcaaa.VM
end
section
set_option maxHeartbeats 8000000
set_option linter.unusedVariables false
set_option linter.unusedSimpArgs false
/- Tells. -/
namespace Go.Proofs.Ytenbclcfhjdcaaa.VM
open Go Go.Proofs AM B
set_option maxRecDepth 100000
theorem getId {l : List Dc} {k : Nat} (h : k < l.length) : (idsD l)[k]? = some (docAt l k).id := by unfold idsD; rw [List.getElem?_map, getD_ h]; rfl
theorem getTx {l : List Dc} {k : Nat} (h : k < l.length) : (txtD l)[k]? = some (docAt l k).b := by unfold txtD; rw [List.getElem?_map, getD_ h]; rfl
theorem idsD_len {l : List Dc} : (idsD l).length = l.length := by simp [idsD]
theorem txtD_len {l : List Dc} : (txtD l).length = l.length := by simp [txtD]
set_option maxHeartbeats 8000000 in
theorem v_Tells {H : Hp} {g : Nat} {k kk ra : Bool} {l : List Dc} {id : Int} (hg : H[g]? = some (.mem [DS k l] ra)) (hl : gooD l) :
    VC Try.prog prims 60 [.ptr g 0, DS kk l, i6 id] H fun u T => u = bo true ∧ T = H := by
  have hgl := get_lt hg
  have hgX : ∀ X : Hp, (H ++ X)[g]? = some (.mem [DS k l] ra) := fun X => by rw [List.getElem?_append_left hgl]; exact hg
  have hlen := hl.1.2.1
  have hbyl : (bytesD l).length < 2 ^ 62 := by
    have htl : (txtD l).length ≤ 64 := by rw [txtD_len]; exact hlen
    have htb : ∀ b ∈ txtD l, b.length ≤ 1024 := fun b hb => by obtain ⟨d, hd, rfl⟩ := List.mem_map.1 hb; exact hl.1.2.2 d hd
    have h2 : (textB (txtD l)).length ≤ 100000 := by
      have h := textB_len htb
      calc _ ≤ (1024 + 10) * (txtD l).length := h
        _ ≤ (1024 + 10) * 64 := Nat.mul_le_mul_left _ htl
        _ ≤ _ := by omega
    have := venc_length (idsD l).length
    have := vencs_length (idsD l)
    have : (idsD l).length ≤ 64 := by rw [idsD_len]; exact hlen
    unfold bytesD listB; rw [List.length_append, List.length_append]; omega
  refine v_enter hC [] (fun _ _ => kn_none rfl) Try.func60 rfl ok60 (Nat.le_of_ble_eq_true rfl) fun hcl hbl => ?_
  simp
  refine CALLv.at (v_Count hg) fun u T hu => ?_
  obtain ⟨e1, e2⟩ := hu
  subst e1; subst e2
  simp
  refine CALLv.at (v_Total hg hl.1) fun u T' hu => ?_
  obtain ⟨e1, e2⟩ := hu
  subst e1; subst e2
  simp
  refine (v_rTotal (kk := kk) hl.1).call ?_
  simp
  refine CALLv.at (v_Bytes hg hl) fun u T hu => ?_
  obtain ⟨e1, e2⟩ := hu
  subst e1; subst e2
  simp
  refine (v_rBytes (kk := kk) hl).call ?_
  simp
  refine (v_Same1 (kk := true) (km := true) (l := bytesD l) (m := bytesD l) hbyl).call ?_
  simp
  refine CALLv.at (v_Ids hg hlen) fun u T' hu => ?_
  obtain ⟨e1, e2⟩ := hu
  subst e1; subst e2
  simp [idsD_len]
  refine CALLv.at (v_Docs hg hl.1) fun u T hu => ?_
  obtain ⟨e1, e2⟩ := hu
  subst e1; subst e2
  simp [txtD_len]
  refine CALLv.at (v_Ids hg hlen) fun u T' hu => ?_
  obtain ⟨e1, e2⟩ := hu
  subst e1; subst e2
  simp
  refine CALLv.at (v_Docs hg hl.1) fun u T hu => ?_
  obtain ⟨e1, e2⟩ := hu
  subst e1; subst e2
  simp
  refine v_loopX hC (fun (j : Nat) e T' => T' = T ∧ e 0 = .ptr g 0 ∧ e 1 = DS kk l ∧ e 2 = i6 id ∧ e 7 = IS true (idsD l) ∧ e 8 = .fsl true 1 ((txtD l).map fun b => [BS true b]) ∧ e 9 = i6 j ∧ j ≤ l.length) (fun j => l.length - j) 0 (G.refl ?_) ?_
  · simp
  · rintro j e T' ⟨rfl, h0, h1, h2, h7, h8, h9, hj⟩
    simp [h1, h9]
    refine CondV.dec (fun hlt => ?_) (fun hge => ?_)
    · have hlt : j < l.length := by omega
      have hbj := hl.1.2.2 _ (mem_docAt.2 ⟨j, hlt, rfl⟩)
      simp [h0, h9]
      refine CALLv.at (v_At' hg hl.1 hlt) fun u T hu => ?_
      obtain ⟨e1, e2⟩ := hu
      subst e1; subst e2
      simp
      refine v_draw (ord := [0, 1, 2, 3, 4, 5, 6, 7, 8, 9, 10, 11, 12, 13, 14, 15, 16, 17, 18, 19, 20, 21, 22, 23, 24, 25, 26, 27, 28, 29, 30, 31, 32, 33, 34, 35, 36, 37, 38, 39, 40, 41]) (m := 39) (by decide +kernel) ?_
      simp [h0, h1, h7, h8, h9, getD_ hlt, getId hlt, getTx hlt]
      refine (v_Same1 (kk := true) (km := true) (l := (docAt l j).b) (m := (docAt l j).b) (by omega)).call ?_
      simp [h0, h1, h7, h8, h9, getD_ hlt, getId hlt, getTx hlt]
      refine (v_Same1 (kk := true) (km := true) (l := (docAt l j).b) (m := (docAt l j).b) (by omega)).call ?_
      simp [h9, w64 (n := (j : Int) + 1) (by omega)]
      refine GH.of (G.clip (Z := []) (X := [_]) (Z' := []) hcl (by simp) (by simp [UpOs]) ⟨j + 1, ⟨?_, ?_, ?_, ?_, ?_, ?_, ?_, hlt⟩, by omega⟩)
      · simp
      · simp [h0, hgl]
      · simp [h1]
      · simp [h2]
      · simp [h7]
      · simp [h8]
      · simp
    · simp [h0, h2]
      refine CALLv.at (v_Get' hg hl.1) fun u T hu => ?_
      obtain ⟨e1, e2⟩ := hu
      subst e1; subst e2
      simp [h0, h2]
      refine CALLv.at (v_Find' hg hl.1) fun u T' hu => ?_
      obtain ⟨e1, e2⟩ := hu
      subst e1; subst e2
      simp [h1, h2]
      refine (v_rFind (kk := kk) (l := l) (id := id) (by omega) hl.1.1).call ?_
      simp
      by_cases hd : isD l id = true
      · have hk : rAt l id = dAt l id := by unfold rAt; rw [if_pos hd]
        have hlt : dAt l id < l.length := by unfold isD at hd; exact (of_decide_eq_true hd).1
        have hbj := hl.1.2.2 _ (mem_docAt.2 ⟨_, hlt, rfl⟩)
        have hn0 : ¬ (dAt l id : Int) < 0 := by omega
        simp [hk, hd, hn0, h1, getD_ hlt]
        refine (v_Same1 (kk := true) (km := true) (l := (docAt l (dAt l id)).b) (m := (docAt l (dAt l id)).b) (by omega)).call ?_
        simp [Try.results60]
        exact GV.refl ⟨rfl, rfl⟩
      · have hk : rAt l id = -1 := by unfold rAt; rw [if_neg hd]
        simp [hk, hd, Try.results60]
        exact GV.refl ⟨rfl, rfl⟩
end Go.Proofs.Ytenbclcfhjdcaaa.VM
end
section
set_option maxHeartbeats 8000000
set_option linter.unusedVariables false
set_option linter.unusedSimpArgs false
/- Law CorpusPlays. -/
namespace Go.Proofs.Ytenbclcfhjdcaaa.VM
open Go Go.Proofs AM B
set_option maxRecDepth 100000
/-- Documents dropped, one after the other, and what is wrong. -/
def dropR : List Dc → List Dc → List Dc × Int
  | l, [] => (l, 0)
  | l, d :: ds => if isD l d.id = true then dropR (delD l d.id) ds else (l, 7)
theorem dropL_R : ∀ {ds l : List Dc}, dropL l (idsD ds) = if (dropR l ds).2 = 0 then some (dropR l ds).1 else none
  | [], l => by simp [dropL, dropR, idsD]
  | d :: ds, l => by
    unfold idsD
    rw [List.map_cons]
    unfold dropL dropR
    split
    · exact dropL_R (ds := ds)
    · simp
theorem dropR_7 : ∀ {ds l : List Dc}, (dropR l ds).2 = 0 ∨ (dropR l ds).2 = 7
  | [], l => .inl rfl
  | d :: ds, l => by
    unfold dropR
    split
    · exact dropR_7 (ds := ds)
    · exact .inr rfl
/-- One turn. -/
def runL (op : Bool) (l ds : List Dc) : List Dc × Int := if op = true then addL l ds else dropR l ds
theorem runL_nil {op : Bool} {l : List Dc} : runL op l [] = (l, 0) := by cases op <;> rfl
def byD (d : Dc) : Prop := ∀ x ∈ d.b, 0 ≤ x ∧ x ≤ 255
theorem putD_good {l : List Dc} {d : Dc} (h : gooD l) (hz : putE l d = 0) (hd : byD d) : gooD (putD l d) := by
  obtain ⟨h1, h2, h3, h4⟩ := putE_zero hz
  refine ⟨putD_ok h.1 hz, fun x hx => ?_⟩
  rcases mem_putD.1 hx with rfl | hx
  · exact ⟨⟨h1.1, h1.2.1⟩, hd⟩
  · exact h.2 x hx
theorem delD_good {l : List Dc} {id : Int} (h : gooD l) (hi : isD l id = true) : gooD (delD l id) := ⟨delD_ok h.1 hi, fun x hx => h.2 x (delD_mem hx)⟩
/-- Turns. -/
@[simp] def TS (kk : Bool) (ts : List (Int × Bool × List (Bool × Dc))) : V := .fsl kk 2 (ts.map fun p => [i6 p.1, DSf p.2.1 p.2.2])
/-- A slot that is nil holds no rows. -/
theorem G.nilS {H : Hp} {Q : Ev → Hp → Prop} {m s : Nat} {e : Ev} {Z : Hp} (t : Tmp) (hcl : Cl H) (hm : m ≤ H.length + Z.length) (hs : s < 4294967296) (hZ : UpOs (H.length + Z.length) [] [] (H ++ Z) Z Z) (ht : e t = .lit (.slice none 0 0))
    (h : Q (vupd (VM.clip (H.length + Z.length) e) (some t) (.fsl true s [])) (H ++ Z)) : G m Q e (H ++ Z) := by
  have := G.mk (Q := Q) (m := m) (e := e) (H0 := H) (Z := Z) (Z' := Z) (X := []) [] (vupd (VM.clip (H.length + Z.length) e) (some t) (.fsl true s [])) hcl hm (by simp) (by simpa using hZ) (fun j => by
    show Up _ _ _ _ (if j = t then V.fsl true s [] else VM.clip _ e j) (e j)
    by_cases hj : j = t
    · subst hj; rw [if_pos rfl, ht]; exact .inr (.inl ⟨rfl, rfl, hs⟩)
    · rw [if_neg hj]; exact clip_up j) (by simpa using h)
  simpa using this
theorem bytesD_max {l : List Dc} (hl : gooD l) : (bytesD l).length < 2 ^ 62 := by
  have hlen := hl.1.2.1
  have htl : (txtD l).length ≤ 64 := by rw [txtD_len]; exact hlen
  have htb : ∀ b ∈ txtD l, b.length ≤ 1024 := fun b hb => by obtain ⟨d, hd, rfl⟩ := List.mem_map.1 hb; exact hl.1.2.2 d hd
  have h2 : (textB (txtD l)).length ≤ 100000 := by
    have h := textB_len htb
    calc _ ≤ (1024 + 10) * (txtD l).length := h
      _ ≤ (1024 + 10) * 64 := Nat.mul_le_mul_left _ htl
      _ ≤ _ := by omega
  have := venc_length (idsD l).length
  have := vencs_length (idsD l)
  have : (idsD l).length ≤ 64 := by rw [idsD_len]; exact hlen
  unfold bytesD listB; rw [List.length_append, List.length_append]; omega
set_option maxHeartbeats 8000000 in
theorem v_CorpusPlays {kk : Bool} {ts : List (Int × Bool × List (Bool × Dc))} {id : Int} (hn : ts.length < 2 ^ 63) (hb : ∀ p ∈ ts, p.2.2.length < 2 ^ 63 ∧ ∀ q ∈ p.2.2, q.2.b.length < 2 ^ 63 ∧ byD q.2) :
    A 12 [TS kk ts, i6 id] (bo true) := by
  intro H
  refine v_enter hC [] (fun _ _ => kn_none rfl) Try.func12 rfl ok12 (Nat.le_of_ble_eq_true rfl) fun hcl hbl => ?_
  simp
  refine CALLv.at (VC.up (args' := [DS true []]) (by simp) (v_New0.2 _)) fun u T hu => ?_
  obtain ⟨e1, e2⟩ := hu
  subst e1; subst e2
  simp
  have getP : ∀ {j : Nat} (h : j < ts.length), ts[j]? = some ts[j] := fun h => List.getElem?_eq_getElem h
  refine v_loopX hC (fun (X : Nat × List Dc) e T => ∃ k1 k2, T = H ++ [.mem [DS k1 X.2] true] ∧ e 0 = TS kk ts ∧ e 1 = i6 id ∧ e 5 = .ptr H.length 0 ∧ e 7 = DS k2 X.2 ∧ e 8 = i6 X.1 ∧ X.1 ≤ 12 ∧ gooD X.2) (fun X => 12 - X.1) (0, []) ?_ ?_
  · refine G.nilS (H := H) (Z := [.mem [DS false []] true]) (s := 2) 7 hcl (by simp) (by omega) (by simp) (by simp) ?_
    exact ⟨false, true, by simp, by simp, by simp, by simp, by simp, by simp, by simp, ⟨fun i h1 h2 => by simp at h2, by simp, by simp⟩, by simp⟩
  · rintro ⟨i, la⟩ e T ⟨k1, k2, rfl, h0, h1, h5, h7, h8, hi, hg⟩
    simp only at h7 h8 hi hg
    simp [h0, h8]
    by_cases hc : i < ts.length ∧ i < 12
    · obtain ⟨hlt, hlt12⟩ := hc
      have hlt9 : (i : Int) < 12 := by omega
      obtain ⟨hb1, hb2⟩ := hb _ (List.getElem_mem hlt)
      obtain ⟨p, hp⟩ : ∃ p, ts[i] = p := ⟨_, rfl⟩
      have hgp : ts[i]? = some p := by rw [getP hlt, hp]
      rw [hp] at hb1 hb2
      simp [h0, h8, hlt, hlt9, hp]
      obtain ⟨op, hop⟩ : ∃ op : Bool, decide (bits BinOp.and IntKind.i64 p.1 1 = 0) = op := ⟨_, rfl⟩
      obtain ⟨D, hD⟩ : ∃ D, D = (p.2.2.take 3).map fun q => cutD q.2 := ⟨_, rfl⟩
      have hDl : D.length ≤ 3 := by rw [hD, List.length_map, List.length_take]; omega
      have hDb : ∀ d ∈ D, d.b.length ≤ 1100 ∧ byD d := fun d hd => by
        rw [hD] at hd
        obtain ⟨q, hq, rfl⟩ := List.mem_map.1 hd
        have := (hb2 q (List.mem_of_mem_take hq)).2
        exact ⟨by simp [cutD]; omega, fun x hx => this x (List.mem_of_mem_take hx)⟩
      refine (v_dTo (kk := p.2.1) (l := p.2.2) hb1 (fun q hq => (hb2 q hq).1)).call ?_
      rw [← hD]
      simp
      refine (v_dOf (kk := true) (l := D) (by omega)).call ?_
      simp [h5]
      refine CALLv.at (v_Copy (g := H.length) (k := k1) (ra := true) (l := la) (by simp) hg.1) fun u T hu => ?_
      obtain ⟨e1, e2⟩ := hu
      subst e1; subst e2
      simp [h7]
      refine v_loopX hC (fun (X : Nat × List Dc) e T => ∃ (k3 : Bool) (bad : Int), T = H ++ [.mem [DS k1 la] true, .mem [DS true la] true] ∧ e 0 = TS kk ts ∧ e 1 = i6 id ∧ e 5 = .ptr H.length 0 ∧ e 7 = DS k2 la ∧ e 8 = i6 i ∧ e 9 = DS true D ∧ e 10 = DS true D ∧ e 11 = .ptr (H.length + 1) 0 ∧ e 12 = DS k2 la ∧ e 13 = i6 bad ∧ e 14 = DS k3 X.2 ∧ e 15 = .lit (.slice none 0 0) ∧ e 16 = i6 X.1 ∧ X.1 ≤ D.length ∧ gooD X.2 ∧ if bad = 0 then runL op la D = runL op X.2 (D.drop X.1) else runL op la D = (X.2, bad)) (fun X => D.length - X.1) (0, la) (G.refl ?_) ?_
      · exact ⟨k2, 0, by simp, by simp [h0], by simp [h1], by simp [h5], by simp [h7], by simp [h8], by simp, by simp, by simp, by simp [h7], by simp, by simp [h7], by simp, by simp, by simp, hg, by simp⟩
      rintro ⟨j, nl⟩ e T ⟨k3, bad, rfl, h0, h1, h5, h7, h8, h9, h10, h11, h12, h13, h14, h15, h16, hj, hng, hrun⟩
      simp only at h14 h16 hj hng hrun
      simp [h10, h16]
      by_cases hc2 : j < D.length ∧ bad = 0
      · obtain ⟨hjl, hbad⟩ := hc2
        rw [if_pos hbad, List.drop_eq_getElem_cons hjl, ← docAt_eq D j hjl] at hrun
        have hdj := hDb _ (mem_docAt.2 ⟨j, hjl, rfl⟩)
        simp [h13, hjl, hbad, h0, h8, hlt, getP hlt, hp]
        refine CondV.dec (fun ho => ?_) (fun ho => ?_)
        · have hop1 : op = true := by rw [← hop]; exact decide_eq_true ho
          simp [h10, h14, h16, getD_ hjl]
          refine (v_rAdd (kk := k3) (l := nl) (d := docAt D j) hng.1 (by omega)).call ?_
          by_cases hz : putE nl (docAt D j) = 0
          · simp [hz, h16, w64 (n := (j : Int) + 1) (by omega)]
            refine GH.refl ⟨(j + 1, putD nl (docAt D j)), ⟨true, 0, rfl, by simp [h0], by simp [h1], by simp [h5], by simp [h7], by simp [h8], by simp [h9], by simp [h10], by simp [h11], by simp [h12], by simp, by simp, by simp [h15], by simp, hjl, putD_good hng hz hdj.2, ?_⟩, by simp only; omega⟩
            rw [if_pos rfl, hrun, hop1]
            show addL _ (_ :: _) = addL _ _
            rw [addL, if_pos hz]
          · simp [hz, h16, w64 (n := (j : Int) + 1) (by omega)]
            refine GH.refl ⟨(j + 1, nl), ⟨k3, putE nl (docAt D j), rfl, by simp [h0], by simp [h1], by simp [h5], by simp [h7], by simp [h8], by simp [h9], by simp [h10], by simp [h11], by simp [h12], by simp, by simp, by simp [h15], by simp, hjl, hng, ?_⟩, by simp only; omega⟩
            rw [if_neg hz, hrun, hop1]
            show addL _ (_ :: _) = _
            rw [addL, if_neg hz]
        · have hop1 : op = false := by rw [← hop]; exact decide_eq_false ho
          simp [h10, h14, h16, getD_ hjl]
          refine (v_rDrop (kk := k3) (l := nl) (id := (docAt D j).id) hng.1).call ?_
          by_cases hz : isD nl (docAt D j).id = true
          · simp [hz, h16, w64 (n := (j : Int) + 1) (by omega)]
            refine GH.refl ⟨(j + 1, delD nl (docAt D j).id), ⟨true, 0, rfl, by simp [h0], by simp [h1], by simp [h5], by simp [h7], by simp [h8], by simp [h9], by simp [h10], by simp [h11], by simp [h12], by simp, by simp, by simp [h15], by simp, hjl, delD_good hng hz, ?_⟩, by simp only; omega⟩
            rw [if_pos rfl, hrun, hop1]
            show dropR _ (_ :: _) = dropR _ _
            rw [dropR, if_pos hz]
          · simp [hz, h16, w64 (n := (j : Int) + 1) (by omega)]
            refine GH.refl ⟨(j + 1, nl), ⟨k3, 7, rfl, by simp [h0], by simp [h1], by simp [h5], by simp [h7], by simp [h8], by simp [h9], by simp [h10], by simp [h11], by simp [h12], by simp, by simp, by simp [h15], by simp, hjl, hng, ?_⟩, by simp only; omega⟩
            rw [if_neg (by omega), hrun, hop1]
            show dropR _ (_ :: _) = _
            rw [dropR, if_neg hz]
      · refine GuardR.dec (fun hjl => ?_) (fun hjl => ?_)
        · have hbad : ¬ bad = 0 := fun h => hc2 ⟨hjl, h⟩
          simp [h13, hjl, hbad]
          have hfin : runL op la D = (nl, bad) := by
            by_cases hb0 : bad = 0
            · rw [if_pos hb0] at hrun
              have : j = D.length := by omega
              rw [hrun, this, List.drop_length, runL_nil, hb0]
            · rw [if_neg hb0] at hrun; exact hrun
          refine v_loopX hC (fun (q : Nat) e T => ∃ w t, T = H ++ [.mem [DS k1 la] true, .mem [DS true la] true, .vec w ((idsD (D.take q)).map ic) 1 true t] ∧ e 0 = TS kk ts ∧ e 1 = i6 id ∧ e 5 = .ptr H.length 0 ∧ e 7 = DS k2 la ∧ e 8 = i6 i ∧ e 9 = DS true D ∧ e 10 = DS true D ∧ e 11 = .ptr (H.length + 1) 0 ∧ e 12 = DS k2 la ∧ e 13 = i6 bad ∧ e 14 = DS k3 nl ∧ e 15 = .own (H.length + 2) w ∧ e 17 = i6 q ∧ q ≤ D.length) (fun q => D.length - q) 0 ?_ ?_
          · refine G.nilT (H := H) (Z := [.mem [DS k1 la] true, .mem [DS true la] true]) (s := 1) 15 hcl (by simp) (by omega) (by simp [PureR_map]) (by simp [h15]) ?_
            exact ⟨0, true, by simp [idsD], by simp [h0], by simp [h1], by simp [h5], by simp [h7], by simp [h8], by simp [h9], by simp [h10], by simp [h11], by simp [h12], by simp [h13], by simp [h14], by simp, by simp, by simp⟩
          rintro q e T ⟨w, t, rfl, h0, h1, h5, h7, h8, h9, h10, h11, h12, h13, h14, h15, h17, hq⟩
          simp [h10, h17]
          refine CondV.dec (fun hql => ?_) (fun hqg => ?_)
          · have hql : q < D.length := by omega
            simp [h10, h15, h17, getD_ hql, w64 (n := (q : Int) + 1) (by omega)]
            refine ⟨by rw [idsD_len, List.length_take]; omega, GH.refl ⟨q + 1, ⟨w + 1, t, ?_, by simp [h0], by simp [h1], by simp [h5], by simp [h7], by simp [h8], by simp [h9], by simp [h10], by simp [h11], by simp [h12], by simp [h13], by simp [h14], by simp, by simp, hql⟩, by omega⟩⟩
            simp [idsD, List.take_add_one, getD_ hql]
          · have ht : D.take q = D := List.take_of_length_le (by omega)
            rw [ht]
            simp [h0, h8, hlt, getP hlt, hp]
            refine CondV.dec (fun ho => ?_) (fun ho => ?_)
            · have hop1 : op = true := by rw [← hop]; exact decide_eq_true ho
              have hadd : addL la D = (nl, bad) := by rw [← hfin, hop1]; rfl
              simp [h5, h9]
              refine CALLv.at (v_Add (g := H.length) (k := k1) (kk := true) (l := la) (ds := D) (by simp) hg.1 (by omega) (fun x hx => by have := (hDb x hx).1; omega)) fun u T hu => ?_
              obtain ⟨e1, k4, e2⟩ := hu
              rw [hadd] at e1 e2
              subst e1
              simp [h13]
              by_cases hb0 : bad = 0
              · rw [if_pos hb0] at e2
                subst e2
                simp [hb0, h13, h14]
                simp [h1, h5]
                refine CALLv.at (v_Tells (g := H.length) (k := k4) (ra := true) (kk := k3) (l := nl) (id := id) (by simp) hng) fun u T hu => ?_
                obtain ⟨e1, e2⟩ := hu
                subst e1; subst e2
                simp [h1, h11, h12]
                refine CALLv.at (v_Tells (g := H.length + 1) (k := true) (ra := true) (kk := k2) (l := la) (id := id) (by simp) hg) fun u T hu => ?_
                obtain ⟨e1, e2⟩ := hu
                subst e1; subst e2
                simp [h5, h11]
                refine CALLv.at (v_cSame (k := k4) (ra := true) (k' := true) (ra' := true) (g := H.length) (h := H.length + 1) (l := nl) (l' := la) (by simp) hng (by simp) hg) fun u T hu => ?_
                obtain ⟨e1, e2⟩ := hu
                subst e1; subst e2
                simp [h7]
                refine (v_rBytes (kk := k3) hng).call ?_
                simp [h12]
                refine (v_rBytes (kk := k2) hg).call ?_
                simp
                refine (v_Same1 (kk := true) (km := true) (l := bytesD nl) (m := bytesD la) (bytesD_max hng)).call ?_
                simp [h8, w64 (n := (i : Int) + 1) (by omega)]
                refine GH.of (G.clip (Z := [_]) (X := [_, _]) (Z' := [.mem [DS k4 nl] true]) hcl (by simp) (by simp) ⟨(i + 1, nl), ⟨k4, k3, rfl, by simp [h0], by simp [h1], by simp [h5], by simp [h7], by simp, hlt12, hng⟩, by simp only; omega⟩)
              · rw [if_neg hb0] at e2
                subst e2
                simp [hb0, h7, h13]
                simp [h1, h5]
                refine CALLv.at (v_Tells (g := H.length) (k := k1) (ra := true) (kk := k2) (l := la) (id := id) (by simp) hg) fun u T hu => ?_
                obtain ⟨e1, e2⟩ := hu
                subst e1; subst e2
                simp [h1, h11, h12]
                refine CALLv.at (v_Tells (g := H.length + 1) (k := true) (ra := true) (kk := k2) (l := la) (id := id) (by simp) hg) fun u T hu => ?_
                obtain ⟨e1, e2⟩ := hu
                subst e1; subst e2
                simp [h5, h11]
                refine CALLv.at (v_cSame (k := k1) (ra := true) (k' := true) (ra' := true) (g := H.length) (h := H.length + 1) (l := la) (l' := la) (by simp) hg (by simp) hg) fun u T hu => ?_
                obtain ⟨e1, e2⟩ := hu
                subst e1; subst e2
                simp [h7]
                refine (v_rBytes (kk := k2) hg).call ?_
                simp [h12]
                refine (v_rBytes (kk := k2) hg).call ?_
                simp
                refine (v_Same1 (kk := true) (km := true) (l := bytesD la) (m := bytesD la) (bytesD_max hg)).call ?_
                simp [h8, w64 (n := (i : Int) + 1) (by omega)]
                refine GH.of (G.clip (Z := [_]) (X := [_, _]) (Z' := [.mem [DS k1 la] true]) hcl (by simp) (by simp) ⟨(i + 1, la), ⟨k1, k2, rfl, by simp [h0], by simp [h1], by simp [h5], by simp [h7], by simp, hlt12, hg⟩, by simp only; omega⟩)
            · have hop1 : op = false := by rw [← hop]; exact decide_eq_false ho
              have hdr : dropR la D = (nl, bad) := by rw [← hfin, hop1]; rfl
              have hdl : dropL la (idsD D) = if bad = 0 then some nl else none := by rw [dropL_R, hdr]
              have h7 := h7
              simp [h5, h15]
              refine CALLv.atF (Frz.vec (g := H.length + 2) (w := w) (s := 1) (rows := (idsD D).map ic) (rw := true) (t := t) (by simp) (by simp [PureR_map])) (VC.up (args' := [.ptr H.length 0, IS true (idsD D)]) (by simp [UpFz, PureR_map]) (v_Drop (g := H.length) (k := k1) (kk := true) (l := la) (ids := idsD D) (by simp) hg.1 (by rw [idsD_len]; omega))) fun u T hu => ?_
              obtain ⟨e1, e2⟩ := hu
              rw [hdl] at e1 e2
              by_cases hb0 : bad = 0
              · rw [if_pos hb0] at e1 e2
                subst e1; subst e2
                simp [hb0, h13, h14]
                simp [h1, h5]
                refine CALLv.at (v_Tells (g := H.length) (k := true) (ra := true) (kk := k3) (l := nl) (id := id) (by simp) hng) fun u T hu => ?_
                obtain ⟨e1, e2⟩ := hu
                subst e1; subst e2
                simp [h1, h11, h12]
                refine CALLv.at (v_Tells (g := H.length + 1) (k := true) (ra := true) (kk := k2) (l := la) (id := id) (by simp) hg) fun u T hu => ?_
                obtain ⟨e1, e2⟩ := hu
                subst e1; subst e2
                simp [h5, h11]
                refine CALLv.at (v_cSame (k := true) (ra := true) (k' := true) (ra' := true) (g := H.length) (h := H.length + 1) (l := nl) (l' := la) (by simp) hng (by simp) hg) fun u T hu => ?_
                obtain ⟨e1, e2⟩ := hu
                subst e1; subst e2
                simp [h7]
                refine (v_rBytes (kk := k3) hng).call ?_
                simp [h12]
                refine (v_rBytes (kk := k2) hg).call ?_
                simp
                refine (v_Same1 (kk := true) (km := true) (l := bytesD nl) (m := bytesD la) (bytesD_max hng)).call ?_
                simp [h8, w64 (n := (i : Int) + 1) (by omega)]
                refine GH.of (G.clip (Z := [_]) (X := [_, _]) (Z' := [.mem [DS true nl] true]) hcl (by simp) (by simp) ⟨(i + 1, nl), ⟨true, k3, rfl, by simp [h0], by simp [h1], by simp [h5], by simp [h7], by simp, hlt12, hng⟩, by simp only; omega⟩)
              · have hb7 : bad = 7 := by have := dropR_7 (l := la) (ds := D); rw [hdr] at this; rcases this with h | h; exact absurd h hb0; exact h
                rw [if_neg hb0] at e1 e2
                subst e1; subst e2
                simp [hb7, h7, h13]
                simp [h1, h5]
                refine CALLv.at (v_Tells (g := H.length) (k := k1) (ra := true) (kk := k2) (l := la) (id := id) (by simp) hg) fun u T hu => ?_
                obtain ⟨e1, e2⟩ := hu
                subst e1; subst e2
                simp [h1, h11, h12]
                refine CALLv.at (v_Tells (g := H.length + 1) (k := true) (ra := true) (kk := k2) (l := la) (id := id) (by simp) hg) fun u T hu => ?_
                obtain ⟨e1, e2⟩ := hu
                subst e1; subst e2
                simp [h5, h11]
                refine CALLv.at (v_cSame (k := k1) (ra := true) (k' := true) (ra' := true) (g := H.length) (h := H.length + 1) (l := la) (l' := la) (by simp) hg (by simp) hg) fun u T hu => ?_
                obtain ⟨e1, e2⟩ := hu
                subst e1; subst e2
                simp [h7]
                refine (v_rBytes (kk := k2) hg).call ?_
                simp [h12]
                refine (v_rBytes (kk := k2) hg).call ?_
                simp
                refine (v_Same1 (kk := true) (km := true) (l := bytesD la) (m := bytesD la) (bytesD_max hg)).call ?_
                simp [h8, w64 (n := (i : Int) + 1) (by omega)]
                refine GH.of (G.clip (Z := [_]) (X := [_, _]) (Z' := [.mem [DS k1 la] true]) hcl (by simp) (by simp) ⟨(i + 1, la), ⟨k1, k2, rfl, by simp [h0], by simp [h1], by simp [h5], by simp [h7], by simp, hlt12, hg⟩, by simp only; omega⟩)
        · simp [h13, hjl]
          have hfin : runL op la D = (nl, bad) := by
            by_cases hb0 : bad = 0
            · rw [if_pos hb0] at hrun
              have : j = D.length := by omega
              rw [hrun, this, List.drop_length, runL_nil, hb0]
            · rw [if_neg hb0] at hrun; exact hrun
          refine v_loopX hC (fun (q : Nat) e T => ∃ w t, T = H ++ [.mem [DS k1 la] true, .mem [DS true la] true, .vec w ((idsD (D.take q)).map ic) 1 true t] ∧ e 0 = TS kk ts ∧ e 1 = i6 id ∧ e 5 = .ptr H.length 0 ∧ e 7 = DS k2 la ∧ e 8 = i6 i ∧ e 9 = DS true D ∧ e 10 = DS true D ∧ e 11 = .ptr (H.length + 1) 0 ∧ e 12 = DS k2 la ∧ e 13 = i6 bad ∧ e 14 = DS k3 nl ∧ e 15 = .own (H.length + 2) w ∧ e 17 = i6 q ∧ q ≤ D.length) (fun q => D.length - q) 0 ?_ ?_
          · refine G.nilT (H := H) (Z := [.mem [DS k1 la] true, .mem [DS true la] true]) (s := 1) 15 hcl (by simp) (by omega) (by simp [PureR_map]) (by simp [h15]) ?_
            exact ⟨0, true, by simp [idsD], by simp [h0], by simp [h1], by simp [h5], by simp [h7], by simp [h8], by simp [h9], by simp [h10], by simp [h11], by simp [h12], by simp [h13], by simp [h14], by simp, by simp, by simp⟩
          rintro q e T ⟨w, t, rfl, h0, h1, h5, h7, h8, h9, h10, h11, h12, h13, h14, h15, h17, hq⟩
          simp [h10, h17]
          refine CondV.dec (fun hql => ?_) (fun hqg => ?_)
          · have hql : q < D.length := by omega
            simp [h10, h15, h17, getD_ hql, w64 (n := (q : Int) + 1) (by omega)]
            refine ⟨by rw [idsD_len, List.length_take]; omega, GH.refl ⟨q + 1, ⟨w + 1, t, ?_, by simp [h0], by simp [h1], by simp [h5], by simp [h7], by simp [h8], by simp [h9], by simp [h10], by simp [h11], by simp [h12], by simp [h13], by simp [h14], by simp, by simp, hql⟩, by omega⟩⟩
            simp [idsD, List.take_add_one, getD_ hql]
          · have ht : D.take q = D := List.take_of_length_le (by omega)
            rw [ht]
            simp [h0, h8, hlt, getP hlt, hp]
            refine CondV.dec (fun ho => ?_) (fun ho => ?_)
            · have hop1 : op = true := by rw [← hop]; exact decide_eq_true ho
              have hadd : addL la D = (nl, bad) := by rw [← hfin, hop1]; rfl
              simp [h5, h9]
              refine CALLv.at (v_Add (g := H.length) (k := k1) (kk := true) (l := la) (ds := D) (by simp) hg.1 (by omega) (fun x hx => by have := (hDb x hx).1; omega)) fun u T hu => ?_
              obtain ⟨e1, k4, e2⟩ := hu
              rw [hadd] at e1 e2
              subst e1
              simp [h13]
              by_cases hb0 : bad = 0
              · rw [if_pos hb0] at e2
                subst e2
                simp [hb0, h13, h14]
                simp [h1, h5]
                refine CALLv.at (v_Tells (g := H.length) (k := k4) (ra := true) (kk := k3) (l := nl) (id := id) (by simp) hng) fun u T hu => ?_
                obtain ⟨e1, e2⟩ := hu
                subst e1; subst e2
                simp [h1, h11, h12]
                refine CALLv.at (v_Tells (g := H.length + 1) (k := true) (ra := true) (kk := k2) (l := la) (id := id) (by simp) hg) fun u T hu => ?_
                obtain ⟨e1, e2⟩ := hu
                subst e1; subst e2
                simp [h5, h11]
                refine CALLv.at (v_cSame (k := k4) (ra := true) (k' := true) (ra' := true) (g := H.length) (h := H.length + 1) (l := nl) (l' := la) (by simp) hng (by simp) hg) fun u T hu => ?_
                obtain ⟨e1, e2⟩ := hu
                subst e1; subst e2
                simp [h7]
                refine (v_rBytes (kk := k3) hng).call ?_
                simp [h12]
                refine (v_rBytes (kk := k2) hg).call ?_
                simp
                refine (v_Same1 (kk := true) (km := true) (l := bytesD nl) (m := bytesD la) (bytesD_max hng)).call ?_
                simp [h8, w64 (n := (i : Int) + 1) (by omega)]
                refine GH.of (G.clip (Z := [_]) (X := [_, _]) (Z' := [.mem [DS k4 nl] true]) hcl (by simp) (by simp) ⟨(i + 1, nl), ⟨k4, k3, rfl, by simp [h0], by simp [h1], by simp [h5], by simp [h7], by simp, hlt12, hng⟩, by simp only; omega⟩)
              · rw [if_neg hb0] at e2
                subst e2
                simp [hb0, h7, h13]
                simp [h1, h5]
                refine CALLv.at (v_Tells (g := H.length) (k := k1) (ra := true) (kk := k2) (l := la) (id := id) (by simp) hg) fun u T hu => ?_
                obtain ⟨e1, e2⟩ := hu
                subst e1; subst e2
                simp [h1, h11, h12]
                refine CALLv.at (v_Tells (g := H.length + 1) (k := true) (ra := true) (kk := k2) (l := la) (id := id) (by simp) hg) fun u T hu => ?_
                obtain ⟨e1, e2⟩ := hu
                subst e1; subst e2
                simp [h5, h11]
                refine CALLv.at (v_cSame (k := k1) (ra := true) (k' := true) (ra' := true) (g := H.length) (h := H.length + 1) (l := la) (l' := la) (by simp) hg (by simp) hg) fun u T hu => ?_
                obtain ⟨e1, e2⟩ := hu
                subst e1; subst e2
                simp [h7]
                refine (v_rBytes (kk := k2) hg).call ?_
                simp [h12]
                refine (v_rBytes (kk := k2) hg).call ?_
                simp
                refine (v_Same1 (kk := true) (km := true) (l := bytesD la) (m := bytesD la) (bytesD_max hg)).call ?_
                simp [h8, w64 (n := (i : Int) + 1) (by omega)]
                refine GH.of (G.clip (Z := [_]) (X := [_, _]) (Z' := [.mem [DS k1 la] true]) hcl (by simp) (by simp) ⟨(i + 1, la), ⟨k1, k2, rfl, by simp [h0], by simp [h1], by simp [h5], by simp [h7], by simp, hlt12, hg⟩, by simp only; omega⟩)
            · have hop1 : op = false := by rw [← hop]; exact decide_eq_false ho
              have hdr : dropR la D = (nl, bad) := by rw [← hfin, hop1]; rfl
              have hdl : dropL la (idsD D) = if bad = 0 then some nl else none := by rw [dropL_R, hdr]
              have h7 := h7
              simp [h5, h15]
              refine CALLv.atF (Frz.vec (g := H.length + 2) (w := w) (s := 1) (rows := (idsD D).map ic) (rw := true) (t := t) (by simp) (by simp [PureR_map])) (VC.up (args' := [.ptr H.length 0, IS true (idsD D)]) (by simp [UpFz, PureR_map]) (v_Drop (g := H.length) (k := k1) (kk := true) (l := la) (ids := idsD D) (by simp) hg.1 (by rw [idsD_len]; omega))) fun u T hu => ?_
              obtain ⟨e1, e2⟩ := hu
              rw [hdl] at e1 e2
              by_cases hb0 : bad = 0
              · rw [if_pos hb0] at e1 e2
                subst e1; subst e2
                simp [hb0, h13, h14]
                simp [h1, h5]
                refine CALLv.at (v_Tells (g := H.length) (k := true) (ra := true) (kk := k3) (l := nl) (id := id) (by simp) hng) fun u T hu => ?_
                obtain ⟨e1, e2⟩ := hu
                subst e1; subst e2
                simp [h1, h11, h12]
                refine CALLv.at (v_Tells (g := H.length + 1) (k := true) (ra := true) (kk := k2) (l := la) (id := id) (by simp) hg) fun u T hu => ?_
                obtain ⟨e1, e2⟩ := hu
                subst e1; subst e2
                simp [h5, h11]
                refine CALLv.at (v_cSame (k := true) (ra := true) (k' := true) (ra' := true) (g := H.length) (h := H.length + 1) (l := nl) (l' := la) (by simp) hng (by simp) hg) fun u T hu => ?_
                obtain ⟨e1, e2⟩ := hu
                subst e1; subst e2
                simp [h7]
                refine (v_rBytes (kk := k3) hng).call ?_
                simp [h12]
                refine (v_rBytes (kk := k2) hg).call ?_
                simp
                refine (v_Same1 (kk := true) (km := true) (l := bytesD nl) (m := bytesD la) (bytesD_max hng)).call ?_
                simp [h8, w64 (n := (i : Int) + 1) (by omega)]
                refine GH.of (G.clip (Z := [_]) (X := [_, _]) (Z' := [.mem [DS true nl] true]) hcl (by simp) (by simp) ⟨(i + 1, nl), ⟨true, k3, rfl, by simp [h0], by simp [h1], by simp [h5], by simp [h7], by simp, hlt12, hng⟩, by simp only; omega⟩)
              · have hb7 : bad = 7 := by have := dropR_7 (l := la) (ds := D); rw [hdr] at this; rcases this with h | h; exact absurd h hb0; exact h
                rw [if_neg hb0] at e1 e2
                subst e1; subst e2
                simp [hb7, h7, h13]
                simp [h1, h5]
                refine CALLv.at (v_Tells (g := H.length) (k := k1) (ra := true) (kk := k2) (l := la) (id := id) (by simp) hg) fun u T hu => ?_
                obtain ⟨e1, e2⟩ := hu
                subst e1; subst e2
                simp [h1, h11, h12]
                refine CALLv.at (v_Tells (g := H.length + 1) (k := true) (ra := true) (kk := k2) (l := la) (id := id) (by simp) hg) fun u T hu => ?_
                obtain ⟨e1, e2⟩ := hu
                subst e1; subst e2
                simp [h5, h11]
                refine CALLv.at (v_cSame (k := k1) (ra := true) (k' := true) (ra' := true) (g := H.length) (h := H.length + 1) (l := la) (l' := la) (by simp) hg (by simp) hg) fun u T hu => ?_
                obtain ⟨e1, e2⟩ := hu
                subst e1; subst e2
                simp [h7]
                refine (v_rBytes (kk := k2) hg).call ?_
                simp [h12]
                refine (v_rBytes (kk := k2) hg).call ?_
                simp
                refine (v_Same1 (kk := true) (km := true) (l := bytesD la) (m := bytesD la) (bytesD_max hg)).call ?_
                simp [h8, w64 (n := (i : Int) + 1) (by omega)]
                refine GH.of (G.clip (Z := [_]) (X := [_, _]) (Z' := [.mem [DS k1 la] true]) hcl (by simp) (by simp) ⟨(i + 1, la), ⟨k1, k2, rfl, by simp [h0], by simp [h1], by simp [h5], by simp [h7], by simp, hlt12, hg⟩, by simp only; omega⟩)
    · refine GuardR.dec (fun hlt => ?_) (fun hge => ?_)
      · have h12 : ¬ (i : Int) < 12 := by omega
        simp [h8, hlt, h12]
        refine v_known25.call ?_
        simp [Try.results12]
        first | (refine GV.ans hcl ?_; simp []; done) | (refine GV.ans0 ?_; simp []; done)
      · simp [hge]
        refine v_known25.call ?_
        simp [Try.results12]
        first | (refine GV.ans hcl ?_; simp []; done) | (refine GV.ans0 ?_; simp []; done)
end Go.Proofs.Ytenbclcfhjdcaaa.VM
end
section
set_option maxHeartbeats 8000000
set_option linter.unusedVariables false
set_option linter.unusedSimpArgs false
/- CorpusPlays at the arguments as they read. -/
namespace Go.Proofs.Ytenbclcfhjdcaaa
open Go Go.RowKit AM VM B
namespace VM
theorem rd_docs {H : Type} {enc : TypeId × Value → H} {w : World} {cs : List Value} (h : Rd enc Try.prog w 92 cs) : ∃ v kk, ∃ l : List (Bool × Dc), cs = [v] ∧ l.length < 2 ^ 63 ∧ (∀ p ∈ l, p.2.b.length < 2 ^ 63 ∧ ∀ x ∈ p.2.b, 0 ≤ x ∧ x ≤ 255) ∧ CellV w (DSf kk l) v := by
  obtain ⟨u, kk, rows, e, hc, hl, hg⟩ := rd_sliceV (fun r => ∃ k, ∃ d : Dc, (d.b.length < 2 ^ 63 ∧ ∀ x ∈ d.b, 0 ≤ x ∧ x ≤ 255) ∧ r = dcK k d) h Try.underlying92 (by kernel_rfl : Try.prog.cellsOf 94 = 2) (by omega) (by omega) (fun es h1 h2 => by
    obtain ⟨k, d, g1, g2, _, g4⟩ := rd_doc h2
    exact ⟨dcK k d, rfl, g4, k, d, ⟨g1, g2⟩, rfl⟩)
  obtain ⟨l, rfl, hb⟩ := rows_dc hg
  exact ⟨u, kk, l, e, by simp only [List.length_map, maxLen] at hl; omega, hb, hc⟩
theorem rows_act : ∀ {rows : List (List V)}, (∀ r ∈ rows, ∃ (x : Int) (k : Bool) (l : List (Bool × Dc)), (l.length < 2 ^ 63 ∧ ∀ p ∈ l, p.2.b.length < 2 ^ 63 ∧ ∀ x ∈ p.2.b, 0 ≤ x ∧ x ≤ 255) ∧ r = [i6 x, DSf k l]) → ∃ ts : List (Int × Bool × List (Bool × Dc)), rows = (ts.map fun p => [i6 p.1, DSf p.2.1 p.2.2]) ∧ ∀ p ∈ ts, p.2.2.length < 2 ^ 63 ∧ ∀ q ∈ p.2.2, q.2.b.length < 2 ^ 63 ∧ byD q.2
  | [], _ => ⟨[], rfl, by simp⟩
  | r :: rs, h => by
    obtain ⟨x, k, l, he1, he2⟩ := h r (by simp)
    obtain ⟨ts, hl, hb⟩ := rows_act (rows := rs) fun x hx => h x (by simp [hx])
    refine ⟨(x, k, l) :: ts, by rw [he2, hl]; rfl, fun x hx => ?_⟩
    rcases List.mem_cons.1 hx with rfl | hx
    · exact he1
    · exact hb x hx
/-- Turns. -/
theorem arg_acts {H : Type} {enc : TypeId × Value → H} {w : World} {v : Value} (h : Rd enc Try.prog w 98 [v]) : ∃ kk, ∃ ts : List (Int × Bool × List (Bool × Dc)), ts.length < 2 ^ 63 ∧ (∀ p ∈ ts, p.2.2.length < 2 ^ 63 ∧ ∀ q ∈ p.2.2, q.2.b.length < 2 ^ 63 ∧ byD q.2) ∧ ArgV w (TS kk ts) v := by
  obtain ⟨u, kk, rows, e, hc, hl, hg⟩ := rd_sliceV (fun r => ∃ (x : Int) (k : Bool) (l : List (Bool × Dc)), (l.length < 2 ^ 63 ∧ ∀ p ∈ l, p.2.b.length < 2 ^ 63 ∧ ∀ x ∈ p.2.b, 0 ≤ x ∧ x ≤ 255) ∧ r = [i6 x, DSf k l]) h Try.underlying98 (by kernel_rfl : Try.prog.cellsOf 101 = 2) (by omega) (by omega) (fun es h1 h2 => by
    obtain ⟨x, y, e, _, _, hx, hy⟩ := rd_two h2 Try.underlying101 (a := 1) (b := 1) rfl (by kernel_rfl) rfl (by kernel_rfl) (by kernel_rfl)
    obtain ⟨s, rfl, hw⟩ := hx.int Try.underlying3
    obtain ⟨v, k, l, rfl, g1, g2, g3⟩ := rd_docs hy
    exact ⟨[i6 s, DSf k l], rfl, by rw [e]; exact ⟨_, _, rfl, .lit rfl, _, _, rfl, g3, rfl⟩, s, k, l, ⟨g1, g2⟩, rfl⟩)
  obtain ⟨ts, rfl, hb⟩ := rows_act hg
  cases e
  exact ⟨kk, ts, by simp only [List.length_map, maxLen] at hl; omega, hb, hc.arg⟩
end VM
theorem corpusPlays_row {H : Type} {enc : TypeId × Value → H} (A0 : Option Addr) (n0 c0 : Nat) (a1 : Int) (w : World) (h0 : Rd enc Try.prog w 98 [.slice A0 n0 c0]) (h1 : (Lit.int .i64 a1).wf = true) :
    Calls Try.prog 12 #[.slice A0 n0 c0, .int .i64 a1] w fun e w' => e = .returned (.bool true) ∧ Below w.heap.size w w' := by
  obtain ⟨kk, ts, hl, hb, ha⟩ := arg_acts h0
  exact (v_CorpusPlays hl hb).law mixed prims_ok ⟨_, _, Try.func12, rfl, by decide +kernel⟩ ⟨_, _, rfl, ha, _, _, rfl, (CellV.lit rfl).arg, rfl⟩
end Go.Proofs.Ytenbclcfhjdcaaa
end
