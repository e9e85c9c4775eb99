/- What the proof of BatchCuts rests on, part 7 of 7. -/
import Derived.Test.YtldhfdagmaklaaaBatchCutsP6
import Derived.Deep.Strs
section
set_option maxHeartbeats 8000000
set_option linter.unusedVariables false
set_option linter.unusedSimpArgs false

/- batch: plain, Record, copied, one; the document's Check, Same, Record, One. -/
namespace Go.Proofs.Ytldhfdagmaklaaa.VM
open Go Go.Proofs AM B
set_option maxRecDepth 100000
/-- An operation's bytes, without the sum; with it. -/
def plainO (o : Oc) : List Int := if o.del then 2 :: venc o.id.toNat else 1 :: (venc o.id.toNat ++ (venc o.b.length ++ o.b))
def recO (o : Oc) : List Int := markB (plainO o)
/-- What bytes an operation may have. -/
def okO (o : Oc) : Prop := ∀ x ∈ o.b, 0 ≤ x ∧ x ≤ 255
theorem ochk_id {o : Oc} (h : ochk o = 0) : 1 ≤ o.id ∧ o.id ≤ 65535 ∧ o.b.length ≤ 1024 := by
  unfold ochk dchk at h
  dsimp only at h
  repeat' split at h
  all_goals first
    | omega
    | (simp at *; omega)
theorem v_plain {o : Oc} (hz : ochk o = 0) : A 95 [.agg (oc o)] (BS true (plainO o)) := by
  obtain ⟨h1, h2, h3⟩ := ochk_id hz
  cases hd : o.del with
  | true =>
    have h := v_plainD (kk := true) (id := o.id) (b := o.b) (by omega) (by omega)
    have e : (⟨true, o.id, o.b⟩ : Oc) = o := by rw [← hd]
    rw [e] at h
    unfold plainO
    rw [if_pos hd]
    exact h
  | false =>
    intro H
    refine v_enter hC [] (fun _ _ => kn_none rfl) Try.func95 rfl ok95 (Nat.le_of_ble_eq_true rfl) fun hcl hbl => ?_
    have hp : putB [o.id] = venc o.id.toNat := by simp [putB, vencs]; omega
    have hv := venc_length o.id.toNat
    simp [hd]
    refine v_draw (ord := [0, 1, 2, 3, 4, 5, 6, 7, 8, 9, 10, 11]) (m := 9) (by decide +kernel) (by decide +kernel) ?_
    simp
    refine (v_Put (kk := true) (l := [o.id]) (by simp) (by simp; omega)).callU [IS true [o.id]] (by simp) ?_
    rw [hp]
    simp
    refine (v_Text (kk := true) (ls := [o.b]) (by simp) (by simp; omega)).callU [.fsl true 1 [[BS true o.b]]] (by simp) ?_
    have ht : textB [o.b] = venc o.b.length ++ o.b := by simp [textB]
    have hv2 := venc_length o.b.length
    rw [ht]
    simp
    refine (v_bCat (kk := true) (ls := [(true, [1]), (true, venc o.id.toNat), (true, venc o.b.length ++ o.b)]) (by simp) (by simp; omega)).callU [.fsl true 1 [[BS true [1]], [BS true (venc o.id.toNat)], [BS true (venc o.b.length ++ o.b)]]] (by simp) ?_
    have hx : plainO o = 1 :: (venc o.id.toNat ++ (venc o.b.length ++ o.b)) := by unfold plainO; rw [if_neg (by simp [hd])]
    simp [Try.results95]
    first | (refine GV.ans hcl ?_; simp [hx]; done) | (refine GV.ans0 ?_; simp [hx]; done)
theorem v_copied {kk : Bool} {o : Oc} (hb : o.b.length ≤ 100000) : A 50 [.agg (ocK kk o)] (.agg (oc o)) := by
  intro H
  refine v_enter hC [] (fun _ _ => kn_none rfl) Try.func50 rfl ok50 (Nat.le_of_ble_eq_true rfl) fun hcl hbl => ?_
  simp
  refine v_draw (ord := [0, 1, 2, 3, 4, 5, 6, 7, 8]) (m := 7) (by decide +kernel) (by decide +kernel) ?_
  simp
  refine (v_bClone (kk := kk) (l := o.b) (by omega)).call ?_
  simp [Try.results50]
  first | (refine GV.ans hcl ?_; simp []; done) | (refine GV.ans0 ?_; simp []; done)
def oAt (l : List Oc) (j : Nat) : Oc := l.getD j ⟨false, 0, []⟩
theorem oAt_eq (l : List Oc) (j : Nat) (h : j < l.length) : oAt l j = l[j] := by simp [oAt, h]
theorem getO {l : List Oc} {k : Nat} (h : k < l.length) : l[k]? = some (oAt l k) := by rw [List.getElem?_eq_getElem h, oAt_eq l k h]
theorem v_oOf {kk : Bool} {l : List Oc} (hl : l.length ≤ 100000) : A 16 [OS kk l] (OS true l) := by
  intro H
  refine v_enter hC [] (fun _ _ => kn_none rfl) Try.func16 rfl ok16 (Nat.le_of_ble_eq_true rfl) fun hcl hbl => ?_
  simp
  refine v_loopX hC (fun (k : Nat) e T => ∃ w t, T = H ++ [.vec w ((l.take k).map oc) 3 true t] ∧ e 0 = OS kk l ∧ e 3 = .own H.length w ∧ e 4 = i6 k ∧ k ≤ l.length) (fun k => l.length - k) 0 ?_ ?_
  · refine G.nilT0 (s := 3) 3 hcl (Nat.le_refl _) (by omega) (by simp) ?_
    exact ⟨0, true, by simp, by simp, by simp, by simp, by simp⟩
  · rintro k e T ⟨w, t, rfl, h0, h3, h4, hk⟩
    simp [h0, h4]
    refine CondV.dec (fun hlt => ?_) (fun hge => ?_)
    · have hlt : k < l.length := by omega
      simp
      refine v_draw (ord := [0, 1, 2, 3, 4, 5, 6, 7, 8, 9, 10, 11, 12, 13, 14, 15, 16, 17, 18, 19]) (m := 16) (by decide +kernel) (by decide +kernel) ?_
      simp [h0, h3, h4, getO hlt]
      have htk : (l.take (k + 1)).map oc = List.take k (List.map oc l) ++ [oc (oAt l k)] := by
        rw [List.take_succ_eq_append_getElem hlt, oAt_eq l k hlt, List.map_append, List.map_take]; rfl
      refine ⟨by omega, GH.refl ⟨k + 1, ⟨w + 1, t, ?_, ?_, ?_, ?_, hlt⟩, by omega⟩⟩
      · rw [htk]; rfl
      · simp [h0]
      · simp
      · simp [w64 (n := (k : Int) + 1) (by omega)]
    · have ht : l.take k = l := List.take_of_length_le (by omega)
      have ht2 : (l.map oc).take k = l.map oc := by rw [← List.map_take, ht]
      simp [h3, Try.results16]
      first | (refine GV.ans hcl ?_; simp [ht2]; done) | (refine GV.ans0 ?_; simp [ht2]; done)
theorem v_r26Check {kk : Bool} {o : Oc} : A 45 [.agg (ocK kk o)] (i6 (ochk o)) := by
  intro H
  refine v_enter hC [] (fun _ _ => kn_none rfl) Try.func45 rfl ok45 (Nat.le_of_ble_eq_true rfl) fun hcl hbl => ?_
  simp
  refine CondV.on (fun h2 => ?_) (fun h2 => ?_)
  · have hd : o.del = false := by simpa using h2
    have hv : ochk o = dchk ⟨o.id, o.b⟩ := by unfold ochk; rw [if_pos (.inr hd)]
    simp
    refine (v_rdCheck (kk := kk) (d := ⟨o.id, o.b⟩)).call ?_
    simp [Try.results45]
    first | (refine GV.ans hcl ?_; simp [hv]; done) | (refine GV.ans0 ?_; simp [hv]; done)
  · have hd : o.del = true := by simpa using h2
    have hv : ochk o = if o.id < 1 ∨ 65535 < o.id then 1 else if 0 < o.b.length then 3 else 0 := by
      unfold ochk dchk
      by_cases hc : o.id < 1 ∨ 65535 < o.id <;> simp [hc, hd]
    by_cases h3 : o.id < 1
    · simp [h3, Try.results45]
      first | (refine GV.ans hcl ?_; simp [hv, h3]; done) | (refine GV.ans0 ?_; simp [hv, h3]; done)
    · by_cases h4 : 65535 < o.id
      · simp [h3, h4, Try.results45]
        first | (refine GV.ans hcl ?_; simp [hv, h3, h4]; done) | (refine GV.ans0 ?_; simp [hv, h3, h4]; done)
      · rw [if_neg (by omega)] at hv
        simp [h3, h4]
        refine CondV.dec (fun h5 => ?_) (fun h5 => ?_)
        · have h5 : 0 < o.b.length := by omega
          rw [if_pos h5] at hv
          simp [Try.results45]
          first | (refine GV.ans hcl ?_; simp [hv]; done) | (refine GV.ans0 ?_; simp [hv]; done)
        · have h5 : ¬ 0 < o.b.length := by omega
          rw [if_neg h5] at hv
          simp [Try.results45]
          first | (refine GV.ans hcl ?_; simp [hv]; done) | (refine GV.ans0 ?_; simp [hv]; done)
/-- Do two operations look alike? -/
def sameO (a b : Oc) : Bool := decide (a.del = b.del ∧ a.id = b.id ∧ a.b = b.b)
theorem v_r26Same {ka kb : Bool} {a b : Oc} (ha : a.b.length < 2 ^ 48) : A 51 [.agg (ocK ka a), .agg (ocK kb b)] (bo (sameO a b)) := by
  intro H
  refine v_enter hC [] (fun _ _ => kn_none rfl) Try.func51 rfl ok51 (Nat.le_of_ble_eq_true rfl) fun hcl hbl => ?_
  have hv : sameO a b = (decide (a.del = b.del) && (decide (a.id = b.id) && decide (a.b = b.b))) := by unfold sameO; simp [Bool.decide_and]
  by_cases h1 : a.del = b.del
  · by_cases h2 : a.id = b.id
    · simp [h1, h2]
      refine (v_Same1 (kk := ka) (km := kb) (l := a.b) (m := b.b) (by omega)).call ?_
      simp [Try.results51]
      first | (refine GV.ans hcl ?_; simp [hv, h1, h2]; done) | (refine GV.ans0 ?_; simp [hv, h1, h2]; done)
    · simp [h1, h2, Try.results51]
      first | (refine GV.ans hcl ?_; simp [hv, h1, h2]; done) | (refine GV.ans0 ?_; simp [hv, h1, h2]; done)
  · have hb1 : (a.del == b.del) = false := by simpa using h1
    simp [hb1, Try.results51]
    first | (refine GV.ans hcl ?_; simp [hv, h1]; done) | (refine GV.ans0 ?_; simp [hv, h1]; done)
theorem v_r26Record {kk : Bool} {o : Oc} (hz : ochk o = 0) (hb : okO o) : A 52 [.agg (ocK kk o)] (BS true (recO o)) := by
  intro H
  refine v_enter hC [4,8] (fun _ _ => kn_none rfl) Try.func52 rfl ok52 (Nat.le_of_ble_eq_true rfl) fun hcl hbl => ?_
  obtain ⟨h1, h2, h3⟩ := ochk_id hz
  obtain ⟨n, hn⟩ : ∃ n : Nat, o.id = n := ⟨o.id.toNat, by omega⟩
  have hn2 : o.id.toNat = n := by omega
  have hv := venc_length n
  have hw : IntKind.u64.wrap (n : Int) = (n : Int) := by simp [IntKind.wrap, IntKind.bits, IntKind.signed]; omega
  simp
  refine CondV.on (fun h => ?_) (fun h => ?_)
  · have hd : o.del = false := by simpa using h
    simp [hn, hw]
    refine (v_rPut (n := n) (by omega)).call ?_
    simp [hd]
    refine ⟨by omega, ?_⟩
    have hv2 := venc_length o.b.length
    have hw2 : IntKind.u64.wrap (o.b.length : Int) = (o.b.length : Int) := by simp [IntKind.wrap, IntKind.bits, IntKind.signed]; omega
    refine v_draw (ord := [0, 1, 2, 3, 4, 5, 6, 7, 8, 9, 10]) (m := 9) (by decide +kernel) (by decide +kernel) ?_
    simp [hw2]
    refine (v_rPut (n := o.b.length) (by omega)).call ?_
    simp
    refine ⟨by omega, by omega, ?_⟩
    refine CALLv.at (v_rSumO (g := H.length + 2) (w := 3) (rw := true) (t := true) (l := 1 :: (venc n ++ (venc o.b.length ++ o.b))) (by simp) (by simp; omega) (fun x hx => ?_)) fun u T hu => ?_
    · rcases List.mem_cons.1 hx with rfl | hx
      · omega
      · rcases List.mem_append.1 hx with hx | hx
        · exact venc_byte _ _ hx
        · rcases List.mem_append.1 hx with hx | hx
          · exact venc_byte _ _ hx
          · exact hb x hx
    · obtain ⟨e1, e2⟩ := hu
      subst e1; subst e2
      simp
      refine (v_rLow (crcS_lt _)).call ?_
      have hr : recO o = (1 :: (venc n ++ (venc o.b.length ++ o.b))) ++ low4 (crcS (1 :: (venc n ++ (venc o.b.length ++ o.b)))) := by unfold recO plainO markB; rw [if_neg (by simp [hd]), hn2]
      have hl4 : (low4 (crcS (1 :: (venc n ++ (venc o.b.length ++ o.b))))).length = 4 := rfl
      rw [hr]
      generalize low4 (crcS (1 :: (venc n ++ (venc o.b.length ++ o.b)))) = q at *
      simp [Try.results52]
      refine ⟨by omega, ?_⟩
      first | (refine GV.ans hcl ?_; simp []; done) | (refine GV.ans0 ?_; simp []; done)
  · have hd : o.del = true := by simpa using h
    simp [hn, hw]
    refine (v_rPut (n := n) (by omega)).call ?_
    simp [hd]
    refine ⟨by omega, ?_⟩
    refine CALLv.at (v_rSumO (g := H.length + 1) (w := 1) (rw := true) (t := true) (l := 2 :: venc n) (by simp) (by simp; omega) (fun x hx => ?_)) fun u T hu => ?_
    · rcases List.mem_cons.1 hx with rfl | hx
      · omega
      · exact venc_byte _ _ hx
    · obtain ⟨e1, e2⟩ := hu
      subst e1; subst e2
      simp
      refine (v_rLow (crcS_lt _)).call ?_
      have hr : recO o = 2 :: venc n ++ low4 (crcS (2 :: venc n)) := by unfold recO plainO markB; rw [if_pos hd, hn2]
      have hl4 : (low4 (crcS (2 :: venc n))).length = 4 := rfl
      rw [hr]
      generalize low4 (crcS (2 :: venc n)) = q at *
      simp [Try.results52]
      refine ⟨by omega, ?_⟩
      first | (refine GV.ans hcl ?_; simp []; done) | (refine GV.ans0 ?_; simp []; done)
theorem plainO_byte {o : Oc} (hb : okO o) : ∀ x ∈ plainO o, 0 ≤ x ∧ x ≤ 255 := by
  unfold plainO
  intro x hx
  split at hx
  · rcases List.mem_cons.1 hx with rfl | hx
    · omega
    · exact venc_byte _ _ hx
  · rcases List.mem_cons.1 hx with rfl | hx
    · omega
    · rcases List.mem_append.1 hx with hx | hx
      · exact venc_byte _ _ hx
      · rcases List.mem_append.1 hx with hx | hx
        · exact venc_byte _ _ hx
        · exact hb x hx
theorem plainO_len {o : Oc} (hz : ochk o = 0) : (plainO o).length ≤ 1100 := by
  obtain ⟨_, _, h3⟩ := ochk_id hz
  have h1 := venc_length o.id.toNat
  have h2 := venc_length o.b.length
  unfold plainO
  split <;> simp <;> omega
theorem v_Record {o : Oc} (hz : ochk o = 0) (hb : okO o) : A 55 [.agg (oc o)] (.tup [BS true (recO o), i6 0]) := by
  intro H
  refine v_enter hC [] (fun _ _ => kn_none rfl) Try.func55 rfl ok55 (Nat.le_of_ble_eq_true rfl) fun hcl hbl => ?_
  simp
  refine (v_ocheck (kk := true) (o := o)).call ?_
  simp [hz]
  refine (v_plain hz).call ?_
  have hl := plainO_len hz
  simp
  refine (v_Mark (kb := true) (l := plainO o) (by omega) (plainO_byte hb)).call ?_
  simp [Try.results55]
  first | (refine GV.ans hcl ?_; simp [recO]; done) | (refine GV.ans0 ?_; simp [recO]; done)
/-- Documents behind an operation; the error; how many there were ahead of it. -/
def oneD (l : List Dc) (o : Oc) (ahead : Int) : List Dc × Int :=
  if ochk o ≠ 0 then (l, ochk o) else if 64 ≤ ahead then (l, 2) else if o.del then (if isD l o.id then (delD l o.id, 0) else (l, 7)) else if putE l ⟨o.id, o.b⟩ = 0 then (putD l ⟨o.id, o.b⟩, 0) else (l, putE l ⟨o.id, o.b⟩)
end Go.Proofs.Ytldhfdagmaklaaa.VM
end
section
set_option maxHeartbeats 8000000
set_option linter.unusedVariables false
set_option linter.unusedSimpArgs false

/- batch: one, the document's One; New, Len, Copy of operations, Ops. -/
namespace Go.Proofs.Ytldhfdagmaklaaa.VM
open Go Go.Proofs AM B
set_option maxRecDepth 100000
theorem GV.retSet {H X : Hp} {g : Nat} {y : Ob} {x v : V} {R : V → Hp → Prop} (hcl : Cl H) (hy : y.bel H.length) (hup : Up H.length [] [] (H.set g y ++ X) v x) (h : R v (H.set g y)) : GV H.length R x (H.set g y ++ X) := by
  have h2 := GV.ret (H := H.set g y) (X := X) (x := x) (R := R) v (Cl.set hcl hy) (by rw [List.length_set]; exact hup) h
  rw [List.length_set] at h2
  exact h2
theorem v_r26One {kk : Bool} {l : List Dc} {o : Oc} {ahead : Int} (hl : okD l) : A 17 [DS kk l, .agg (oc o), i6 ahead] (.tup [if (oneD l o ahead).2 = 0 then DS true (oneD l o ahead).1 else DS kk l, i6 (oneD l o ahead).2]) := by
  intro H
  refine v_enter hC [] (fun _ _ => kn_none rfl) Try.func17 rfl ok17 (Nat.le_of_ble_eq_true rfl) fun hcl hbl => ?_
  simp
  refine (v_r26Check (kk := true) (o := o)).call ?_
  simp
  refine CondV.on (fun h => ?_) (fun h => ?_)
  · have h : ochk o ≠ 0 := by simpa using h
    have hv : oneD l o ahead = (l, ochk o) := by unfold oneD; rw [if_pos h]
    rw [hv]
    simp [h, Try.results17]
    first | (refine GV.ans hcl ?_; simp [h]; done) | (refine GV.ans0 ?_; simp [h]; done)
  · have h : ¬ ochk o ≠ 0 := by simpa using h
    have hid := ochk_id (by simpa using h)
    simp
    refine CondV.dec (fun h2 => ?_) (fun h2 => ?_)
    · have hv : oneD l o ahead = (l, 2) := by unfold oneD; rw [if_neg h, if_pos h2]
      rw [hv]
      simp [Try.results17]
      first | (refine GV.ans hcl ?_; simp []; done) | (refine GV.ans0 ?_; simp []; done)
    · simp
      refine CondV.on (fun h3 => ?_) (fun h3 => ?_)
      · have hv : oneD l o ahead = if isD l o.id then (delD l o.id, 0) else (l, 7) := by unfold oneD; rw [if_neg h, if_neg h2, if_pos h3]
        rw [hv]
        simp
        refine (v_rDrop (kk := kk) (id := o.id) hl).call ?_
        cases hi : isD l o.id with
        | true =>
          simp [Try.results17]
          first | (refine GV.ans hcl ?_; simp []; done) | (refine GV.ans0 ?_; simp []; done)
        | false =>
          simp [Try.results17]
          first | (refine GV.ans hcl ?_; simp []; done) | (refine GV.ans0 ?_; simp []; done)
      · have h3 : ¬ o.del = true := by simpa using h3
        have hv : oneD l o ahead = if putE l ⟨o.id, o.b⟩ = 0 then (putD l ⟨o.id, o.b⟩, 0) else (l, putE l ⟨o.id, o.b⟩) := by unfold oneD; rw [if_neg h, if_neg h2, if_neg h3]
        rw [hv]
        simp
        refine (v_rAdd (kk := kk) (d := ⟨o.id, o.b⟩) hl (by show o.b.length < 2 ^ 60; omega)).callU [DS kk l, .agg (dcK true ⟨o.id, o.b⟩)] (by simp) ?_
        by_cases hi : putE l ⟨o.id, o.b⟩ = 0
        · simp [hi, Try.results17]
          first | (refine GV.ans hcl ?_; simp [hi]; done) | (refine GV.ans0 ?_; simp [hi]; done)
        · simp [hi, Try.results17]
          first | (refine GV.ans hcl ?_; simp [hi]; done) | (refine GV.ans0 ?_; simp [hi]; done)
theorem v_oClone {kk : Bool} {l : List Oc} (hl : l.length ≤ 100000) : AO 47 [OS kk l] 3 (l.map oc) := by
  intro H
  refine v_enter hC [] (fun _ _ => kn_none rfl) Try.func47 rfl ok47 (Nat.le_of_ble_eq_true rfl) fun hcl hbl => ?_
  simp [Try.results47]
  refine ⟨⟨by omega, ?_⟩, fun h => ?_⟩
  · exact GV.own hcl (List.getElem?_concat_length ..) (Nat.le_refl _) (by simp) (PureR_map.2 (by simp)) ⟨_, _, rfl, rfl⟩
  · subst h
    exact GV.nil0 hcl (by omega) (by omega) ⟨_, _, rfl, rfl⟩
/-- The corpus behind an operation, of a right one. -/
theorem v_one {H : Hp} {g : Nat} {k : Bool} {l : List Dc} {o : Oc} (hg : H[g]? = some (.mem [DS k l] true)) (hl : okD l) (hz : ochk o = 0) :
    VC Try.prog prims 49 [.agg (oc o), .ptr g 0] H fun u T => u = i6 (oneD l o 0).2 ∧ ∃ k', T = if (oneD l o 0).2 = 0 then H.set g (.mem [DS k' (oneD l o 0).1] true) else H := by
  refine v_enter hC [] (fun _ _ => kn_none rfl) Try.func49 rfl ok49 (Nat.le_of_ble_eq_true rfl) fun hcl hbl => ?_
  have hgl := get_lt hg
  have hid := ochk_id hz
  have hgX : ∀ X, (H ++ X)[g]? = some (.mem [DS k l] true) := fun X => by rw [List.getElem?_append_left hgl, hg]
  simp
  refine CondV.on (fun h3 => ?_) (fun h3 => ?_)
  · have hv : oneD l o 0 = if isD l o.id then (delD l o.id, 0) else (l, 7) := by unfold oneD; rw [if_neg (by simpa using hz), if_neg (by omega), if_pos h3]
    rw [hv]
    simp
    refine CALLv.at (v_Drop (k := k) (kk := true) (ids := [o.id]) (hgX _) hl (by simp)) fun u T hu => ?_
    obtain ⟨e1, e2⟩ := hu
    subst e1
    cases hi : isD l o.id with
    | true =>
      have hdl : dropL l [o.id] = some (delD l o.id) := by simp [dropL, hi]
      rw [hdl] at e2
      simp only [] at e2
      rw [List.set_append_left _ _ hgl] at e2
      subst e2
      simp [hdl, Try.results49]
      exact GV.retSet (v := i6 0) hcl (by simp [Ob.bel, Bels, Bel]) (by simp) ⟨rfl, true, by simp⟩
    | false =>
      have hdl : dropL l [o.id] = none := by simp [dropL, hi]
      rw [hdl] at e2
      simp only [] at e2
      subst e2
      simp [hdl, Try.results49]
      exact GV.ret (X := [_]) (i6 7) hcl (by simp) ⟨rfl, k, by simp⟩
  · have h3 : ¬ o.del = true := by simpa using h3
    have hv : oneD l o 0 = if putE l ⟨o.id, o.b⟩ = 0 then (putD l ⟨o.id, o.b⟩, 0) else (l, putE l ⟨o.id, o.b⟩) := by unfold oneD; rw [if_neg (by simpa using hz), if_neg (by omega), if_neg h3]
    rw [hv]
    simp
    refine (v_doc (kk := true) (o := o)).call ?_
    simp
    refine CALLv.at (v_Add (k := k) (kk := true) (ds := [⟨o.id, o.b⟩]) (hgX _) hl (by simp) (by simp; omega)) fun u T hu => ?_
    obtain ⟨e1, k', e2⟩ := hu
    rw [addL_one] at e1 e2
    subst e1
    by_cases hi : putE l ⟨o.id, o.b⟩ = 0
    · rw [if_pos hi] at e2
      simp only [if_true] at e2
      rw [List.set_append_left _ _ hgl] at e2
      subst e2
      simp [hi, Try.results49]
      exact GV.retSet (v := i6 0) hcl (by simp [Ob.bel, Bels, Bel]) (by simp) ⟨by simp [hi], k', by simp [hi]⟩
    · rw [if_neg hi] at e2
      simp only [if_neg hi] at e2
      subst e2
      simp [hi, Try.results49]
      exact GV.ret (X := [_]) (i6 (putE l ⟨o.id, o.b⟩)) hcl (by simp) ⟨by simp [hi], k, by simp [hi]⟩
/-- A batch: its object, its corpus, its base. -/
def BatV (H : Hp) (g : Nat) (base docs : List Dc) (ops : List Oc) : Prop := ∃ r1 gc gb ko kc r2 kb r3, H[g]? = some (.mem [.ptr gc 0, .ptr gb 0, OS ko ops] r1) ∧ H[gc]? = some (.mem [DS kc docs] r2) ∧ H[gb]? = some (.mem [DS kb base] r3)
theorem v_bLen {H : Hp} {g : Nat} {base docs : List Dc} {ops : List Oc} (h : BatV H g base docs ops) : VC Try.prog prims 23 [.ptr g 0] H fun u T => u = i6 ops.length ∧ T = H := by
  obtain ⟨r1, gc, gb, ko, kc, r2, kb, r3, h1, h2, h3⟩ := h
  refine v_enter hC [] (fun _ _ => kn_none rfl) Try.func23 rfl ok23 (Nat.le_of_ble_eq_true rfl) fun hcl hbl => ?_
  simp [h1, Try.results23]
  exact GV.refl ⟨rfl, rfl⟩
theorem BatV.lock {H : Hp} {g : Nat} {base docs : List Dc} {ops : List Oc} (h : BatV H g base docs ops) : BatV (lockV H) g base docs ops := by
  obtain ⟨r1, gc, gb, ko, kc, r2, kb, r3, h1, h2, h3⟩ := h
  exact ⟨false, gc, gb, ko, kc, false, kb, false, by simp [lockV, h1, Ob.lock], by simp [lockV, h2, Ob.lock], by simp [lockV, h3, Ob.lock]⟩
theorem BatV.app {H X : Hp} {g : Nat} {base docs : List Dc} {ops : List Oc} (h : BatV H g base docs ops) : BatV (H ++ X) g base docs ops := by
  obtain ⟨r1, gc, gb, ko, kc, r2, kb, r3, h1, h2, h3⟩ := h
  exact ⟨r1, gc, gb, ko, kc, r2, kb, r3, by rw [List.getElem?_append_left (get_lt h1), h1], by rw [List.getElem?_append_left (get_lt h2), h2], by rw [List.getElem?_append_left (get_lt h3), h3]⟩
theorem v_bTarget {H : Hp} {g : Nat} {base docs : List Dc} {ops : List Oc} (h : BatV H g base docs ops) (hd : okD docs) : VC Try.prog prims 26 [.ptr g 0] H fun u T => u = .ptr H.length 0 ∧ T = H ++ [.mem [DS true docs] true] := by
  obtain ⟨r1, gc, gb, ko, kc, r2, kb, r3, h1, h2, h3⟩ := h
  refine v_enter hC [] (fun _ _ => kn_none rfl) Try.func26 rfl ok26 (Nat.le_of_ble_eq_true rfl) fun hcl hbl => ?_
  simp [h1]
  refine CALLv.at (v_Copy h2 hd) fun u T hu => ?_
  obtain ⟨e1, e2⟩ := hu
  subst e1; subst e2
  simp [Try.results26]
  exact GV.refl ⟨rfl, rfl⟩
theorem v_bBase {H : Hp} {g : Nat} {base docs : List Dc} {ops : List Oc} (h : BatV H g base docs ops) (hd : okD base) : VC Try.prog prims 27 [.ptr g 0] H fun u T => u = .ptr H.length 0 ∧ T = H ++ [.mem [DS true base] true] := by
  obtain ⟨r1, gc, gb, ko, kc, r2, kb, r3, h1, h2, h3⟩ := h
  refine v_enter hC [] (fun _ _ => kn_none rfl) Try.func27 rfl ok27 (Nat.le_of_ble_eq_true rfl) fun hcl hbl => ?_
  simp [h1]
  refine CALLv.at (v_Copy h3 hd) fun u T hu => ?_
  obtain ⟨e1, e2⟩ := hu
  subst e1; subst e2
  simp [Try.results27]
  exact GV.refl ⟨rfl, rfl⟩
theorem CALLv.rd {S : Hp → Prop} {q : Bool} {f : FuncId} {args : List V} {v : V} {H : Hp} {k : KVV} (hl : S H → S (lockV H)) (h : ∀ H, S H → VC Try.prog prims f args H fun u T => u = v ∧ T = H) (hS : S H) (hk : k.run v H) : @CALLv Try.prog prims q f args H k := by
  refine ⟨H, .refl, ?_⟩
  cases q with
  | false => exact (h H hS).mono fun u T ⟨e1, e2⟩ => by subst e2; subst e1; exact hk
  | true => exact (h (lockV H) (hl hS)).mono fun u T ⟨e1, e2⟩ => by subst e2; subst e1; exact ⟨[], by simp, by simp, by simpa using hk⟩
/-- What a call answers at every heap that holds the batch. -/
def RdB (f : FuncId) (g : Nat) (base docs : List Dc) (ops : List Oc) (v : V) : Prop := ∀ H, BatV H g base docs ops → VC Try.prog prims f [.ptr g 0] H fun u T => u = v ∧ T = H
theorem RdB.call {q : Bool} {f : FuncId} {g : Nat} {base docs : List Dc} {ops : List Oc} {v : V} {H : Hp} {k : KVV} (h : RdB f g base docs ops v) (hS : BatV H g base docs ops) (hk : k.run v H) : @CALLv Try.prog prims q f [.ptr g 0] H k := CALLv.rd (S := fun H => BatV H g base docs ops) BatV.lock h hS hk
theorem v_bOps {g : Nat} {base docs : List Dc} {ops : List Oc} (hl : ops.length ≤ 64) (hb : ∀ o ∈ ops, o.b.length ≤ 100000) : RdB 24 g base docs ops (OS true ops) := by
  intro H h
  have h' := h
  obtain ⟨r1, gc, gb, ko, kc, r2, kb, r3, h1, h2, h3⟩ := h
  refine v_enter hC [] (fun _ _ => kn_none rfl) Try.func24 rfl ok24 (Nat.le_of_ble_eq_true rfl) fun hcl hbl => ?_
  simp
  refine CALLv.at (v_bLen h') fun u T hu => ?_
  obtain ⟨e1, e2⟩ := hu
  subst e1; subst e2
  have hgT := get_lt h1
  simp
  refine v_loopX hC (fun (k : Nat) e U => ∃ w t, U = T ++ [.vec w ((ops.take k).map oc) 3 true t] ∧ e 0 = .ptr g 0 ∧ e 3 = .own T.length w ∧ e 6 = i6 ops.length ∧ e 7 = i6 k ∧ k ≤ ops.length) (fun k => ops.length - k) 0 ?_ ?_
  · refine G.nilT0 (s := 3) 3 hcl (Nat.le_refl _) (by omega) (by simp) ?_
    exact ⟨0, true, by simp [hgT], by simp [hgT], by simp [hgT], by simp, by simp, by simp⟩
  · rintro k e U ⟨w, t, rfl, h0, h3', h6, h7, hk⟩
    have hgX : ∀ X, (T ++ X)[g]? = some (.mem [.ptr gc 0, .ptr gb 0, OS ko ops] r1) := fun X => by rw [List.getElem?_append_left (get_lt h1), h1]
    simp [h6, h7]
    refine CondV.dec (fun hlt => ?_) (fun hge => ?_)
    · have hlt : k < ops.length := by omega
      have hbk := hb (oAt ops k) (by rw [oAt_eq ops k hlt]; exact List.getElem_mem hlt)
      simp [h0, h3', h6, h7, hgT, hgX, getO hlt, h1]
      refine (v_copied (kk := true) (o := oAt ops k) hbk).call ?_
      simp [h6, h7, w64 (n := (k : Int) + 1) (by omega)]
      have htk : (ops.take (k + 1)).map oc = List.take k (List.map oc ops) ++ [oc (oAt ops k)] := by
        rw [List.take_succ_eq_append_getElem hlt, oAt_eq ops k hlt, List.map_append, List.map_take]; rfl
      refine ⟨by omega, GH.refl ⟨k + 1, ⟨w + 1, t, ?_, ?_, ?_, ?_, ?_, hlt⟩, by omega⟩⟩
      · rw [htk]; rfl
      · simp [h0]
      · simp
      · simp [h6]
      · simp
    · have ht : ops.take k = ops := List.take_of_length_le (by omega)
      have ht2 : (ops.map oc).take k = ops.map oc := by rw [← List.map_take, ht]
      simp [h3', Try.results24]
      first | (refine GV.ans hcl ?_; simp [ht2]; done) | (refine GV.ans0 ?_; simp [ht2]; done)
end Go.Proofs.Ytldhfdagmaklaaa.VM
end
section
set_option maxHeartbeats 8000000
set_option linter.unusedVariables false
set_option linter.unusedSimpArgs false

/- batch: Bytes, New. -/
namespace Go.Proofs.Ytldhfdagmaklaaa.VM
open Go Go.Proofs AM B
set_option maxRecDepth 100000
/-- All records. -/
def recs (l : List Oc) : List Int := l.flatMap recO
theorem recO_len {o : Oc} (hz : ochk o = 0) : (recO o).length ≤ 1104 := by
  have := plainO_len hz
  unfold recO markB
  simp [low4]
  omega
theorem recs_take (l : List Oc) (k : Nat) (h : k < l.length) : recs (l.take (k + 1)) = recs (l.take k) ++ recO (oAt l k) := by
  unfold recs
  rw [List.take_succ_eq_append_getElem h, List.flatMap_append, oAt_eq l k h]; simp
theorem recs_len {l : List Oc} (h : ∀ o ∈ l, ochk o = 0) : (recs l).length ≤ 1104 * l.length := by
  induction l with
  | nil => simp [recs]
  | cons a l ih =>
    have h1 := recO_len (h a (by simp))
    have h2 := ih fun b hb => h b (by simp [hb])
    unfold recs at h2 ⊢
    rw [List.flatMap_cons, List.length_append, List.length_cons, Nat.mul_add]
    omega
theorem v_bBytes {g : Nat} {base docs : List Dc} {ops : List Oc} (hl : ops.length ≤ 64) (hz : ∀ o ∈ ops, ochk o = 0) (hb : ∀ o ∈ ops, okO o) : RdB 25 g base docs ops (BS true (recs ops)) := by
  intro T h
  refine v_enter hC [] (fun _ _ => kn_none rfl) Try.func25 rfl ok25 (Nat.le_of_ble_eq_true rfl) fun hcl hbl => ?_
  simp
  refine (v_bOps hl (fun o ho => by have := ochk_id (hz o ho); omega)).call h ?_
  simp
  refine v_loopX hC (fun (k : Nat) e U => ∃ w t, U = T ++ [.vec w ((recs (ops.take k)).map bc) 1 true t] ∧ e 3 = .own T.length w ∧ e 9 = OS true ops ∧ e 10 = i6 ops.length ∧ e 11 = i6 k ∧ k ≤ ops.length) (fun k => ops.length - k) 0 ?_ ?_
  · refine G.nilT0 (s := 1) 3 hcl (Nat.le_refl _) (by omega) (by simp) ?_
    exact ⟨0, true, by simp [recs], by simp, by simp, by simp, by simp, by simp⟩
  · rintro k e U ⟨w, t, rfl, h3, h9, h10, h11, hk⟩
    simp [h10, h11]
    refine CondV.dec (fun hlt => ?_) (fun hge => ?_)
    · have hlt : k < ops.length := by omega
      have hmem : oAt ops k ∈ ops := by rw [oAt_eq ops k hlt]; exact List.getElem_mem hlt
      simp [h9, h11, getO hlt]
      refine (v_Record (hz _ hmem) (hb _ hmem)).call ?_
      have hlr := recs_len (l := ops.take k) fun o ho => hz o (List.mem_of_mem_take ho)
      have hlo := recO_len (hz _ hmem)
      have hmin : (ops.take k).length ≤ 64 := by rw [List.length_take]; omega
      have hlr2 : (recs (ops.take k)).length ≤ 70656 := by omega
      simp [h3, h10, h11, w64 (n := (k : Int) + 1) (by omega)]
      refine ⟨by omega, GH.of (G.clip (Z := [_]) (X := [_]) (Z' := [.vec (w + 1) ((recs (ops.take (k + 1))).map bc) 1 true t]) hcl (by simp) (by simp [recs_take ops k hlt]; exact UpR.self (show PureR _ by simp)) ⟨k + 1, ⟨w + 1, t, rfl, ?_, ?_, ?_, ?_, hlt⟩, by omega⟩)⟩
      · simp
      · simp [h9]
      · simp [h10]
      · simp
    · have ht : ops.take k = ops := List.take_of_length_le (by omega)
      rw [ht]
      simp [h3, Try.results25]
      first | (refine GV.ans hcl ?_; simp []; done) | (refine GV.ans0 ?_; simp []; done)
/-- A new batch's objects. -/
def batO (n : Nat) (k : Bool) (base docs : List Dc) (ops : List Oc) : Hp := [.mem [.ptr (n + 1) 0, .ptr (n + 2) 0, OS true ops] true, .mem [DS k docs] true, .mem [DS true base] true]
theorem GV.keep3 {H : Hp} {x : V} {R : V → Hp → Prop} {X : Hp} (g1 g2 g3 : Nat) (y1 y2 y3 : Ob) (v : V) (hcl : Cl H) (hne : g1 ≠ g2 ∧ g1 ≠ g3 ∧ g2 ≠ g3) (hg1 : ∃ z, (H ++ X)[g1]? = some z ∧ H.length ≤ g1 ∧ UpO H.length [g1, g2, g3] [] (H ++ X) y1 z) (hg2 : ∃ z, (H ++ X)[g2]? = some z ∧ H.length ≤ g2 ∧ UpO H.length [g1, g2, g3] [] (H ++ X) y2 z)
    (hg3 : ∃ z, (H ++ X)[g3]? = some z ∧ H.length ≤ g3 ∧ UpO H.length [g1, g2, g3] [] (H ++ X) y3 z) (hup : Up H.length [g1, g2, g3] [] (H ++ X) v x) (h : R v (H ++ [y1, y2, y3])) : GV H.length R x (H ++ X) := fun K φ σ a hR hv => by
  obtain ⟨z1, hz1, hl1, hy1⟩ := hg1
  obtain ⟨z2, hz2, hl2, hy2⟩ := hg2
  obtain ⟨z3, hz3, hl3, hy3⟩ := hg3
  have k1 := get_lt hz1
  have k2 := get_lt hz2
  have k3 := get_lt hz3
  obtain ⟨K', φ', h1, h2, h3⟩ := ghostA (L := [g1, g2, g3]) (E := []) (H0 := H) (Z := []) (Z' := []) (X := X) (Y := [y1, y2, y3]) hR hcl (by simp) (by
      intro g hg
      simp only [List.mem_cons, List.not_mem_nil, or_false] at hg
      simp only [List.length_nil, Nat.add_zero, List.nil_append]
      rcases hg with rfl | rfl | rfl
      · exact ⟨hl1, k1⟩
      · exact ⟨hl2, k2⟩
      · exact ⟨hl3, k3⟩) (by simp) (by simp [hne]) rfl rfl (fun j g' x' y' hj hx hy => by
    have hj2 := get_lt hj
    simp at hj2
    rcases (show j = 0 ∨ j = 1 ∨ j = 2 by omega) with rfl | rfl | rfl
    · simp at hj hy
      subst hj; subst hy
      rw [hz1] at hx; cases hx
      exact hy1
    · simp at hj hy
      subst hj; subst hy
      rw [hz2] at hx; cases hx
      exact hy2
    · simp at hj hy
      subst hj; subst hy
      rw [hz3] at hx; cases hx
      exact hy3)
  simp only [List.map_nil, List.append_nil, List.length_nil, Nat.add_zero, List.nil_append] at h1 h2 h3
  exact ⟨K', φ', v, H ++ [y1, y2, y3], h1, h2, h3 hup hv, h⟩
theorem v_bNew {H : Hp} {g : Nat} {k ra : Bool} {l : List Dc} (hg : H[g]? = some (.mem [DS k l] ra)) (hl : okD l) :
    VC Try.prog prims 14 [.ptr g 0] H fun u T => u = .tup [.ptr H.length 0, i6 0] ∧ T = H ++ batO H.length true l l [] := by
  refine v_enter hC [] (fun _ _ => kn_none rfl) Try.func14 rfl ok14 (Nat.le_of_ble_eq_true rfl) fun hcl hbl => ?_
  have hgl := get_lt hg
  have hgX : ∀ X, (H ++ X)[g]? = some (.mem [DS k l] ra) := fun X => by rw [List.getElem?_append_left hgl, hg]
  simp
  refine CALLv.at (v_Copy hg hl) fun u T hu => ?_
  obtain ⟨e1, e2⟩ := hu
  subst e1; subst e2
  simp
  refine CALLv.at (v_Copy (hgX _) hl) fun u T hu => ?_
  obtain ⟨e1, e2⟩ := hu
  subst e1; subst e2
  simp [Try.results14]
  refine GV.keep3 (H.length + 2) H.length (H.length + 1) (.mem [.ptr (H.length + 1) 0, .ptr (H.length + 2) 0, OS true []] true) (.mem [DS true l] true) (.mem [DS true l] true) (.tup [.ptr H.length 0, i6 0]) hcl ⟨by omega, by omega, by omega⟩ ⟨_, by simp; rfl, by omega, ?_⟩ ⟨_, by simp; rfl, by omega, ?_⟩ ⟨_, by simp; rfl, by omega, ?_⟩ ?_ ⟨rfl, rfl⟩
  · simp
  · simp
  · simp
  · simp
end Go.Proofs.Ytldhfdagmaklaaa.VM
end
section
set_option maxHeartbeats 8000000
set_option linter.unusedVariables false
set_option linter.unusedSimpArgs false

/- batch: Do. -/
namespace Go.Proofs.Ytldhfdagmaklaaa.VM
open Go Go.Proofs AM B
set_option maxRecDepth 100000
theorem GV.down {n m : Nat} {R : V → Hp → Prop} {v : V} {H : Hp} (h : GV m R v H) (hm : n ≤ m) : GV n R v H := fun K φ σ a hR hv => by
  obtain ⟨K', φ', v', H', h1, h2, h3, h4⟩ := h K φ σ a hR hv
  exact ⟨K', φ', v', H', h1.weaken hm, h2, h3, h4⟩
theorem CALLv.rdK {S : Hp → Prop} {q : Bool} {f : FuncId} {args : List V} {v : Nat → V} {y : Ob} {H : Hp} {k : KVV} (hy : y.rwOk = true) (hl : S H → S (lockV H)) (h : ∀ H, S H → VC Try.prog prims f args H fun u T => u = v H.length ∧ T = H ++ [y]) (hS : S H) (hk : k.run (v H.length) (H ++ [y])) : @CALLv Try.prog prims q f args H k := by
  refine ⟨H, .refl, ?_⟩
  cases q with
  | false => exact (h H hS).mono fun u T ⟨e1, e2⟩ => by subst e2; subst e1; exact hk
  | true =>
    refine (h (lockV H) (hl hS)).mono fun u T hu => ?_
    obtain ⟨e1, e2⟩ := hu
    subst e2; subst e1
    have hlen : (lockV H).length = H.length := by simp [lockV]
    exact ⟨[y], rfl, by simpa using hy, by rw [hlen]; exact hk⟩
/-- Documents behind operations on a batch of n; the error. -/
def doL : List Dc → Nat → List Oc → List Dc × Int
  | docs, _, [] => (docs, 0)
  | docs, n, o :: os => if ochk o ≠ 0 then (docs, ochk o) else if n = 64 then (docs, 2) else if (oneD docs o 0).2 ≠ 0 then (docs, (oneD docs o 0).2) else doL (oneD docs o 0).1 (n + 1) os
theorem oneD_ok {l : List Dc} {o : Oc} (hl : okD l) {a : Int} (h : (oneD l o a).2 = 0) : okD (oneD l o a).1 := by
  unfold oneD at h ⊢
  split at h
  · rename_i h1; exact absurd h h1
  · rename_i h1
    rw [if_neg h1]
    split at h
    · cases h
    · rename_i h2
      rw [if_neg h2]
      split at h
      · rename_i h3
        rw [if_pos h3]
        split at h
        · rename_i h4
          rw [if_pos h4]
          exact delD_ok hl h4
        · cases h
      · rename_i h3
        rw [if_neg h3]
        split at h
        · rename_i h4
          rw [if_pos h4]
          exact putD_ok hl h4
        · rename_i h4; exact absurd h h4
theorem v_Do {H : Hp} {g gc gb : Nat} {ko kc kb kk r2 r3 : Bool} {base docs : List Dc} {ops l : List Oc} (h1 : H[g]? = some (.mem [.ptr gc 0, .ptr gb 0, OS ko ops] true)) (h2 : H[gc]? = some (.mem [DS kc docs] r2)) (h3 : H[gb]? = some (.mem [DS kb base] r3)) (hd : okD docs) (ho : ops.length ≤ 64) (hl : l.length < 2 ^ 40) (hb : ∀ o ∈ l, o.b.length ≤ 100000) :
    VC Try.prog prims 18 [.ptr g 0, OS kk l] H fun u T => u = i6 (doL docs ops.length l).2 ∧ ∃ k', T = if (doL docs ops.length l).2 = 0 then H.set g (.mem [.ptr H.length 0, .ptr gb 0, OS true (ops ++ l)] true) ++ [.mem [DS k' (doL docs ops.length l).1] true] else H := by
  refine v_enter hC [] (fun _ _ => kn_none rfl) Try.func18 rfl ok18 (Nat.le_of_ble_eq_true rfl) fun hcl hbl => ?_
  have k1 := get_lt h1
  have k2 := get_lt h2
  have k3 := get_lt h3
  simp
  refine v_draw (ord := [0, 1, 2, 3, 4, 5, 6, 7, 8, 9, 10, 11]) (m := 9) (by decide +kernel) (by decide +kernel) ?_
  simp [h1]
  refine CALLv.rdK (S := fun H => ∃ r, H[gc]? = some (.mem [DS kc docs] r)) (v := fun n => .ptr n 0) (y := .mem [DS true docs] true) rfl (fun ⟨r, h⟩ => ⟨false, by simp [lockV, h, Ob.lock]⟩) (fun H ⟨r, h⟩ => v_Copy h hd) ⟨r2, h2⟩ ?_
  have gX : ∀ X, (H ++ X)[g]? = some (.mem [.ptr gc 0, .ptr gb 0, OS ko ops] true) := fun X => by rw [List.getElem?_append_left k1, h1]
  simp [gX]
  refine (v_oClone (kk := ko) (by omega)).call fun w t => ?_
  simp
  have getL : ∀ {k : Nat} (h : k < l.length), l[k]? = some (oAt l k) := fun h => getO h
  refine v_loopX hC (fun (X : Nat × List Dc) e T => ∃ kd w t, T = H ++ [.mem [DS kd X.2] true, .vec w ((ops ++ l.take X.1).map oc) 3 true t] ∧ e 0 = .ptr g 0 ∧ e 5 = .ptr H.length 0 ∧ e 6 = .own (H.length + 1) w ∧ e 23 = OS kk l ∧ e 24 = i6 l.length ∧ e 25 = i6 X.1 ∧ X.1 ≤ l.length ∧ okD X.2 ∧ ops.length + X.1 ≤ 64 ∧ doL docs ops.length l = doL X.2 (ops.length + X.1) (l.drop X.1)) (fun X => l.length - X.1) (0, docs) (G.refl ?_) ?_
  · exact ⟨true, w, t, by simp, by simp, by simp, by simp, by simp, by simp, by simp, by simp, hd, by simpa using ho, by simp⟩
  · rintro ⟨j, acc⟩ e T ⟨kd, w, t, rfl, h0, h5, h6, h23, h24, h25, hj, hok, h64, hv⟩
    simp only at h25 hj hok h64 hv
    simp [h23, h24, h25]
    refine CondV.dec (fun hlt => ?_) (fun hge => ?_)
    · have hlt : j < l.length := by omega
      have hmem : oAt l j ∈ l := by rw [oAt_eq l j hlt]; exact List.getElem_mem hlt
      have hbj := hb _ hmem
      have hdrop : l.drop j = oAt l j :: l.drop (j + 1) := by rw [oAt_eq l j hlt]; exact List.drop_eq_getElem_cons hlt
      rw [hdrop] at hv
      simp only [doL] at hv
      simp [h0, h5, h6, h23, h24, h25, getL hlt]
      refine (v_ocheck (kk := true) (o := oAt l j)).call ?_
      simp
      refine CondV.on (fun hz => ?_) (fun hz => ?_)
      · have hz : ochk (oAt l j) ≠ 0 := by simpa using hz
        rw [if_pos hz] at hv
        simp [Try.results18]
        exact GV.ret (X := [_, _, _]) (i6 (ochk (oAt l j))) hcl (by simp) ⟨by rw [hv], true, by rw [hv, if_neg hz]⟩
      · have hz : ochk (oAt l j) = 0 := by simpa using hz
        rw [if_neg (by simpa using hz)] at hv
        have hmin : min j l.length = j := by omega
        simp [h6, hmin]
        refine CondV.dec (fun hn => ?_) (fun hn => ?_)
        · rw [if_pos (by omega)] at hv
          simp [Try.results18]
          exact GV.ret (X := [_, _, _]) (i6 2) hcl (by simp) ⟨by rw [hv], true, by rw [hv]; simp⟩
        · rw [if_neg (by omega)] at hv
          simp [h5]
          refine CALLv.at (v_one (g := H.length) (k := kd) (l := acc) (o := oAt l j) (by simp) hok hz) fun u U hu => ?_
          obtain ⟨e1, k', e2⟩ := hu
          subst e1
          simp
          refine CondV.on (fun h1' => ?_) (fun h1' => ?_)
          · have hr : (oneD acc (oAt l j) 0).2 ≠ 0 := by simpa using h1'
            rw [if_neg hr] at e2
            subst e2
            rw [if_pos hr] at hv
            simp [Try.results18]
            exact GV.ret (X := [_, _, _]) (i6 (oneD acc (oAt l j) 0).2) hcl (by simp) ⟨by rw [hv], true, by rw [hv, if_neg hr]⟩
          · have hr : (oneD acc (oAt l j) 0).2 = 0 := by simpa using h1'
            rw [if_pos hr] at e2
            subst e2
            rw [if_neg (by simpa using hr)] at hv
            simp [h6]
            refine (v_copied (kk := true) (o := oAt l j) (by omega)).call ?_
            simp [h6, h25, hmin, w64 (n := (j : Int) + 1) (by omega)]
            have htk : List.map oc ops ++ (List.take j (List.map oc l) ++ [oc (oAt l j)]) = (ops ++ l.take (j + 1)).map oc := by
              rw [List.map_append, List.take_succ_eq_append_getElem hlt, oAt_eq l j hlt, List.map_append, List.map_take]; rfl
            refine ⟨by omega, GH.of (G.clip (Z := [_, _]) (X := [_]) (Z' := [.mem [DS k' (oneD acc (oAt l j) 0).1] true, .vec (w + 1) ((ops ++ l.take (j + 1)).map oc) 3 true t]) hcl (by simp) ?_ ⟨(j + 1, (oneD acc (oAt l j) 0).1), ⟨k', w + 1, t, rfl, ?_, ?_, ?_, ?_, ?_, ?_, hlt, oneD_ok hok hr, by simp only; omega, ?_⟩, by simp only; omega⟩)⟩
            · rw [← htk]
              simp
              refine ⟨fun r hr => ?_, ?_⟩
              · obtain ⟨x, _, rfl⟩ := List.mem_map.1 (List.mem_of_mem_take hr)
                exact ⟨rfl, rfl⟩
              · have hp : PureR ((ops ++ l.take (j + 1)).map oc) := PureR_map.2 fun a _ => by simp
                rw [← htk] at hp
                exact UpR.self hp
            · simp [h0]; omega
            · simp [h5]
            · simp
            · simp [h23]
            · simp [h24]
            · simp
            · rw [hv]; simp only; congr 1
    · have hv : doL docs ops.length l = (acc, 0) := by rw [hv, List.drop_of_length_le (by omega)]; rfl
      have ht : l.take j = l := List.take_of_length_le (by omega)
      have hst : ∀ X y, (H ++ X).set g y = H.set g y ++ X := fun X y => List.set_append_left _ _ k1
      have hsg : ∀ X y, (H.set g y ++ X)[g]? = some y := fun X y => by rw [List.getElem?_append_left (by simpa using k1), List.getElem?_set_self k1]
      have hs2 : ∀ X y z, (H.set g y ++ X).set g z = H.set g z ++ X := fun X y z => by rw [List.set_append_left _ _ (by simpa using k1), List.set_set]
      simp [h0, h5, h6, gX, ht, hst, hsg, hs2, Try.results18]
      have hm : List.take j (List.map oc l) = l.map oc := by rw [← List.map_take, ht]
      rw [hm]
      obtain ⟨y1, hy1⟩ : ∃ y1, Ob.mem [.ptr H.length 0, .ptr gb 0, .own (H.length + 1) w] true = y1 := ⟨_, rfl⟩
      have hf : Frz (H.set g y1 ++ [.mem [DS kd acc] true, .vec w (ops.map oc ++ l.map oc) 3 true t]) (H.set g (.mem [.ptr H.length 0, .ptr gb 0, OS true (ops ++ l)] true) ++ [.mem [DS kd acc] true, .fro w (ops.map oc ++ l.map oc) 3]) := by
        have hpu : PureR (ops.map oc ++ l.map oc) := by rw [← List.map_append]; exact PureR_map.2 fun a _ => by simp
        have f1 := Frz.vec (H := H.set g y1 ++ [.mem [DS kd acc] true, .vec w (ops.map oc ++ l.map oc) 3 true t]) (g := H.length + 1) (w := w) (s := 3) (rows := ops.map oc ++ l.map oc) (rw := true) (t := t) (by simp) hpu
        have e1 : (H.set g y1 ++ [.mem [DS kd acc] true, Ob.vec w (ops.map oc ++ l.map oc) 3 true t]).set (H.length + 1) (.fro w (ops.map oc ++ l.map oc) 3) = H.set g y1 ++ [.mem [DS kd acc] true, .fro w (ops.map oc ++ l.map oc) 3] := by
          rw [List.set_append_right _ _ (by simp)]; simp
        rw [e1] at f1
        have f2 := Frz.cell (H := H.set g y1 ++ [.mem [DS kd acc] true, .fro w (ops.map oc ++ l.map oc) 3]) (g := g) (cs := [.ptr H.length 0, .ptr gb 0, .own (H.length + 1) w]) (cs' := [.ptr H.length 0, .ptr gb 0, OS true (ops ++ l)]) (rw := true) (by rw [hsg, hy1]) (by simp [UpFz, PureR_map]; omega)
        rw [hs2] at f2
        exact f1.trans f2
      rw [hy1]
      refine GV.frz (by simp) hf ?_
      refine GV.down (m := (H.set g (Ob.mem [.ptr H.length 0, .ptr gb 0, OS true (ops ++ l)] true) ++ [Ob.mem [DS kd acc] true]).length) ?_ (by simp)
      have hcl2 : Cl (H.set g (.mem [.ptr H.length 0, .ptr gb 0, OS true (ops ++ l)] true) ++ [Ob.mem [DS kd acc] true]) := by
        intro o ho
        have hlen : (H.set g (Ob.mem [.ptr H.length 0, .ptr gb 0, OS true (ops ++ l)] true) ++ [Ob.mem [DS kd acc] true]).length = H.length + 1 := by simp
        rw [hlen]
        rcases List.mem_append.1 ho with ho | ho
        · rcases List.mem_or_eq_of_mem_set ho with ho | rfl
          · exact (hcl o ho).mono (by omega)
          · simp [Ob.bel, Bels, Bel]; omega
        · simp at ho; subst ho
          simp [Ob.bel, Bels, Bel]
      have hr := GV.ret (H := H.set g (.mem [.ptr H.length 0, .ptr gb 0, OS true (ops ++ l)] true) ++ [.mem [DS kd acc] true]) (X := [.fro w (ops.map oc ++ l.map oc) 3]) (x := i6 0) (R := fun u T => u = i6 (doL docs ops.length l).2 ∧ ∃ k', T = if (doL docs ops.length l).2 = 0 then H.set g (.mem [.ptr H.length 0, .ptr gb 0, OS true (ops ++ l)] true) ++ [.mem [DS k' (doL docs ops.length l).1] true] else H) (i6 0) hcl2 (by simp) ⟨by rw [hv], kd, by rw [hv]; simp⟩
      simpa using hr
end Go.Proofs.Ytldhfdagmaklaaa.VM
end
section
set_option maxHeartbeats 8000000
set_option linter.unusedVariables false
set_option linter.unusedSimpArgs false

/- batch: Prefix. -/
namespace Go.Proofs.Ytldhfdagmaklaaa.VM
open Go Go.Proofs AM B
set_option maxRecDepth 100000
theorem v_Prefix_bad {H : Hp} {g : Nat} {base docs : List Dc} {ops : List Oc} {n : Int} (h : BatV H g base docs ops) (hn : n < 0 ∨ (ops.length : Int) < n) : VC Try.prog prims 20 [.ptr g 0, i6 n] H fun u T => u = .tup [.lit (.pointer none), i6 10] ∧ T = H := by
  obtain ⟨r1, gc, gb, ko, kc, r2, kb, r3, h1, h2, h3⟩ := h
  refine v_enter hC [] (fun _ _ => kn_none rfl) Try.func20 rfl ok20 (Nat.le_of_ble_eq_true rfl) fun hcl hbl => ?_
  by_cases h0 : n < 0
  · simp [h0, Try.results20]
    exact GV.refl ⟨rfl, rfl⟩
  · have h4 : (ops.length : Int) < n := by omega
    simp [h0, h1, h4, Try.results20]
    exact GV.refl ⟨rfl, rfl⟩
theorem v_Prefix {H : Hp} {g n : Nat} {base docs : List Dc} {ops : List Oc} (h : BatV H g base docs ops) (hn : n ≤ ops.length) (ho : ops.length ≤ 64) (hok : okD base) (hb : ∀ o ∈ ops, o.b.length ≤ 100000) (hz : (doL base 0 (ops.take n)).2 = 0) :
    VC Try.prog prims 20 [.ptr g 0, i6 n] H fun u T => u = .tup [.ptr H.length 0, i6 0] ∧ ∃ k', T = H ++ batO H.length k' base (doL base 0 (ops.take n)).1 (ops.take n) := by
  obtain ⟨r1, gc, gb, ko, kc, r2, kb, r3, h1, h2, h3⟩ := h
  refine v_enter hC [] (fun _ _ => kn_none rfl) Try.func20 rfl ok20 (Nat.le_of_ble_eq_true rfl) fun hcl hbl => ?_
  have k1 := get_lt h1
  have gX : ∀ X, (H ++ X)[g]? = some (.mem [.ptr gc 0, .ptr gb 0, OS ko ops] r1) := fun X => by rw [List.getElem?_append_left k1, h1]
  simp [h1, show ¬ (n : Int) < 0 by omega, show ¬ (ops.length : Int) < n by omega]
  refine CALLv.at (v_bNew h3 hok) fun u T hu => ?_
  obtain ⟨e1, e2⟩ := hu
  subst e1; subst e2
  have hbd : bounds ops.length ops.length none (some (n : Int)) none = some (0, n, ops.length) := bounds_hi hn
  simp [gX, batO, hbd]
  rw [← List.map_take]
  refine CALLv.at (v_Do (g := H.length) (gc := H.length + 1) (gb := H.length + 2) (ko := true) (kc := true) (kb := true) (kk := ko) (r2 := true) (r3 := true) (base := base) (docs := base) (ops := []) (l := ops.take n) (by simp) (by simp) (by simp) hok (by simp) (by rw [List.length_take]; omega) (fun o ho => hb o (List.mem_of_mem_take ho))) fun u T hu => ?_
  obtain ⟨e1, k', e2⟩ := hu
  simp only [List.length_nil] at e1 e2
  rw [if_pos hz] at e2
  subst e1; subst e2
  rw [hz]
  simp [Try.results20]
  refine GV.keep3 H.length (H.length + 3) (H.length + 2) (.mem [.ptr (H.length + 1) 0, .ptr (H.length + 2) 0, OS true (ops.take n)] true) (.mem [DS k' (doL base 0 (ops.take n)).1] true) (.mem [DS true base] true) (.tup [.ptr H.length 0, i6 0]) hcl ⟨by omega, by omega, by omega⟩ ⟨_, by simp; rfl, by omega, ?_⟩ ⟨_, by simp; rfl, by omega, ?_⟩ ⟨_, by simp; rfl, by omega, ?_⟩ ?_ ⟨rfl, k', rfl⟩
  · simp
  · simp
  · simp
  · simp
end Go.Proofs.Ytldhfdagmaklaaa.VM
end
section
set_option maxHeartbeats 8000000
set_option linter.unusedVariables false
set_option linter.unusedSimpArgs false

/- batch's law: corpus.New, Base. -/
namespace Go.Proofs.Ytldhfdagmaklaaa.VM
open Go Go.Proofs AM B
set_option maxRecDepth 100000
theorem okD_nil : okD [] := ⟨fun i h1 h2 => by simp at h2, by simp, by simp⟩
theorem v_cNew {H : Hp} {kk : Bool} {ds : List Dc} (hn : ds.length < 2 ^ 48) (hd : ∀ d ∈ ds, d.b.length < 2 ^ 60) :
    VC Try.prog prims 40 [DS kk ds] H fun u T => if (addL [] ds).2 = 0 then u = .tup [.ptr H.length 0, i6 0] ∧ ∃ k', T = H ++ [.mem [DS k' (addL [] ds).1] true] else u = .tup [.lit (.pointer none), i6 (addL [] ds).2] ∧ T = H := by
  refine v_enter hC [] (fun _ _ => kn_none rfl) Try.func40 rfl ok40 (Nat.le_of_ble_eq_true rfl) fun hcl hbl => ?_
  simp
  refine CALLv.atF (Frz.nil (g := H.length) (s := 2) (rw := true) (by simp) (by omega)) (v_Add (g := H.length) (k := true) (kk := kk) (l := []) (ds := ds) (by simp) okD_nil hn hd) fun u T hu => ?_
  obtain ⟨e1, k', e2⟩ := hu
  subst e1
  by_cases hz : (addL [] ds).2 = 0
  · rw [if_pos hz] at e2
    have e2 : T = H ++ [.mem [DS k' (addL [] ds).1] true] := by rw [e2]; simp
    subst e2
    simp [hz, Try.results40]
    exact GV.keep (X := [_]) H.length (.mem [DS k' (addL [] ds).1] true) (.tup [.ptr H.length 0, i6 0]) hcl ⟨_, List.getElem?_concat_length .., Nat.le_refl _, by simp⟩ (by simp) (by simp only [if_pos hz]; exact ⟨trivial, k', rfl⟩)
  · rw [if_neg hz] at e2
    have e2 : T = H ++ [.mem [DS true []] true] := by rw [e2]; simp
    subst e2
    simp [hz, Try.results40]
    exact GV.ret (X := [_]) (.tup [.lit (.pointer none), i6 (addL [] ds).2]) hcl (by simp) (by simp only [if_neg hz]; exact ⟨trivial, trivial⟩)
end Go.Proofs.Ytldhfdagmaklaaa.VM
end
section
set_option maxHeartbeats 8000000
set_option linter.unusedVariables false
set_option linter.unusedSimpArgs false

/- Law CorpusPlays. -/
namespace Go.Proofs.Ytldhfdagmaklaaa.VM
open Go Go.Proofs AM B
set_option maxRecDepth 100000
/-- Documents dropped, one after the other, and what is wrong. -/
def dropR : List Dc → List Dc → List Dc × Int
  | l, [] => (l, 0)
  | l, d :: ds => if isD l d.id = true then dropR (delD l d.id) ds else (l, 7)
theorem dropL_R : ∀ {ds l : List Dc}, dropL l (idsD ds) = if (dropR l ds).2 = 0 then some (dropR l ds).1 else none
  | [], l => by simp [dropL, dropR, idsD]
  | d :: ds, l => by
    unfold idsD
    rw [List.map_cons]
    unfold dropL dropR
    split
    · exact dropL_R (ds := ds)
    · simp
theorem dropR_7 : ∀ {ds l : List Dc}, (dropR l ds).2 = 0 ∨ (dropR l ds).2 = 7
  | [], l => .inl rfl
  | d :: ds, l => by
    unfold dropR
    split
    · exact dropR_7 (ds := ds)
    · exact .inr rfl
/-- One turn. -/
def runL (op : Bool) (l ds : List Dc) : List Dc × Int := if op = true then addL l ds else dropR l ds
theorem runL_nil {op : Bool} {l : List Dc} : runL op l [] = (l, 0) := by cases op <;> rfl
def byD (d : Dc) : Prop := ∀ x ∈ d.b, 0 ≤ x ∧ x ≤ 255
theorem putD_good {l : List Dc} {d : Dc} (h : gooD l) (hz : putE l d = 0) (hd : byD d) : gooD (putD l d) := by
  obtain ⟨h1, h2, h3, h4⟩ := putE_zero hz
  refine ⟨putD_ok h.1 hz, fun x hx => ?_⟩
  rcases mem_putD.1 hx with rfl | hx
  · exact ⟨⟨h1.1, h1.2.1⟩, hd⟩
  · exact h.2 x hx
theorem delD_good {l : List Dc} {id : Int} (h : gooD l) (hi : isD l id = true) : gooD (delD l id) := ⟨delD_ok h.1 hi, fun x hx => h.2 x (delD_mem hx)⟩
/-- Turns. -/
@[simp] def TS (kk : Bool) (ts : List (Int × Bool × List (Bool × Dc))) : V := .fsl kk 2 (ts.map fun p => [i6 p.1, DSf p.2.1 p.2.2])
/-- A slot that is nil holds no rows. -/
theorem G.nilS {H : Hp} {Q : Ev → Hp → Prop} {m s : Nat} {e : Ev} {Z : Hp} (t : Tmp) (hcl : Cl H) (hm : m ≤ H.length + Z.length) (hs : s < 4294967296) (hZ : UpOs (H.length + Z.length) [] [] (H ++ Z) Z Z) (ht : e t = .lit (.slice none 0 0))
    (h : Q (vupd (VM.clip (H.length + Z.length) e) (some t) (.fsl true s [])) (H ++ Z)) : G m Q e (H ++ Z) := by
  have := G.mk (Q := Q) (m := m) (e := e) (H0 := H) (Z := Z) (Z' := Z) (X := []) [] (vupd (VM.clip (H.length + Z.length) e) (some t) (.fsl true s [])) hcl hm (by simp) (by simpa using hZ) (fun j => by
    show Up _ _ _ _ (if j = t then V.fsl true s [] else VM.clip _ e j) (e j)
    by_cases hj : j = t
    · subst hj; rw [if_pos rfl, ht]; exact .inr (.inl ⟨rfl, rfl, hs⟩)
    · rw [if_neg hj]; exact clip_up j) (by simpa using h)
  simpa using this
theorem bytesD_max {l : List Dc} (hl : gooD l) : (bytesD l).length < 2 ^ 62 := by
  have hlen := hl.1.2.1
  have htl : (txtD l).length ≤ 64 := by rw [txtD_len]; exact hlen
  have htb : ∀ b ∈ txtD l, b.length ≤ 1024 := fun b hb => by obtain ⟨d, hd, rfl⟩ := List.mem_map.1 hb; exact hl.1.2.2 d hd
  have h2 : (textB (txtD l)).length ≤ 100000 := by
    have h := textB_len htb
    calc _ ≤ (1024 + 10) * (txtD l).length := h
      _ ≤ (1024 + 10) * 64 := Nat.mul_le_mul_left _ htl
      _ ≤ _ := by omega
  have := venc_length (idsD l).length
  have := vencs_length (idsD l)
  have : (idsD l).length ≤ 64 := by rw [idsD_len]; exact hlen
  unfold bytesD listB; rw [List.length_append, List.length_append]; omega
end Go.Proofs.Ytldhfdagmaklaaa.VM
end
section
set_option maxHeartbeats 8000000
set_option linter.unusedVariables false
set_option linter.unusedSimpArgs false

/- batch's law: Base. -/
namespace Go.Proofs.Ytldhfdagmaklaaa.VM
open Go Go.Proofs AM B
set_option maxRecDepth 100000
theorem CALLv.atU {H : Hp} {f : FuncId} {args args' : List V} {R : V → Hp → Prop} {k : KVV} (ha : Ups H.length [] [] H args' args) (h : VC Try.prog prims f args' H R) (hk : ∀ v T, R v T → k.run v T) : @CALLv Try.prog prims false f args H k := ⟨H, .refl, VC.up ha (h.mono hk)⟩
theorem addL_step {m : List Dc} {d : Dc} {ds : List Dc} (h : (addL m (d :: ds)).2 = 0) : putE m d = 0 ∧ addL m (d :: ds) = addL (putD m d) ds := by
  simp only [addL] at h ⊢
  by_cases hz : putE m d = 0
  · rw [if_pos hz]; exact ⟨hz, rfl⟩
  · rw [if_neg hz] at h; exact absurd h hz
/-- The base's documents. -/
def baseD (ds : List Dc) : List Dc := if (addL [] ds).2 = 0 then (addL [] ds).1 else []
theorem v_Base {H : Hp} {kk : Bool} {l : List (Bool × Dc)} (hl : l.length < 2 ^ 63) (hb : ∀ p ∈ l, p.2.b.length < 2 ^ 63) :
    VC Try.prog prims 13 [DSf kk l] H fun u T => ∃ k' km, u = .tup [.ptr H.length 0, DS km (baseD ((l.take 3).map fun p => cutD p.2))] ∧ T = H ++ [.mem [DS k' (baseD ((l.take 3).map fun p => cutD p.2))] true] := by
  refine v_enter hC [] (fun _ _ => kn_none rfl) Try.func13 rfl ok13 (Nat.le_of_ble_eq_true rfl) fun hcl hbl => ?_
  simp
  refine (v_dTo (kk := kk) hl hb).callU [DSf kk l] (by simp) ?_
  obtain ⟨ds, hds⟩ : ∃ ds, ((l.take 3).map fun p => cutD p.2) = ds := ⟨_, rfl⟩
  have hn : ds.length ≤ 3 := by rw [← hds]; simp; omega
  have hd : ∀ d ∈ ds, d.b.length ≤ 1100 := by
    intro d hd
    rw [← hds] at hd
    obtain ⟨p, _, rfl⟩ := List.mem_map.1 hd
    simp [cutD]; omega
  rw [hds]
  simp
  refine CALLv.at (v_cNew (kk := true) (ds := ds) (by omega) (fun d h => by have := hd d h; omega)) fun u T hu => ?_
  by_cases hz : (addL [] ds).2 = 0
  · rw [if_pos hz] at hu
    obtain ⟨e1, k', e2⟩ := hu
    subst e1; subst e2
    have hv : baseD ds = (addL [] ds).1 := by unfold baseD; rw [if_pos hz]
    rw [hv]
    simp
    refine (v_dTo (kk := kk) hl hb).callU [DSf kk l] (by simp) ?_
    rw [hds]
    simp
    refine (v_dOf (kk := true) (l := ds) (by omega)).call ?_
    simp
    refine v_loopX hC (fun (X : Nat × List Dc) e T => T = H ++ [.mem [DS k' (addL [] ds).1] true] ∧ e 4 = .ptr H.length 0 ∧ (∃ km, e 6 = DS km X.2) ∧ e 7 = DS true ds ∧ e 8 = i6 X.1 ∧ X.1 ≤ ds.length ∧ okD X.2 ∧ addL [] ds = addL X.2 (ds.drop X.1)) (fun X => ds.length - X.1) (0, []) ?_ ?_
    · refine G.nilS (H := H) (Z := [.mem [DS k' (addL [] ds).1] true]) (s := 2) 6 hcl (by simp) (by omega) (by simp) (by simp) ?_
      exact ⟨rfl, by simp, ⟨true, by simp⟩, by simp, by simp, by simp, okD_nil, by simp⟩
    · rintro ⟨j, m⟩ e T ⟨rfl, h4, ⟨km, h6⟩, h7, h8, hj, hok, hv2⟩
      simp only at h6 h8 hj hok hv2
      simp [h7, h8]
      refine CondV.dec (fun hlt => ?_) (fun hge => ?_)
      · have hlt : j < ds.length := by omega
        have hdrop : ds.drop j = docAt ds j :: ds.drop (j + 1) := by rw [docAt_eq ds j hlt]; exact List.drop_eq_getElem_cons hlt
        have hbj := hd _ (List.getElem_mem hlt)
        rw [← docAt_eq ds j hlt] at hbj
        rw [hdrop] at hv2
        obtain ⟨hp, hs⟩ := addL_step (m := m) (d := docAt ds j) (ds := ds.drop (j + 1)) (by rw [← hv2]; exact hz)
        simp [h6, h7, h8, getD_ hlt]
        refine (v_rAdd (kk := km) (l := m) (d := docAt ds j) hok (by omega)).call ?_
        simp [hp, h8, w64 (n := (j : Int) + 1) (by omega)]
        refine GH.refl ⟨(j + 1, putD m (docAt ds j)), ⟨rfl, ?_, ⟨true, ?_⟩, ?_, ?_, hlt, putD_ok hok hp, by rw [hv2, hs]⟩, by simp only; omega⟩
        · simp [h4]
        · simp
        · simp [h7]
        · simp
      · have hv3 : addL [] ds = (m, 0) := by rw [hv2, List.drop_of_length_le (by omega)]; rfl
        simp [h4, h6, Try.results13]
        exact GV.refl ⟨k', km, by rw [hv3]; rfl, rfl⟩
  · rw [if_neg hz] at hu
    obtain ⟨e1, e2⟩ := hu
    subst e1; subst e2
    have hv : baseD ds = [] := by unfold baseD; rw [if_neg hz]
    rw [hv]
    simp [hz]
    refine CALLv.atU (args' := [DS true []]) (by simp) (v_cNew (kk := true) (ds := []) (by simp) (by simp)) fun u U hu => ?_
    simp only [addL, if_true] at hu
    obtain ⟨e1, k', e2⟩ := hu
    subst e1; subst e2
    simp [Try.results13]
    exact GV.keep (X := [_]) T.length (.mem [DS k' []] true) (.tup [.ptr T.length 0, DS true []]) hcl ⟨_, List.getElem?_concat_length .., Nat.le_refl _, by simp⟩ (by simp) ⟨k', true, rfl, rfl⟩
end Go.Proofs.Ytldhfdagmaklaaa.VM
end
section
set_option maxHeartbeats 8000000
set_option linter.unusedVariables false
set_option linter.unusedSimpArgs false

/- batch's law: plain words; tells. -/
namespace Go.Proofs.Ytldhfdagmaklaaa.VM
open Go Go.Proofs AM B
set_option maxRecDepth 100000
theorem ok4 : okFn Try.f4 = true := by kernel_rfl
theorem ok6 : okFn Try.f6 = true := by kernel_rfl
theorem oneD_lt {l : List Dc} {o : Oc} {a : Int} (h : a < 64) : oneD l o a = oneD l o 0 := by
  unfold oneD
  rw [if_neg (show ¬ (64 : Int) ≤ a by omega), if_neg (show ¬ (64 : Int) ≤ 0 by omega)]
theorem oneD_chk {l : List Dc} {o : Oc} {a : Int} (h : (oneD l o a).2 = 0) : ochk o = 0 := by
  by_cases hz : ochk o ≠ 0
  · unfold oneD at h
    rw [if_pos hz] at h
    exact h
  · simpa using hz
theorem doL_step {docs : List Dc} {n : Nat} {o : Oc} {os : List Oc} (hn : n < 64) : doL docs n (o :: os) = if (oneD docs o 0).2 ≠ 0 then (docs, (oneD docs o 0).2) else doL (oneD docs o 0).1 (n + 1) os := by
  by_cases hz : ochk o ≠ 0
  · have h1 : oneD docs o 0 = (docs, ochk o) := by unfold oneD; rw [if_pos hz]
    rw [h1, if_pos hz]
    unfold doL
    rw [if_pos hz]
  · conv => lhs; unfold doL
    rw [if_neg hz, if_neg (by omega)]
theorem doL_c (docs : List Dc) (n : Nat) (o : Oc) (l : List Oc) : doL docs n (o :: l) = if ochk o ≠ 0 then (docs, ochk o) else if n = 64 then (docs, 2) else if (oneD docs o 0).2 ≠ 0 then (docs, (oneD docs o 0).2) else doL (oneD docs o 0).1 (n + 1) l := by conv => lhs; unfold doL
theorem doL_app : ∀ {a b : List Oc} {docs : List Dc} {n : Nat}, (doL docs n a).2 = 0 → doL docs n (a ++ b) = doL (doL docs n a).1 (n + a.length) b
  | [], b, docs, n, h => by simp [doL]
  | o :: os, b, docs, n, h => by
    rw [List.cons_append]
    have hu : ∀ l, doL docs n (o :: l) = if ochk o ≠ 0 then (docs, ochk o) else if n = 64 then (docs, 2) else if (oneD docs o 0).2 ≠ 0 then (docs, (oneD docs o 0).2) else doL (oneD docs o 0).1 (n + 1) l := fun l => by conv => lhs; unfold doL
    rw [hu] at h
    rw [hu, hu]
    by_cases hz : ochk o ≠ 0
    · rw [if_pos hz] at h; exact absurd h hz
    rw [if_neg hz] at h ⊢
    by_cases hn : n = 64
    · rw [if_pos hn] at h; cases h
    rw [if_neg hn] at h ⊢
    by_cases h1 : (oneD docs o 0).2 ≠ 0
    · rw [if_pos h1] at h; exact absurd h h1
    rw [if_neg h1] at h ⊢
    rw [doL_app h, if_neg hz, if_neg hn, if_neg h1, List.length_cons]
    congr 1
    omega
theorem doL_pre : ∀ {a b : List Oc} {docs : List Dc} {n : Nat}, (doL docs n (a ++ b)).2 = 0 → (doL docs n a).2 = 0
  | [], b, docs, n, h => by simp [doL]
  | o :: os, b, docs, n, h => by
    rw [List.cons_append] at h
    unfold doL at h ⊢
    by_cases hz : ochk o ≠ 0
    · rw [if_pos hz] at h; exact absurd h hz
    rw [if_neg hz] at h ⊢
    by_cases hn : n = 64
    · rw [if_pos hn] at h; cases h
    rw [if_neg hn] at h ⊢
    by_cases h1 : (oneD docs o 0).2 ≠ 0
    · rw [if_pos h1] at h; exact absurd h h1
    rw [if_neg h1] at h ⊢
    exact doL_pre h
theorem doL_take {a : List Oc} {docs : List Dc} {n : Nat} (k : Nat) (h : (doL docs n a).2 = 0) : (doL docs n (a.take k)).2 = 0 := by
  rw [← List.take_append_drop k a] at h
  exact doL_pre h
theorem oneD_good {l : List Dc} {o : Oc} {a : Int} (hl : gooD l) (ho : okO o) (h : (oneD l o a).2 = 0) : gooD (oneD l o a).1 := by
  unfold oneD at h ⊢
  split at h
  · rename_i h1; exact absurd h h1
  · rename_i h1
    rw [if_neg h1]
    split at h
    · cases h
    · rename_i h2
      rw [if_neg h2]
      split at h
      · rename_i h3
        rw [if_pos h3]
        split at h
        · rename_i h4
          rw [if_pos h4]
          exact delD_good hl h4
        · cases h
      · rename_i h3
        rw [if_neg h3]
        split at h
        · rename_i h4
          rw [if_pos h4]
          exact putD_good hl h4 ho
        · rename_i h4; exact absurd h h4
theorem doL_good : ∀ {a : List Oc} {docs : List Dc} {n : Nat}, gooD docs → (∀ o ∈ a, okO o) → (doL docs n a).2 = 0 → gooD (doL docs n a).1 ∧ ∀ o ∈ a, ochk o = 0
  | [], docs, n, hd, _, h => ⟨by simpa [doL] using hd, by simp⟩
  | o :: os, docs, n, hd, hb, h => by
    unfold doL at h ⊢
    by_cases hz : ochk o ≠ 0
    · rw [if_pos hz] at h; exact absurd h hz
    rw [if_neg hz] at h ⊢
    by_cases hn : n = 64
    · rw [if_pos hn] at h; cases h
    rw [if_neg hn] at h ⊢
    by_cases h1 : (oneD docs o 0).2 ≠ 0
    · rw [if_pos h1] at h; exact absurd h h1
    rw [if_neg h1] at h ⊢
    obtain ⟨g1, g2⟩ := doL_good (oneD_good hd (hb o (by simp)) (by simpa using h1)) (fun x hx => hb x (by simp [hx])) h
    refine ⟨g1, fun x hx => ?_⟩
    rcases List.mem_cons.1 hx with rfl | hx
    · simpa using hz
    · exact g2 x hx
theorem gooD_nil : gooD [] := ⟨okD_nil, by simp⟩
theorem addL_good : ∀ {ds m : List Dc}, gooD m → (∀ d ∈ ds, byD d) → (addL m ds).2 = 0 → gooD (addL m ds).1
  | [], m, hm, _, _ => by simpa [addL] using hm
  | d :: ds, m, hm, hb, h => by
    obtain ⟨hp, hs⟩ := addL_step h
    rw [hs] at h ⊢
    exact addL_good (putD_good hm hp (hb d (by simp))) (fun x hx => hb x (by simp [hx])) h
theorem baseD_good {ds : List Dc} (hb : ∀ d ∈ ds, byD d) : gooD (baseD ds) := by
  unfold baseD
  split
  · rename_i h; exact addL_good gooD_nil hb h
  · exact gooD_nil
theorem addL_len : ∀ {ds m : List Dc}, (addL m ds).1.length ≤ m.length + ds.length
  | [], m => by simp [addL]
  | d :: ds, m => by
    unfold addL
    split
    · have := addL_len (ds := ds) (m := putD m d)
      have h2 : (putD m d).length ≤ m.length + 1 := by
        unfold putD
        simp only [List.length_append, List.length_take, List.length_drop, List.length_singleton]; omega
      rw [List.length_cons]
      omega
    · simp
theorem v_tells {H : Hp} {g : Nat} {base docs : List Dc} {ops : List Oc} {kb kt ko : Bool} (hb : gooD base) (hd : gooD docs) (hl : ops.length ≤ 64) (hz : ∀ o ∈ ops, ochk o = 0) (ho : ∀ o ∈ ops, okO o) (h : BatV H g base docs ops)  :
    VC Try.prog prims 19 [.ptr g 0, DS kb base, DS kt docs, OS ko ops] H fun u T => u = bo true ∧ T = H := by
  have hbo : ∀ o ∈ ops, o.b.length ≤ 100000 := fun o ho => by have := ochk_id (hz o ho); omega
  have hgl : g < H.length := by obtain ⟨_, _, _, _, _, _, _, _, h1, _, _⟩ := h; exact get_lt h1
  refine v_enter hC [] (fun _ _ => kn_none rfl) Try.func19 rfl ok19 (Nat.le_of_ble_eq_true rfl) fun hcl hbl => ?_
  simp
  refine RdB.call (ops := ops) (v := i6 ops.length) (fun H h => v_bLen h) h ?_
  simp
  refine (v_bOps hl hbo).call h ?_
  simp
  refine v_loopX hC (fun (k : Nat) e U => ∃ w t, U = H ++ [.vec w ((recs (ops.take k)).map bc) 1 true t] ∧ e 0 = .ptr g 0 ∧ e 1 = DS kb base ∧ e 2 = DS kt docs ∧ e 3 = OS ko ops ∧ e 9 = .own H.length w ∧ e 10 = i6 k ∧ k ≤ ops.length) (fun k => ops.length - k) 0 ?_ ?_
  · refine G.nilT0 (s := 1) 9 hcl (Nat.le_refl _) (by omega) (by simp) ?_
    exact ⟨0, true, by simp [recs], by simp [hgl], by simp, by simp, by simp, by simp, by simp, by simp⟩
  · rintro k e U ⟨w, t, rfl, h0, h1, h2, h3, h9, h10, hk⟩
    simp [h3, h10]
    refine CondV.dec (fun hlt => ?_) (fun hge => ?_)
    · have hlt : k < ops.length := by omega
      have hmem : oAt ops k ∈ ops := by rw [oAt_eq ops k hlt]; exact List.getElem_mem hlt
      have hok := hbo _ hmem
      simp
      refine v_draw (ord := [0, 1, 2, 3, 4, 5, 6, 7, 8, 9, 10, 11]) (m := 10) (by decide +kernel) (by decide +kernel) ?_
      simp [h0, h3, h10]
      refine (v_bOps hl hbo).call h.app ?_
      simp
      refine (v_oOf (kk := true) (l := ops) (by omega)).call ?_
      simp [h0, h3, h10, getO hlt]
      refine (v_r26Same (ka := true) (kb := true) (a := oAt ops k) (b := oAt ops k) (by omega)).call ?_
      have hs : sameO (oAt ops k) (oAt ops k) = true := by simp [sameO]
      simp [hs, h3, h10, getO hlt]
      refine (v_r26Record (kk := true) (hz _ hmem) (ho _ hmem)).call ?_
      have hlr := recs_len (l := ops.take k) fun o ho => hz o (List.mem_of_mem_take ho)
      have hlo := recO_len (hz _ hmem)
      have hmin : (ops.take k).length ≤ 64 := by rw [List.length_take]; omega
      have hlr2 : (recs (ops.take k)).length ≤ 70656 := by omega
      simp [h9, h10, w64 (n := (k : Int) + 1) (by omega)]
      refine ⟨by omega, GH.of (G.clip (Z := [_]) (X := []) (Z' := [.vec (w + 1) ((recs (ops.take (k + 1))).map bc) 1 true t]) hcl (by simp) (by simp [recs_take ops k hlt]; exact UpR.self (show PureR _ by simp)) ⟨k + 1, ⟨w + 1, t, rfl, ?_, ?_, ?_, ?_, ?_, ?_, hlt⟩, by omega⟩)⟩
      · simp [h0, hgl]; omega
      · simp [h1]
      · simp [h2]
      · simp [h3]
      · simp
      · simp
    · have ht : ops.take k = ops := List.take_of_length_le (by omega)
      rw [ht]
      simp [h0, h1, h2, h9]
      have hlr := recs_len hz
      refine (v_bBytes hl hz ho).call h.app ?_
      simp [h9]
      refine (v_Same1 (kk := true) (km := true) (l := recs ops) (m := recs ops) (by omega)).callF [BS true (recs ops), BS true (recs ops)] (Frz.vec (g := H.length) (w := w) (s := 1) (rows := (recs ops).map bc) (rw := true) (t := t) (by simp) (by simp [PureR_map])) (by simp) ?_
      simp [h0, h1, h2]
      refine CALLv.at (v_bTarget h.app hd.1) fun u T hu => ?_
      obtain ⟨e1, e2⟩ := hu
      subst e1; subst e2
      simp [h0, h1, h2]
      refine CALLv.at (v_Bytes (g := H.length + 1) (k := true) (ra := true) (l := docs) (by simp) hd) fun u T hu => ?_
      obtain ⟨e1, e2⟩ := hu
      subst e1; subst e2
      simp [h0, h1, h2]
      refine (v_rBytes (kk := kt) hd).call ?_
      simp
      refine (v_Same1 (kk := true) (km := true) (l := bytesD docs) (m := bytesD docs) (bytesD_max hd)).call ?_
      simp [h0, h1, h2]
      refine CALLv.at (v_bBase h.app hb.1) fun u T hu => ?_
      obtain ⟨e1, e2⟩ := hu
      subst e1; subst e2
      simp [h0, h1, h2]
      refine CALLv.at (v_Bytes (g := H.length + 2) (k := true) (ra := true) (l := base) (by simp) hb) fun u T hu => ?_
      obtain ⟨e1, e2⟩ := hu
      subst e1; subst e2
      simp [h0, h1, h2]
      refine (v_rBytes (kk := kb) hb).call ?_
      simp
      refine (v_Same1 (kk := true) (km := true) (l := bytesD base) (m := bytesD base) (bytesD_max hb)).call ?_
      simp [Try.results19]
      exact GV.ret (X := [_, _, _]) (bo true) hcl (by simp) ⟨rfl, rfl⟩
theorem v_tellsO {H : Hp} {g : Nat} {base docs : List Dc} {ops : List Oc} {kb kt rw t0 : Bool} {gd wd : Nat} (hb : gooD base) (hd : gooD docs) (hl : ops.length ≤ 64) (hz : ∀ o ∈ ops, ochk o = 0) (ho : ∀ o ∈ ops, okO o) (h : BatV H g base docs ops) (hgd : H[gd]? = some (.vec wd (ops.map oc) 3 rw t0)) :
    VC Try.prog prims 19 [.ptr g 0, DS kb base, DS kt docs, .own gd wd] H fun u T => u = bo true ∧ T = H := by
  have hbo : ∀ o ∈ ops, o.b.length ≤ 100000 := fun o ho => by have := ochk_id (hz o ho); omega
  have hgl : g < H.length := by obtain ⟨_, _, _, _, _, _, _, _, h1, _, _⟩ := h; exact get_lt h1
  have hdl := get_lt hgd
  have hgX : ∀ X, (H ++ X)[gd]? = some (.vec wd (ops.map oc) 3 rw t0) := fun X => by rw [List.getElem?_append_left hdl, hgd]
  refine v_enter hC [] (fun _ _ => kn_none rfl) Try.func19 rfl ok19 (Nat.le_of_ble_eq_true rfl) fun hcl hbl => ?_
  simp
  refine RdB.call (ops := ops) (v := i6 ops.length) (fun H h => v_bLen h) h ?_
  simp [hgd]
  refine (v_bOps hl hbo).call h ?_
  simp [hgd]
  refine v_loopX hC (fun (k : Nat) e U => ∃ w t, U = H ++ [.vec w ((recs (ops.take k)).map bc) 1 true t] ∧ e 0 = .ptr g 0 ∧ e 1 = DS kb base ∧ e 2 = DS kt docs ∧ e 3 = .own gd wd ∧ e 9 = .own H.length w ∧ e 10 = i6 k ∧ k ≤ ops.length) (fun k => ops.length - k) 0 ?_ ?_
  · refine G.nilT0 (s := 1) 9 hcl (Nat.le_refl _) (by omega) (by simp) ?_
    exact ⟨0, true, by simp [recs], by simp [hgl], by simp, by simp, by simp [hdl], by simp, by simp, by simp⟩
  · rintro k e U ⟨w, t, rfl, h0, h1, h2, h3, h9, h10, hk⟩
    simp [h3, h10, hgX]
    refine CondV.dec (fun hlt => ?_) (fun hge => ?_)
    · have hlt : k < ops.length := by omega
      have hmem : oAt ops k ∈ ops := by rw [oAt_eq ops k hlt]; exact List.getElem_mem hlt
      have hok := hbo _ hmem
      simp
      refine v_draw (ord := [0, 1, 2, 3, 4, 5, 6, 7, 8, 9, 10, 11]) (m := 10) (by decide +kernel) (by decide +kernel) ?_
      simp [h0, h3, h10]
      refine (v_bOps hl hbo).call h.app ?_
      simp
      refine (v_oOf (kk := true) (l := ops) (by omega)).call ?_
      simp [h0, h3, h10, getO hlt, hgX]
      refine ⟨hlt, ?_⟩
      refine (v_r26Same (ka := true) (kb := true) (a := oAt ops k) (b := oAt ops k) (by omega)).call ?_
      have hs : sameO (oAt ops k) (oAt ops k) = true := by simp [sameO]
      simp [hs, h3, h10, getO hlt, hgX]
      refine ⟨hlt, ?_⟩
      refine (v_r26Record (kk := true) (hz _ hmem) (ho _ hmem)).call ?_
      have hlr := recs_len (l := ops.take k) fun o ho => hz o (List.mem_of_mem_take ho)
      have hlo := recO_len (hz _ hmem)
      have hmin : (ops.take k).length ≤ 64 := by rw [List.length_take]; omega
      have hlr2 : (recs (ops.take k)).length ≤ 70656 := by omega
      simp [h9, h10, w64 (n := (k : Int) + 1) (by omega)]
      refine ⟨by omega, GH.of (G.clip (Z := [_]) (X := []) (Z' := [.vec (w + 1) ((recs (ops.take (k + 1))).map bc) 1 true t]) hcl (by simp) (by simp [recs_take ops k hlt]; exact UpR.self (show PureR _ by simp)) ⟨k + 1, ⟨w + 1, t, rfl, ?_, ?_, ?_, ?_, ?_, ?_, hlt⟩, by omega⟩)⟩
      · simp [h0, hgl]; omega
      · simp [h1]
      · simp [h2]
      · simp [h3, hdl, hgX]; omega
      · simp
      · simp
    · have ht : ops.take k = ops := List.take_of_length_le (by omega)
      rw [ht]
      simp [h0, h1, h2, h9]
      have hlr := recs_len hz
      refine (v_bBytes hl hz ho).call h.app ?_
      simp [h9]
      refine (v_Same1 (kk := true) (km := true) (l := recs ops) (m := recs ops) (by omega)).callF [BS true (recs ops), BS true (recs ops)] (Frz.vec (g := H.length) (w := w) (s := 1) (rows := (recs ops).map bc) (rw := true) (t := t) (by simp) (by simp [PureR_map])) (by simp) ?_
      simp [h0, h1, h2]
      refine CALLv.at (v_bTarget h.app hd.1) fun u T hu => ?_
      obtain ⟨e1, e2⟩ := hu
      subst e1; subst e2
      simp [h0, h1, h2]
      refine CALLv.at (v_Bytes (g := H.length + 1) (k := true) (ra := true) (l := docs) (by simp) hd) fun u T hu => ?_
      obtain ⟨e1, e2⟩ := hu
      subst e1; subst e2
      simp [h0, h1, h2]
      refine (v_rBytes (kk := kt) hd).call ?_
      simp
      refine (v_Same1 (kk := true) (km := true) (l := bytesD docs) (m := bytesD docs) (bytesD_max hd)).call ?_
      simp [h0, h1, h2]
      refine CALLv.at (v_bBase h.app hb.1) fun u T hu => ?_
      obtain ⟨e1, e2⟩ := hu
      subst e1; subst e2
      simp [h0, h1, h2]
      refine CALLv.at (v_Bytes (g := H.length + 2) (k := true) (ra := true) (l := base) (by simp) hb) fun u T hu => ?_
      obtain ⟨e1, e2⟩ := hu
      subst e1; subst e2
      simp [h0, h1, h2]
      refine (v_rBytes (kk := kb) hb).call ?_
      simp
      refine (v_Same1 (kk := true) (km := true) (l := bytesD base) (m := bytesD base) (bytesD_max hb)).call ?_
      simp [Try.results19]
      exact GV.ret (X := [_, _, _]) (bo true) hcl (by simp) ⟨rfl, rfl⟩
end Go.Proofs.Ytldhfdagmaklaaa.VM
end
section
set_option maxHeartbeats 8000000
set_option linter.unusedVariables false
set_option linter.unusedSimpArgs false

/- Law BatchPlays. -/
namespace Go.Proofs.Ytldhfdagmaklaaa.VM
open Go Go.Proofs AM B
set_option maxRecDepth 100000
/-- Lists of operations. -/
@[simp] def OOS (kl : Bool) (ls : List (Bool × List (Bool × Oc))) : V := .fsl kl 1 (ls.map fun p => [OSf p.1 p.2])
theorem doL_cons0 {docs : List Dc} {n : Nat} {o : Oc} {os : List Oc} (hn : n < 64) (h : (oneD docs o 0).2 = 0) : doL docs n (o :: os) = doL (oneD docs o 0).1 (n + 1) os := by
  rw [doL_step hn, if_neg (by simpa using h)]
theorem doL_cons1 {docs : List Dc} {n : Nat} {o : Oc} {os : List Oc} (hn : n < 64) (h : (oneD docs o 0).2 ≠ 0) : doL docs n (o :: os) = (docs, (oneD docs o 0).2) := by
  rw [doL_step hn, if_pos h]
theorem doL_snoc {docs : List Dc} {n : Nat} {a : List Oc} {o : Oc} (h : (doL docs n (a ++ [o])).2 = 0) : (oneD (doL docs n a).1 o 0).2 = 0 ∧ (doL docs n (a ++ [o])).1 = (oneD (doL docs n a).1 o 0).1 := by
  have h1 := doL_pre h
  rw [doL_app h1, doL_c] at h ⊢
  by_cases hz : ochk o ≠ 0
  · rw [if_pos hz] at h; exact absurd h hz
  rw [if_neg hz] at h ⊢
  by_cases hn : n + a.length = 64
  · rw [if_pos hn] at h; cases h
  rw [if_neg hn] at h ⊢
  by_cases h2 : (oneD (doL docs n a).1 o 0).2 ≠ 0
  · rw [if_pos h2] at h; exact absurd h h2
  rw [if_neg h2]
  exact ⟨by simpa using h2, by simp [doL]⟩
set_option maxHeartbeats 8000000 in
theorem v_BatchPlays {kk kl : Bool} {ds : List (Bool × Dc)} {ls : List (Bool × List (Bool × Oc))} (hl : ds.length < 2 ^ 63) (hb : ∀ p ∈ ds, p.2.b.length < 2 ^ 63 ∧ byD p.2) (hn : ls.length < 2 ^ 63) (hbo : ∀ p ∈ ls, p.2.length < 2 ^ 63 ∧ ∀ q ∈ p.2, q.2.b.length < 2 ^ 63 ∧ okO q.2) :
    A 4 [DSf kk ds, OOS kl ls] (bo true) := by
  intro H
  refine v_enter hC [] (fun _ _ => kn_none rfl) Try.func4 rfl ok4 (Nat.le_of_ble_eq_true rfl) fun hcl hbl => ?_
  simp
  refine CALLv.at (v_Base hl (fun p hp => (hb p hp).1)) fun u T hu => ?_
  obtain ⟨k', km, e1, e2⟩ := hu
  have hgb : gooD (baseD ((ds.take 3).map fun p => cutD p.2)) := baseD_good fun d hd => by
    obtain ⟨p, hp, rfl⟩ := List.mem_map.1 hd
    exact fun x hx => (hb p (List.mem_of_mem_take hp)).2 x (List.mem_of_mem_take hx)
  obtain ⟨base, hbase⟩ : ∃ b, baseD ((ds.take 3).map fun p => cutD p.2) = b := ⟨_, rfl⟩
  rw [hbase] at e1 e2 hgb
  subst e1; subst e2
  simp
  refine CALLv.at (v_bNew (g := H.length) (k := k') (ra := true) (l := base) (by simp) hgb.1) fun u T hu => ?_
  obtain ⟨e1, e2⟩ := hu
  subst e1; subst e2
  simp [batO]
  refine v_loopX hC (fun (X : Nat × List Dc × List Oc) e T => ∃ kt kc w t gc rc Z, T = H ++ Z ∧ T[H.length + 1]? = some (.mem [.ptr gc 0, .ptr (H.length + 3) 0, OS true X.2.2] true) ∧ T[gc]? = some (.mem [DS kc X.2.1] rc) ∧ T[H.length + 3]? = some (.mem [DS true base] true) ∧ T[H.length + 4]? = some (.vec w (X.2.2.map oc) 3 true t) ∧ e 1 = OOS kl ls ∧ e 6 = DS km base ∧ e 7 = .ptr (H.length + 1) 0 ∧ e 9 = DS kt X.2.1 ∧ e 10 = .own (H.length + 4) w ∧ e 11 = i6 X.1 ∧ X.1 ≤ 15 ∧ X.2.2.length ≤ 3 * X.1 ∧ doL base 0 X.2.2 = (X.2.1, 0) ∧ ∀ o ∈ X.2.2, okO o) (fun X => 15 - X.1) (0, base, []) ?_ ?_
  · refine G.nilT (H := H) (Z := [.mem [DS k' base] true, .mem [.ptr (H.length + 2) 0, .ptr (H.length + 3) 0, OS true []] true, .mem [DS true base] true, .mem [DS true base] true]) (s := 3) 10 hcl (by simp) (by omega) (by simp [PureR_map]) (by simp) ?_
    exact ⟨km, true, 0, true, H.length + 2, true, _, rfl, by simp, by simp, by simp, by simp, by simp, by simp, by simp, by simp, by simp, by simp, by simp, by simp, rfl, by simp⟩
  · rintro ⟨i, tg, dn⟩ e T ⟨kt, kc, w, t, gc, rc, Z, hT, t1, t2, t3, t4, h1, h6, h7, h9, h10, h11, hi, hdl, hdo, hok⟩
    simp only at t1 t2 t4 h9 h11 hi hdl hdo hok
    have hgt : gooD tg ∧ ∀ o ∈ dn, ochk o = 0 := by have := doL_good (n := 0) hgb hok (by rw [hdo]); rw [hdo] at this; exact this
    have m1 := get_lt t1
    have m2 := get_lt t2
    have m3 := get_lt t3
    have m4 := get_lt t4
    have hBV : BatV T (H.length + 1) base tg dn := ⟨_, _, _, _, _, _, _, _, t1, t2, t3⟩
    simp [h1, h11]
    by_cases hc : i < ls.length ∧ i < 15
    · obtain ⟨hlt, hlt15⟩ := hc
      have hlt9 : (i : Int) < 15 := by omega
      obtain ⟨p, hp⟩ : ∃ p, ls[i] = p := ⟨_, rfl⟩
      have hgp : ls[i]? = some p := by rw [List.getElem?_eq_getElem hlt, hp]
      obtain ⟨hb1, hb2⟩ := hbo _ (List.getElem_mem hlt)
      rw [hp] at hb1 hb2
      simp [h1, h11, hlt, hlt9, hp]
      obtain ⟨D, hD⟩ : ∃ D, D = (p.2.take 3).map fun q => cutO q.2 := ⟨_, rfl⟩
      have hDl : D.length ≤ 3 := by rw [hD, List.length_map, List.length_take]; omega
      have hDb : ∀ o ∈ D, o.b.length ≤ 1100 ∧ okO o := fun o ho => by
        rw [hD] at ho
        obtain ⟨q, hq, rfl⟩ := List.mem_map.1 ho
        have := (hb2 q (List.mem_of_mem_take hq)).2
        exact ⟨by simp [cutO]; omega, fun x hx => this x (List.mem_of_mem_take hx)⟩
      refine (v_oTo (kk := p.1) (l := p.2) (most := 3) (by omega) hb1 (fun q hq => (hb2 q hq).1)).callU [OSf p.1 p.2, i6 3] (by simp) ?_
      rw [← hD]
      simp
      refine (v_oOf (kk := true) (l := D) (by omega)).call ?_
      simp [h9]
      refine v_loopX hC (fun (X : Nat × List Dc) e T' => ∃ (k3 : Bool) (bad : Int), T' = T ∧ e 1 = OOS kl ls ∧ e 6 = DS km base ∧ e 7 = .ptr (H.length + 1) 0 ∧ e 9 = DS kt tg ∧ e 10 = .own (H.length + 4) w ∧ e 11 = i6 i ∧ e 12 = OS true D ∧ e 13 = OS true D ∧ e 14 = DS k3 X.2 ∧ e 15 = i6 bad ∧ e 16 = i6 X.1 ∧ X.1 ≤ D.length ∧ okD X.2 ∧ if bad = 0 then doL tg dn.length D = doL X.2 (dn.length + X.1) (D.drop X.1) else (doL tg dn.length D).2 = bad) (fun X => D.length - X.1) (0, tg) (G.refl ?_) ?_
      · exact ⟨kt, 0, rfl, by simp [h1], by simp [h6], by simp [h7], by simp [h9], by simp [h10], by simp [h11], by simp, by simp, by simp [h9], by simp, by simp, by simp, hgt.1.1, by simp⟩
      rintro ⟨j, nl⟩ e T' ⟨k3, bad, rfl, h1, h6, h7, h9, h10, h11, h12, h13, h14, h15, h16, hj, hno, hrun⟩
      simp only at h14 h16 hj hno hrun
      simp [h13, h16]
      by_cases hc2 : j < D.length ∧ bad = 0
      · obtain ⟨hjl, hbad⟩ := hc2
        rw [if_pos hbad, List.drop_eq_getElem_cons hjl, ← oAt_eq D j hjl] at hrun
        simp [h10, h13, h14, h15, h16, hjl, hbad, t4, w64 (n := (dn.length : Int) + j) (by omega)]
        rw [← oAt_eq D j hjl]
        refine (v_r26One (kk := k3) (l := nl) (o := oAt D j) (ahead := (dn.length : Int) + j) hno).call ?_
        rw [oneD_lt (show (dn.length : Int) + j < 64 by omega)]
        by_cases hz : (oneD nl (oAt D j) 0).2 = 0
        · simp [hz, h16, w64 (n := (j : Int) + 1) (by omega)]
          refine GH.refl ⟨(j + 1, (oneD nl (oAt D j) 0).1), ⟨true, 0, rfl, by simp [h1], by simp [h6], by simp [h7], by simp [h9], by simp [h10], by simp [h11], by simp [h12], by simp [h13], by simp, by simp, by simp, hjl, oneD_ok hno hz, ?_⟩, by simp only; omega⟩
          rw [if_pos rfl, hrun, doL_cons0 (by omega) hz, Nat.add_assoc]
        · simp [hz, h16, w64 (n := (j : Int) + 1) (by omega)]
          refine GH.refl ⟨(j + 1, nl), ⟨k3, (oneD nl (oAt D j) 0).2, rfl, by simp [h1], by simp [h6], by simp [h7], by simp [h9], by simp [h10], by simp [h11], by simp [h12], by simp [h13], by simp, by simp, by simp, hjl, hno, ?_⟩, by simp only; omega⟩
          rw [if_neg hz, hrun, doL_cons1 (by omega) hz]
      have hfin : (doL tg dn.length D).2 = bad ∧ (bad = 0 → (doL tg dn.length D).1 = nl) := by
        by_cases hb0 : bad = 0
        · rw [if_pos hb0] at hrun
          have : j = D.length := by
            rcases Nat.lt_or_ge j D.length with h | h
            · exact absurd ⟨h, hb0⟩ hc2
            · omega
          rw [hrun, this, List.drop_length]
          exact ⟨hb0.symm, fun _ => rfl⟩
        · rw [if_neg hb0] at hrun
          exact ⟨hrun, fun h => absurd h hb0⟩
      by_cases hjl : j < D.length
      · have hbad : ¬ bad = 0 := fun h => hc2 ⟨hjl, h⟩
        simp [h7, h12, h13, h15, h16, hjl, hbad]
        refine CALLv.at (v_Do (g := H.length + 1) (gc := gc) (gb := H.length + 3) (ko := true) (kc := kc) (kb := true) (kk := true) (r2 := rc) (r3 := true) (base := base) (docs := tg) (ops := dn) (l := D) t1 t2 t3 hgt.1.1 (by omega) (by omega) (fun o ho => by have := (hDb o ho).1; omega)) fun u U hu => ?_
        obtain ⟨e1, k4, e2⟩ := hu
        rw [hfin.1] at e1 e2
        subst e1
        by_cases hb0 : bad = 0
        · have hnl := hfin.2 hb0
          rw [if_pos hb0, hnl] at e2
          have hz0 := hfin.1.trans hb0
          have hdl2 : (dn ++ D).length ≤ 3 * (i + 1) := by rw [List.length_append]; omega
          have hdo2 : doL base 0 (dn ++ D) = (nl, 0) := by
            rw [doL_app (by rw [hdo]), hdo]
            simp only [Nat.zero_add]
            rw [← hnl, ← hz0]
          have hok2 : ∀ o ∈ dn ++ D, okO o := fun o ho => (List.mem_append.1 ho).elim (hok o) fun h => (hDb o h).2
          have hgt2 : gooD nl ∧ ∀ o ∈ dn ++ D, ochk o = 0 := by have := doL_good (n := 0) hgb hok2 (by rw [hdo2]); rw [hdo2] at this; exact this
          have u1 : U[H.length + 1]? = some (.mem [.ptr T'.length 0, .ptr (H.length + 3) 0, OS true (dn ++ D)] true) := by rw [e2, List.getElem?_append_left (by simpa using m1), List.getElem?_set_self m1]
          have u2 : U[T'.length]? = some (.mem [DS k4 nl] true) := by rw [e2, List.getElem?_append_right (by simp)]; simp
          have u3 : U[H.length + 3]? = some (.mem [DS true base] true) := by rw [e2, List.getElem?_append_left (by simpa using m3), List.getElem?_set_ne (by omega), t3]
          have u4 : U[H.length + 4]? = some (.vec w (dn.map oc) 3 true t) := by rw [e2, List.getElem?_append_left (by simpa using m4), List.getElem?_set_ne (by omega), t4]
          obtain ⟨Z2, hU⟩ : ∃ Z2, U = H ++ Z2 := ⟨_, by rw [e2, hT, List.set_append_right _ _ (by omega), List.append_assoc]⟩
          clear e2
          simp [h6, h7, h10, h13, h14, h15, hb0, u4]
          refine ⟨by omega, ?_⟩
          rw [← List.map_append]
          obtain ⟨Y, hY⟩ : ∃ Y, Ob.vec (w + 1) ((dn ++ D).map oc) 3 true t = Y := ⟨_, rfl⟩
          rw [hY]
          obtain ⟨W, hW⟩ : ∃ W, U.set (H.length + 4) Y = W := ⟨_, rfl⟩
          rw [hW]
          have q2 := get_lt u2
          have m5 := get_lt u4
          have w1 : W[H.length + 1]? = some (.mem [.ptr T'.length 0, .ptr (H.length + 3) 0, OS true (dn ++ D)] true) := by rw [← hW, List.getElem?_set_ne (by omega), u1]
          have w2 : W[T'.length]? = some (.mem [DS k4 nl] true) := by rw [← hW, List.getElem?_set_ne (by omega), u2]
          have w3 : W[H.length + 3]? = some (.mem [DS true base] true) := by rw [← hW, List.getElem?_set_ne (by omega), u3]
          have w4 : W[H.length + 4]? = some (.vec (w + 1) ((dn ++ D).map oc) 3 true t) := by rw [← hW, List.getElem?_set_self m5, hY]
          have hW2 : W = H ++ Z2.set 4 Y := by rw [← hW, hU, List.set_append_right _ _ (by omega)]; simp
          refine CALLv.at (v_tellsO (kb := km) (kt := k3) (rw := true) (t0 := t) hgb hgt2.1 (by omega) hgt2.2 hok2 ⟨_, _, _, _, _, _, _, _, w1, w2, w3⟩ w4) fun u W' hu => ?_
          obtain ⟨e1, e2⟩ := hu
          subst e1; subst e2
          simp [h11, w64 (n := (i : Int) + 1) (by omega)]
          exact GH.refl ⟨(i + 1, nl, dn ++ D), ⟨k3, k4, w + 1, t, _, true, _, hW2, w1, w2, w3, w4, by simp [h1], by simp [h6], by simp [h7], by simp, by simp, by simp, hlt15, hdl2, hdo2, hok2⟩, by simp only; omega⟩
        · rw [if_neg hb0] at e2
          subst e2
          simp [h6, h7, h9, h10, h15, hb0]
          refine CALLv.at (v_tellsO (kb := km) (kt := kt) (rw := true) (t0 := t) hgb hgt.1 (by omega) hgt.2 hok hBV t4) fun u W' hu => ?_
          obtain ⟨e1, e2⟩ := hu
          subst e1; subst e2
          simp [h11, w64 (n := (i : Int) + 1) (by omega)]
          exact GH.refl ⟨(i + 1, tg, dn), ⟨kt, kc, w, t, gc, rc, _, hT, t1, t2, t3, t4, by simp [h1], by simp [h6], by simp [h7], by simp [h9], by simp [h10], by simp, hlt15, by simp only; omega, hdo, hok⟩, by simp only; omega⟩
      · simp [h7, h12, h13, h15, h16, hjl]
        refine CALLv.at (v_Do (g := H.length + 1) (gc := gc) (gb := H.length + 3) (ko := true) (kc := kc) (kb := true) (kk := true) (r2 := rc) (r3 := true) (base := base) (docs := tg) (ops := dn) (l := D) t1 t2 t3 hgt.1.1 (by omega) (by omega) (fun o ho => by have := (hDb o ho).1; omega)) fun u U hu => ?_
        obtain ⟨e1, k4, e2⟩ := hu
        rw [hfin.1] at e1 e2
        subst e1
        by_cases hb0 : bad = 0
        · have hnl := hfin.2 hb0
          rw [if_pos hb0, hnl] at e2
          have hz0 := hfin.1.trans hb0
          have hdl2 : (dn ++ D).length ≤ 3 * (i + 1) := by rw [List.length_append]; omega
          have hdo2 : doL base 0 (dn ++ D) = (nl, 0) := by
            rw [doL_app (by rw [hdo]), hdo]
            simp only [Nat.zero_add]
            rw [← hnl, ← hz0]
          have hok2 : ∀ o ∈ dn ++ D, okO o := fun o ho => (List.mem_append.1 ho).elim (hok o) fun h => (hDb o h).2
          have hgt2 : gooD nl ∧ ∀ o ∈ dn ++ D, ochk o = 0 := by have := doL_good (n := 0) hgb hok2 (by rw [hdo2]); rw [hdo2] at this; exact this
          have u1 : U[H.length + 1]? = some (.mem [.ptr T'.length 0, .ptr (H.length + 3) 0, OS true (dn ++ D)] true) := by rw [e2, List.getElem?_append_left (by simpa using m1), List.getElem?_set_self m1]
          have u2 : U[T'.length]? = some (.mem [DS k4 nl] true) := by rw [e2, List.getElem?_append_right (by simp)]; simp
          have u3 : U[H.length + 3]? = some (.mem [DS true base] true) := by rw [e2, List.getElem?_append_left (by simpa using m3), List.getElem?_set_ne (by omega), t3]
          have u4 : U[H.length + 4]? = some (.vec w (dn.map oc) 3 true t) := by rw [e2, List.getElem?_append_left (by simpa using m4), List.getElem?_set_ne (by omega), t4]
          obtain ⟨Z2, hU⟩ : ∃ Z2, U = H ++ Z2 := ⟨_, by rw [e2, hT, List.set_append_right _ _ (by omega), List.append_assoc]⟩
          clear e2
          simp [h6, h7, h10, h13, h14, h15, hb0, u4]
          refine ⟨by omega, ?_⟩
          rw [← List.map_append]
          obtain ⟨Y, hY⟩ : ∃ Y, Ob.vec (w + 1) ((dn ++ D).map oc) 3 true t = Y := ⟨_, rfl⟩
          rw [hY]
          obtain ⟨W, hW⟩ : ∃ W, U.set (H.length + 4) Y = W := ⟨_, rfl⟩
          rw [hW]
          have q2 := get_lt u2
          have m5 := get_lt u4
          have w1 : W[H.length + 1]? = some (.mem [.ptr T'.length 0, .ptr (H.length + 3) 0, OS true (dn ++ D)] true) := by rw [← hW, List.getElem?_set_ne (by omega), u1]
          have w2 : W[T'.length]? = some (.mem [DS k4 nl] true) := by rw [← hW, List.getElem?_set_ne (by omega), u2]
          have w3 : W[H.length + 3]? = some (.mem [DS true base] true) := by rw [← hW, List.getElem?_set_ne (by omega), u3]
          have w4 : W[H.length + 4]? = some (.vec (w + 1) ((dn ++ D).map oc) 3 true t) := by rw [← hW, List.getElem?_set_self m5, hY]
          have hW2 : W = H ++ Z2.set 4 Y := by rw [← hW, hU, List.set_append_right _ _ (by omega)]; simp
          refine CALLv.at (v_tellsO (kb := km) (kt := k3) (rw := true) (t0 := t) hgb hgt2.1 (by omega) hgt2.2 hok2 ⟨_, _, _, _, _, _, _, _, w1, w2, w3⟩ w4) fun u W' hu => ?_
          obtain ⟨e1, e2⟩ := hu
          subst e1; subst e2
          simp [h11, w64 (n := (i : Int) + 1) (by omega)]
          exact GH.refl ⟨(i + 1, nl, dn ++ D), ⟨k3, k4, w + 1, t, _, true, _, hW2, w1, w2, w3, w4, by simp [h1], by simp [h6], by simp [h7], by simp, by simp, by simp, hlt15, hdl2, hdo2, hok2⟩, by simp only; omega⟩
        · rw [if_neg hb0] at e2
          subst e2
          simp [h6, h7, h9, h10, h15, hb0]
          refine CALLv.at (v_tellsO (kb := km) (kt := kt) (rw := true) (t0 := t) hgb hgt.1 (by omega) hgt.2 hok hBV t4) fun u W' hu => ?_
          obtain ⟨e1, e2⟩ := hu
          subst e1; subst e2
          simp [h11, w64 (n := (i : Int) + 1) (by omega)]
          exact GH.refl ⟨(i + 1, tg, dn), ⟨kt, kc, w, t, gc, rc, _, hT, t1, t2, t3, t4, by simp [h1], by simp [h6], by simp [h7], by simp [h9], by simp [h10], by simp, hlt15, by simp only; omega, hdo, hok⟩, by simp only; omega⟩
    · have hT0 := hT
      by_cases hlt : i < ls.length
      · have hge : ¬ (i : Int) < 15 := by omega
        simp [h11, hlt, hge, h10, t4, h7]
        have hq : IntKind.i64.wrap ((dn.length : Int) / 2) = ((dn.length / 2 : Nat) : Int) := by rw [w64 (by omega)]; omega
        obtain ⟨n, hn2⟩ : ∃ n, dn.length / 2 = n := ⟨_, rfl⟩
        rw [hn2] at hq
        rw [hq]
        have hzn : (doL base 0 (dn.take n)).2 = 0 := doL_take n (by rw [hdo])
        refine CALLv.at (v_Prefix (n := n) hBV (by omega) (by omega) hgb.1 (fun o ho => by have := ochk_id (hgt.2 o ho); omega) hzn) fun u U hu => ?_
        obtain ⟨e1, k5, e2⟩ := hu
        have hgs : gooD (doL base 0 (dn.take n)).1 ∧ ∀ o ∈ dn.take n, ochk o = 0 := doL_good (n := 0) hgb (fun o ho => hok o (List.mem_of_mem_take ho)) hzn
        have hBP : BatV U T.length base (doL base 0 (dn.take n)).1 (dn.take n) := ⟨true, T.length + 1, T.length + 2, true, k5, true, true, true, by rw [e2]; simp [batO], by rw [e2]; simp [batO], by rw [e2]; simp [batO]⟩
        have hBU : BatV U (H.length + 1) base tg dn := by rw [e2]; exact hBV.app
        have u4 : U[H.length + 4]? = some (.vec w (dn.map oc) 3 true t) := by rw [e2, List.getElem?_append_left m4, t4]
        obtain ⟨Z2, hU⟩ : ∃ Z2, U = H ++ Z2 := ⟨_, by rw [e2, hT, List.append_assoc]⟩
        have m5 := get_lt u4
        clear e2
        subst e1
        simp [h6]
        refine v_loopX hC (fun (X : Nat) e U' => ∃ (k3 : Bool), U' = U ∧ e 6 = DS km base ∧ e 7 = .ptr (H.length + 1) 0 ∧ e 10 = .own (H.length + 4) w ∧ e 17 = i6 n ∧ e 18 = .ptr T.length 0 ∧ e 19 = i6 0 ∧ e 20 = DS k3 (doL base 0 (dn.take X)).1 ∧ e 21 = i6 X ∧ X ≤ n) (fun X => n - X) 0 (G.refl ?_) ?_
        · exact ⟨km, rfl, by simp [h6], by simp [h7], by simp [h10], by simp, by simp, by simp, by simp [h6, doL], by simp, by simp⟩
        rintro j e U' ⟨k3, rfl, h6, h7, h10, h17, h18, h19, h20, h21, hj⟩
        simp [h17, h21]
        refine CondV.dec (fun hjl => ?_) (fun hjg => ?_)
        · have hjd : j < dn.length := by omega
          simp [h10, h20, h21, u4, getO hjd]
          refine ⟨hjd, ?_⟩
          refine (v_r26One (kk := k3) (l := (doL base 0 (dn.take j)).1) (o := oAt dn j) (ahead := (j : Int)) (doL_good (n := 0) hgb (fun o ho => hok o (List.mem_of_mem_take ho)) (doL_take j (by rw [hdo]))).1.1).call ?_
          have hsn : (oneD (doL base 0 (dn.take j)).1 (oAt dn j) 0).2 = 0 ∧ (doL base 0 (dn.take (j + 1))).1 = (oneD (doL base 0 (dn.take j)).1 (oAt dn j) 0).1 := by
            have h := doL_take (j + 1) (show (doL base 0 dn).2 = 0 by rw [hdo])
            rw [List.take_succ_eq_append_getElem hjd, ← oAt_eq dn j hjd] at h ⊢
            exact doL_snoc h
          rw [oneD_lt (show (j : Int) < 64 by omega)]
          simp [hsn.1, h21, w64 (n := (j : Int) + 1) (by omega)]
          exact GH.refl ⟨j + 1, ⟨true, rfl, by simp [h6], by simp [h7], by simp [h10], by simp [h17], by simp [h18], by simp [h19], by simp [hsn.2], by simp, hjl⟩, by omega⟩
        · have hjn : j = n := by omega
          subst hjn
          simp [h7, h10, u4, w64 (n := (dn.length : Int) + 1) (by omega)]
          refine CALLv.at (v_Prefix_bad (n := (dn.length : Int) + 1) hBU (by omega)) fun u W hu => ?_
          obtain ⟨e1, e2⟩ := hu
          subst e1; subst e2
          simp [h7]
          refine CALLv.at (v_Prefix_bad (n := -1) hBU (by omega)) fun u W hu => ?_
          obtain ⟨e1, e2⟩ := hu
          subst e1; subst e2
          simp
          refine v_known26.callF [] (Frz.vec (g := H.length + 4) (w := w) (s := 3) (rows := dn.map oc) (rw := true) (t := t) u4 (PureR_map.2 fun a _ => by simp)) (by simp) ?_
          obtain ⟨V0, hV0⟩ : ∃ V0, W.set (H.length + 4) (.fro w (dn.map oc) 3) = V0 := ⟨_, rfl⟩
          rw [hV0]
          have f4 : V0[H.length + 4]? = some (.fro w (dn.map oc) 3) := by rw [← hV0, List.getElem?_set_self m5]
          have hbd : bounds dn.length dn.length none (some (j : Int)) none = some (0, j, dn.length) := bounds_hi (by omega)
          simp [h6, h10, h17, h18, h19, h20, f4, hbd]
          rw [← List.map_take]
          have hBV0 : BatV V0 T.length base (doL base 0 (dn.take j)).1 (dn.take j) := by
            obtain ⟨r1, gc', gb', ko, kc', r2, kb', r3, b1, b2, b3⟩ := hBP
            have hne : ∀ k cs r, W[k]? = some (.mem cs r) → k ≠ H.length + 4 := fun k cs r hk h => by rw [h, u4] at hk; cases hk
            exact ⟨r1, gc', gb', ko, kc', r2, kb', r3, by rw [← hV0, List.getElem?_set_ne (hne _ _ _ b1).symm, b1], by rw [← hV0, List.getElem?_set_ne (hne _ _ _ b2).symm, b2], by rw [← hV0, List.getElem?_set_ne (hne _ _ _ b3).symm, b3]⟩
          obtain ⟨Z3, hV⟩ : ∃ Z3, V0 = H ++ Z3 := ⟨_, by rw [← hV0, hU, List.set_append_right _ _ (by omega)]⟩
          refine CALLv.at (v_tells (kb := km) (kt := k3) (ko := true) hgb hgs.1 (by rw [List.length_take]; omega) hgs.2 (fun o ho => hok o (List.mem_of_mem_take ho)) hBV0) fun u W' hu => ?_
          obtain ⟨e1, e2⟩ := hu
          subst e1; subst e2
          simp [Try.results4]
          rw [hV]
          first | (refine GV.ans hcl ?_; simp []; done) | (refine GV.ans0 ?_; simp []; done)
      · simp [hlt, h10, t4, h7]
        have hq : IntKind.i64.wrap ((dn.length : Int) / 2) = ((dn.length / 2 : Nat) : Int) := by rw [w64 (by omega)]; omega
        obtain ⟨n, hn2⟩ : ∃ n, dn.length / 2 = n := ⟨_, rfl⟩
        rw [hn2] at hq
        rw [hq]
        have hzn : (doL base 0 (dn.take n)).2 = 0 := doL_take n (by rw [hdo])
        refine CALLv.at (v_Prefix (n := n) hBV (by omega) (by omega) hgb.1 (fun o ho => by have := ochk_id (hgt.2 o ho); omega) hzn) fun u U hu => ?_
        obtain ⟨e1, k5, e2⟩ := hu
        have hgs : gooD (doL base 0 (dn.take n)).1 ∧ ∀ o ∈ dn.take n, ochk o = 0 := doL_good (n := 0) hgb (fun o ho => hok o (List.mem_of_mem_take ho)) hzn
        have hBP : BatV U T.length base (doL base 0 (dn.take n)).1 (dn.take n) := ⟨true, T.length + 1, T.length + 2, true, k5, true, true, true, by rw [e2]; simp [batO], by rw [e2]; simp [batO], by rw [e2]; simp [batO]⟩
        have hBU : BatV U (H.length + 1) base tg dn := by rw [e2]; exact hBV.app
        have u4 : U[H.length + 4]? = some (.vec w (dn.map oc) 3 true t) := by rw [e2, List.getElem?_append_left m4, t4]
        obtain ⟨Z2, hU⟩ : ∃ Z2, U = H ++ Z2 := ⟨_, by rw [e2, hT, List.append_assoc]⟩
        have m5 := get_lt u4
        clear e2
        subst e1
        simp [h6]
        refine v_loopX hC (fun (X : Nat) e U' => ∃ (k3 : Bool), U' = U ∧ e 6 = DS km base ∧ e 7 = .ptr (H.length + 1) 0 ∧ e 10 = .own (H.length + 4) w ∧ e 17 = i6 n ∧ e 18 = .ptr T.length 0 ∧ e 19 = i6 0 ∧ e 20 = DS k3 (doL base 0 (dn.take X)).1 ∧ e 21 = i6 X ∧ X ≤ n) (fun X => n - X) 0 (G.refl ?_) ?_
        · exact ⟨km, rfl, by simp [h6], by simp [h7], by simp [h10], by simp, by simp, by simp, by simp [h6, doL], by simp, by simp⟩
        rintro j e U' ⟨k3, rfl, h6, h7, h10, h17, h18, h19, h20, h21, hj⟩
        simp [h17, h21]
        refine CondV.dec (fun hjl => ?_) (fun hjg => ?_)
        · have hjd : j < dn.length := by omega
          simp [h10, h20, h21, u4, getO hjd]
          refine ⟨hjd, ?_⟩
          refine (v_r26One (kk := k3) (l := (doL base 0 (dn.take j)).1) (o := oAt dn j) (ahead := (j : Int)) (doL_good (n := 0) hgb (fun o ho => hok o (List.mem_of_mem_take ho)) (doL_take j (by rw [hdo]))).1.1).call ?_
          have hsn : (oneD (doL base 0 (dn.take j)).1 (oAt dn j) 0).2 = 0 ∧ (doL base 0 (dn.take (j + 1))).1 = (oneD (doL base 0 (dn.take j)).1 (oAt dn j) 0).1 := by
            have h := doL_take (j + 1) (show (doL base 0 dn).2 = 0 by rw [hdo])
            rw [List.take_succ_eq_append_getElem hjd, ← oAt_eq dn j hjd] at h ⊢
            exact doL_snoc h
          rw [oneD_lt (show (j : Int) < 64 by omega)]
          simp [hsn.1, h21, w64 (n := (j : Int) + 1) (by omega)]
          exact GH.refl ⟨j + 1, ⟨true, rfl, by simp [h6], by simp [h7], by simp [h10], by simp [h17], by simp [h18], by simp [h19], by simp [hsn.2], by simp, hjl⟩, by omega⟩
        · have hjn : j = n := by omega
          subst hjn
          simp [h7, h10, u4, w64 (n := (dn.length : Int) + 1) (by omega)]
          refine CALLv.at (v_Prefix_bad (n := (dn.length : Int) + 1) hBU (by omega)) fun u W hu => ?_
          obtain ⟨e1, e2⟩ := hu
          subst e1; subst e2
          simp [h7]
          refine CALLv.at (v_Prefix_bad (n := -1) hBU (by omega)) fun u W hu => ?_
          obtain ⟨e1, e2⟩ := hu
          subst e1; subst e2
          simp
          refine v_known26.callF [] (Frz.vec (g := H.length + 4) (w := w) (s := 3) (rows := dn.map oc) (rw := true) (t := t) u4 (PureR_map.2 fun a _ => by simp)) (by simp) ?_
          obtain ⟨V0, hV0⟩ : ∃ V0, W.set (H.length + 4) (.fro w (dn.map oc) 3) = V0 := ⟨_, rfl⟩
          rw [hV0]
          have f4 : V0[H.length + 4]? = some (.fro w (dn.map oc) 3) := by rw [← hV0, List.getElem?_set_self m5]
          have hbd : bounds dn.length dn.length none (some (j : Int)) none = some (0, j, dn.length) := bounds_hi (by omega)
          simp [h6, h10, h17, h18, h19, h20, f4, hbd]
          rw [← List.map_take]
          have hBV0 : BatV V0 T.length base (doL base 0 (dn.take j)).1 (dn.take j) := by
            obtain ⟨r1, gc', gb', ko, kc', r2, kb', r3, b1, b2, b3⟩ := hBP
            have hne : ∀ k cs r, W[k]? = some (.mem cs r) → k ≠ H.length + 4 := fun k cs r hk h => by rw [h, u4] at hk; cases hk
            exact ⟨r1, gc', gb', ko, kc', r2, kb', r3, by rw [← hV0, List.getElem?_set_ne (hne _ _ _ b1).symm, b1], by rw [← hV0, List.getElem?_set_ne (hne _ _ _ b2).symm, b2], by rw [← hV0, List.getElem?_set_ne (hne _ _ _ b3).symm, b3]⟩
          obtain ⟨Z3, hV⟩ : ∃ Z3, V0 = H ++ Z3 := ⟨_, by rw [← hV0, hU, List.set_append_right _ _ (by omega)]⟩
          refine CALLv.at (v_tells (kb := km) (kt := k3) (ko := true) hgb hgs.1 (by rw [List.length_take]; omega) hgs.2 (fun o ho => hok o (List.mem_of_mem_take ho)) hBV0) fun u W' hu => ?_
          obtain ⟨e1, e2⟩ := hu
          subst e1; subst e2
          simp [Try.results4]
          rw [hV]
          first | (refine GV.ans hcl ?_; simp []; done) | (refine GV.ans0 ?_; simp []; done)
end Go.Proofs.Ytldhfdagmaklaaa.VM
end
section
set_option maxHeartbeats 8000000
set_option linter.unusedVariables false
set_option linter.unusedSimpArgs false

/- Documents and operations as a batch law's arguments; BatchPlays at the arguments as they read. -/
namespace Go.Proofs.Ytldhfdagmaklaaa
open Go Go.RowKit AM VM B
namespace VM
theorem wf64 {x : Int} (h : (Lit.int .i64 x).wf = true) : -9223372036854775808 ≤ x ∧ x ≤ 9223372036854775807 := by
  simp [Lit.wf, IntKind.min, IntKind.max, IntKind.signed, IntKind.bits] at h
  omega
theorem rd_three {H : Type} {enc : TypeId × Value → H} {P : Program} {w : World} {t : TypeId} {f0 f1 f2 : Field} {cs : List Value} (h : Rd enc P w t cs) (ht : P.underlying t = some (.struct #[f0, f1, f2])) {a b c : Nat} (o0 : f0.offset = 0) (c0 : P.cellsOf f0.type = a) (o1 : f1.offset = a) (c1 : P.cellsOf f1.type = b) (o2 : f2.offset = a + b) (c2 : P.cellsOf f2.type = c) (hc : P.cellsOf t = a + b + c) :
    ∃ x y z, cs = x ++ (y ++ z) ∧ x.length = a ∧ y.length = b ∧ z.length = c ∧ Rd enc P w f0.type x ∧ Rd enc P w f1.type y ∧ Rd enc P w f2.type z := by
  obtain ⟨m, x, hm⟩ := h
  obtain ⟨y0, y1, y2, n, _, hl, h0, h1, h2⟩ := Go.Deep.trod_struct3 ht hm
  rw [o0, c0, List.drop_zero] at h0
  rw [o1, c1] at h1
  rw [o2, c2] at h2
  have e1 : (cs.drop (a + b)).take c = cs.drop (a + b) := List.take_of_length_le (by simp; omega)
  rw [e1] at h2
  refine ⟨cs.take a, (cs.drop a).take b, cs.drop (a + b), ?_, by simp; omega, by simp; omega, by simp; omega, ⟨n, _, h0⟩, ⟨n, _, h1⟩, ⟨n, _, h2⟩⟩
  rw [← List.drop_drop, List.take_append_drop, List.take_append_drop]
/-- An operation's cells. -/
theorem rd_op {H : Type} {enc : TypeId × Value → H} {w : World} {cs : List Value} (h : Rd enc Try.prog w 50 cs) : ∃ k, ∃ o : Oc, o.b.length < 2 ^ 63 ∧ (∀ x ∈ o.b, 0 ≤ x ∧ x ≤ 255) ∧ (-9223372036854775808 ≤ o.id ∧ o.id ≤ 9223372036854775807) ∧ CellsV w (ocK k o) cs := by
  obtain ⟨x, y, z, e, _, _, _, hx, hy, hz⟩ := rd_three h Try.underlying50 (a := 1) (b := 1) (c := 1) rfl (by kernel_rfl) rfl (by kernel_rfl) rfl (by kernel_rfl) (by kernel_rfl)
  obtain ⟨d, rfl⟩ := hx.bool Try.underlying4
  obtain ⟨s, rfl, hw⟩ := hy.int Try.underlying3
  obtain ⟨v, k, l, rfl, h1, h2, h3⟩ := rd_bytes hz
  exact ⟨k, ⟨d, s, l⟩, h1, h2, wf64 hw, by rw [e]; exact ⟨_, _, rfl, .lit rfl, _, _, rfl, .lit rfl, _, _, rfl, h3, rfl⟩⟩
theorem rd_doc {H : Type} {enc : TypeId × Value → H} {w : World} {cs : List Value} (h : Rd enc Try.prog w 90 cs) : ∃ k, ∃ d : Dc, d.b.length < 2 ^ 63 ∧ (∀ x ∈ d.b, 0 ≤ x ∧ x ≤ 255) ∧ (-9223372036854775808 ≤ d.id ∧ d.id ≤ 9223372036854775807) ∧ CellsV w (dcK k d) cs := by
  obtain ⟨x, y, e, _, _, hx, hy⟩ := rd_two h Try.underlying90 (a := 1) (b := 1) rfl (by kernel_rfl) rfl (by kernel_rfl) (by kernel_rfl)
  obtain ⟨s, rfl, hw⟩ := hx.int Try.underlying3
  obtain ⟨v, k, l, rfl, h1, h2, h3⟩ := rd_bytes hy
  exact ⟨k, ⟨s, l⟩, h1, h2, wf64 hw, by rw [e]; exact ⟨_, _, rfl, .lit rfl, _, _, rfl, h3, rfl⟩⟩
theorem rows_dc : ∀ {rows : List (List V)}, (∀ r ∈ rows, ∃ k, ∃ d : Dc, (d.b.length < 2 ^ 63 ∧ ∀ x ∈ d.b, 0 ≤ x ∧ x ≤ 255) ∧ r = dcK k d) → ∃ l : List (Bool × Dc), rows = (l.map fun p => dcK p.1 p.2) ∧ ∀ p ∈ l, p.2.b.length < 2 ^ 63 ∧ ∀ x ∈ p.2.b, 0 ≤ x ∧ x ≤ 255
  | [], _ => ⟨[], rfl, by simp⟩
  | r :: rs, h => by
    obtain ⟨k, d, he1, he2⟩ := h r (by simp)
    obtain ⟨l, hl, hb⟩ := rows_dc (rows := rs) fun x hx => h x (by simp [hx])
    refine ⟨(k, d) :: l, by rw [he2, hl]; rfl, fun x hx => ?_⟩
    rcases List.mem_cons.1 hx with rfl | hx
    · exact he1
    · exact hb x hx
theorem rows_oc : ∀ {rows : List (List V)}, (∀ r ∈ rows, ∃ k, ∃ d : Oc, (d.b.length < 2 ^ 63 ∧ okO d) ∧ r = ocK k d) → ∃ l : List (Bool × Oc), rows = (l.map fun p => ocK p.1 p.2) ∧ ∀ p ∈ l, p.2.b.length < 2 ^ 63 ∧ okO p.2
  | [], _ => ⟨[], rfl, by simp⟩
  | r :: rs, h => by
    obtain ⟨k, d, he1, he2⟩ := h r (by simp)
    obtain ⟨l, hl, hb⟩ := rows_oc (rows := rs) fun x hx => h x (by simp [hx])
    refine ⟨(k, d) :: l, by rw [he2, hl]; rfl, fun x hx => ?_⟩
    rcases List.mem_cons.1 hx with rfl | hx
    · exact he1
    · exact hb x hx
/-- Documents. -/
theorem arg_docs {H : Type} {enc : TypeId × Value → H} {w : World} {v : Value} (h : Rd enc Try.prog w 34 [v]) : ∃ kk, ∃ l : List (Bool × Dc), l.length < 2 ^ 63 ∧ (∀ p ∈ l, p.2.b.length < 2 ^ 63 ∧ byD p.2) ∧ ArgV w (DSf kk l) v := by
  obtain ⟨u, kk, rows, e, hc, hl, hg⟩ := rd_sliceV (fun r => ∃ k, ∃ d : Dc, (d.b.length < 2 ^ 63 ∧ ∀ x ∈ d.b, 0 ≤ x ∧ x ≤ 255) ∧ r = dcK k d) h Try.underlying34 (by kernel_rfl : Try.prog.cellsOf 90 = 2) (by omega) (by omega) (fun es h1 h2 => by
    obtain ⟨k, d, g1, g2, _, g4⟩ := rd_doc h2
    exact ⟨dcK k d, rfl, g4, k, d, ⟨g1, g2⟩, rfl⟩)
  obtain ⟨l, rfl, hb⟩ := rows_dc hg
  cases e
  exact ⟨kk, l, by simp only [List.length_map, maxLen] at hl; omega, hb, hc.arg⟩
/-- Operations. -/
theorem rd_ops {H : Type} {enc : TypeId × Value → H} {w : World} {cs : List Value} (h : Rd enc Try.prog w 42 cs) : ∃ v kk, ∃ l : List (Bool × Oc), cs = [v] ∧ l.length < 2 ^ 63 ∧ (∀ p ∈ l, p.2.b.length < 2 ^ 63 ∧ okO p.2) ∧ CellV w (OSf kk l) v := by
  obtain ⟨u, kk, rows, e, hc, hl, hg⟩ := rd_sliceV (fun r => ∃ k, ∃ d : Oc, (d.b.length < 2 ^ 63 ∧ okO d) ∧ r = ocK k d) h Try.underlying42 (by kernel_rfl : Try.prog.cellsOf 50 = 3) (by omega) (by omega) (fun es h1 h2 => by
    obtain ⟨k, d, g1, g2, _, g4⟩ := rd_op h2
    exact ⟨ocK k d, rfl, g4, k, d, ⟨g1, g2⟩, rfl⟩)
  obtain ⟨l, rfl, hb⟩ := rows_oc hg
  exact ⟨u, kk, l, e, by simp only [List.length_map, maxLen] at hl; omega, hb, hc⟩
theorem rows_ocs : ∀ {rows : List (List V)}, (∀ r ∈ rows, ∃ (k : Bool) (l : List (Bool × Oc)), (l.length < 2 ^ 63 ∧ ∀ p ∈ l, p.2.b.length < 2 ^ 63 ∧ okO p.2) ∧ r = [OSf k l]) → ∃ ls : List (Bool × List (Bool × Oc)), rows = (ls.map fun p => [OSf p.1 p.2]) ∧ ∀ p ∈ ls, p.2.length < 2 ^ 63 ∧ ∀ q ∈ p.2, q.2.b.length < 2 ^ 63 ∧ okO q.2
  | [], _ => ⟨[], rfl, by simp⟩
  | r :: rs, h => by
    obtain ⟨k, l, he1, he2⟩ := h r (by simp)
    obtain ⟨ls, hl, hb⟩ := rows_ocs (rows := rs) fun x hx => h x (by simp [hx])
    refine ⟨(k, l) :: ls, by rw [he2, hl]; rfl, fun x hx => ?_⟩
    rcases List.mem_cons.1 hx with rfl | hx
    · exact he1
    · exact hb x hx
theorem arg_ocs {H : Type} {enc : TypeId × Value → H} {w : World} {v : Value} (h : Rd enc Try.prog w 35 [v]) : ∃ kk, ∃ ls : List (Bool × List (Bool × Oc)), ls.length < 2 ^ 63 ∧ (∀ p ∈ ls, p.2.length < 2 ^ 63 ∧ ∀ q ∈ p.2, q.2.b.length < 2 ^ 63 ∧ okO q.2) ∧ ArgV w (OOS kk ls) v := by
  obtain ⟨u, kk, rows, e, hc, hl, hg⟩ := rd_sliceV (fun r => ∃ (k : Bool) (l : List (Bool × Oc)), (l.length < 2 ^ 63 ∧ ∀ p ∈ l, p.2.b.length < 2 ^ 63 ∧ okO p.2) ∧ r = [OSf k l]) h Try.underlying35 (by kernel_rfl : Try.prog.cellsOf 42 = 1) (by omega) (by omega) (fun es h1 h2 => by
    obtain ⟨v, k, l, rfl, g1, g2, g3⟩ := rd_ops h2
    exact ⟨[OSf k l], rfl, ⟨_, _, rfl, g3, rfl⟩, k, l, ⟨g1, g2⟩, rfl⟩)
  obtain ⟨ls, rfl, hb⟩ := rows_ocs hg
  cases e
  exact ⟨kk, ls, by simp only [List.length_map, maxLen] at hl; omega, hb, hc.arg⟩
end VM
theorem batchPlays_row {H : Type} {enc : TypeId × Value → H} (A0 : Option Addr) (n0 c0 : Nat) (A1 : Option Addr) (n1 c1 : Nat) (w : World) (h0 : Rd enc Try.prog w 34 [.slice A0 n0 c0]) (h1 : Rd enc Try.prog w 35 [.slice A1 n1 c1]) :
    Calls Try.prog 4 #[.slice A0 n0 c0, .slice A1 n1 c1] w fun e w' => e = .returned (.bool true) ∧ Below w.heap.size w w' := by
  obtain ⟨kk, l, hl, hb, ha⟩ := arg_docs h0
  obtain ⟨kl, ls, hls, hbs, has⟩ := arg_ocs h1
  exact (v_BatchPlays hl hb hls hbs).law mixed prims_ok ⟨_, _, Try.func4, rfl, by decide +kernel⟩ ⟨_, _, rfl, ha, _, _, rfl, has, rfl⟩
end Go.Proofs.Ytldhfdagmaklaaa
end
section
set_option maxHeartbeats 8000000
set_option linter.unusedVariables false
set_option linter.unusedSimpArgs false

/- varint: number, Get. -/
namespace Go.Proofs.Ytldhfdagmaklaaa.VM
open Go Go.Proofs AM B
set_option maxRecDepth 100000
/-- A number's bytes read: the number, how many bytes, what is wrong. -/
def numF (gr : Nat) : Nat → Nat → List Int → Nat × Nat × Int
  | _, _, [] => (0, 0, 4)
  | i, n, c :: cs =>
    if 9 < i ∨ 18446744073709551615 / 2 ^ (7 * i) < (c % 128).toNat ∨ gr < n + (c % 128).toNat * 2 ^ (7 * i) then (0, 0, 3)
    else if c = 0 ∧ 0 < i then (0, 0, 3)
    else if c < 128 then (n + (c % 128).toNat * 2 ^ (7 * i), i + 1, 0)
    else numF gr (i + 1) (n + (c % 128).toNat * 2 ^ (7 * i)) cs
theorem bits_andNot {c : Int} (h : 0 ≤ c ∧ c ≤ 255) : IntKind.u64.wrap (bits BinOp.andNot IntKind.u8 c 128) = ((c % 128).toNat : Int) := by
  have : ∀ r : Fin 256, IntKind.u64.wrap (bits BinOp.andNot IntKind.u8 ((r : Nat) : Int) 128) = ((((r : Nat) : Int) % 128).toNat : Int) := by decide +kernel
  have := this ⟨c.toNat, by omega⟩
  rw [show ((c.toNat : Nat) : Int) = c by omega] at this
  exact this
theorem bits_or64 {k n p : Nat} (hk : k ≤ 9) (hn : n < 2 ^ (7 * k)) (hp : n + p * 2 ^ (7 * k) < 18446744073709551616) : bits BinOp.or IntKind.u64 (n : Int) ((p * 2 ^ (7 * k) : Nat) : Int) = ((n + p * 2 ^ (7 * k) : Nat) : Int) := by
  have e : n ||| p * 2 ^ (7 * k) = n + p * 2 ^ (7 * k) := by
    rw [Nat.mul_comm, Nat.or_comm, ← Nat.two_pow_add_eq_or_of_lt hn]; omega
  have a1 : BitVec.ofInt 64 (n : Int) = BitVec.ofNat 64 n := by simp
  have a2 : BitVec.ofInt 64 ((p * 2 ^ (7 * k) : Nat) : Int) = BitVec.ofNat 64 (p * 2 ^ (7 * k)) := by rw [BitVec.ofInt_natCast]
  show IntKind.u64.wrap (((BitVec.ofInt 64 (n : Int) ||| BitVec.ofInt 64 ((p * 2 ^ (7 * k) : Nat) : Int)).toNat : Nat) : Int) = _
  rw [a1, a2, BitVec.toNat_or, BitVec.toNat_ofNat, BitVec.toNat_ofNat]
  rw [Nat.mod_eq_of_lt (by omega), Nat.mod_eq_of_lt (by omega), e]
  generalize p * 2 ^ (7 * k) = W at *
  simp only [IntKind.wrap, IntKind.bits, IntKind.signed]
  simp
  omega
theorem small {k p n : Nat} (hk : k ≤ 9) (hp : p ≤ 18446744073709551615 / 2 ^ (7 * k)) (hn : n < 2 ^ (7 * k)) : p * 2 ^ (7 * k) < 18446744073709551616 ∧ n + p * 2 ^ (7 * k) < 18446744073709551616 := by
  have h : k = 0 ∨ k = 1 ∨ k = 2 ∨ k = 3 ∨ k = 4 ∨ k = 5 ∨ k = 6 ∨ k = 7 ∨ k = 8 ∨ k = 9 := by omega
  rcases h with rfl | rfl | rfl | rfl | rfl | rfl | rfl | rfl | rfl | rfl <;> simp only [Nat.reduceMul, Nat.reducePow] at * <;> omega
theorem next128 {k p n : Nat} (hp : p < 128) (hn : n < 2 ^ (7 * k)) : n + p * 2 ^ (7 * k) < 2 ^ (7 * (k + 1)) := by
  rw [Nat.mul_add, Nat.pow_add]
  have : p * 2 ^ (7 * k) ≤ 127 * 2 ^ (7 * k) := Nat.mul_le_mul_right _ (by omega)
  generalize 2 ^ (7 * k) = D at *
  simp only [Nat.mul_one, Nat.reducePow]
  omega
theorem v_number {T : Hp} {g : Nat} {kk : Bool} {l : List Int} {gr : Nat} (hg : T[g]? = some (.mem [BS kk l, i6 0] true)) (hl : l.length ≤ 100000) (hb : ∀ x ∈ l, 0 ≤ x ∧ x ≤ 255) (hgr : gr < 18446744073709551616) :
    VC Try.prog prims 127 [.ptr g 0, .lit (.int .u64 gr)] T fun u U => u = .lit (.int .u64 (numF gr 0 0 l).1) ∧ ∃ k', U = T.set g (.mem [BS k' (l.drop (numF gr 0 0 l).2.1), i6 (numF gr 0 0 l).2.2] true) := by
  refine v_enter hC [] (fun _ _ => kn_none rfl) Try.func127 rfl ok127 (Nat.le_of_ble_eq_true rfl) fun hcl hbl => ?_
  simp [hg]
  refine v_loopX hC (fun (X : Nat × Nat) e U => U = T ∧ e 0 = .ptr g 0 ∧ e 1 = .lit (.int .u64 gr) ∧ e 5 = .lit (.int .u64 X.2) ∧ e 19 = BS kk l ∧ e 20 = i6 l.length ∧ e 21 = i6 X.1 ∧ e 4 = .lit (.int .u64 0) ∧ X.1 ≤ l.length ∧ X.2 < 2 ^ (7 * X.1) ∧ X.2 ≤ gr ∧ numF gr 0 0 l = numF gr X.1 X.2 (l.drop X.1)) (fun X => l.length - X.1) (0, 0) (G.refl ?_) ?_
  · simp
  · rintro ⟨k, n⟩ e U ⟨rfl, h0, h1, h5, h19, h20, h21, h4, hk, hn, hng, hv⟩
    simp only at h5 h21 hk hn hng hv
    simp [h20, h21]
    refine CondV.dec (fun hlt => ?_) (fun hge => ?_)
    · have hlt : k < l.length := by omega
      have hc := hb l[k] (List.getElem_mem hlt)
      rw [List.drop_eq_getElem_cons hlt] at hv
      generalize hcv : l[k] = c at hv hc
      simp [h0, h1, h5, h19, h20, h21, getL hlt, hcv, w64 (n := 7 * (k : Int)) (by omega)]
      have hset : ∀ y, (U.set g y)[g]? = some y := fun y => List.getElem?_set_self (get_lt hg)
      have nn : ¬ 7 * (k : Int) < 0 := by omega
      by_cases h9 : 9 < k
      · have h63 : 63 < 7 * (k : Int) := by omega
        have hv : numF gr 0 0 l = (0, 0, 3) := by rw [hv, numF, if_pos (Or.inl h9)]
        simp [h0, h1, h5, h19, h20, h21, getL hlt, hcv, hg, hset, h63, hv, h4, Try.results127]
        exact GV.refl ⟨by simp [hv], kk, by simp [hv]⟩
      · have h63 : ¬ 63 < 7 * (k : Int) := by omega
        have hmn : min (7 * (k : Int)).toNat IntKind.u64.bits = 7 * k := by simp [IntKind.bits]; omega
        have hfd : Int.fdiv 18446744073709551615 (2 ^ min (7 * (k : Int)).toNat IntKind.u64.bits) = ((18446744073709551615 / 2 ^ (7 * k) : Nat) : Int) := by
          rw [hmn, Int.fdiv_eq_ediv_of_nonneg _ (by exact Int.pow_nonneg (by decide))]
          simp
        obtain ⟨p, hp⟩ : ∃ p : Nat, (c % 128).toNat = p := ⟨_, rfl⟩
        have hp1 := bits_andNot hc
        rw [hp] at hp1
        have hpl : p < 128 := by omega
        have hk9 : k ≤ 9 := by omega
        simp only [numF, hp] at hv
        have bad : 9 < k ∨ 18446744073709551615 / 2 ^ (7 * k) < p ∨ gr < n + p * 2 ^ (7 * k) → numF gr 0 0 l = (0, 0, 3) := fun h => by rw [hv, if_pos h]
        have hsh : ∀ q : Nat, q * 2 ^ (7 * k) < 18446744073709551616 → IntKind.u64.wrap ((q : Int) * 2 ^ min (7 * (k : Int)).toNat IntKind.u64.bits) = ((q * 2 ^ (7 * k) : Nat) : Int) := fun q hq => by
          rw [hmn, show ((q : Int) * 2 ^ (7 * k)) = ((q * 2 ^ (7 * k) : Nat) : Int) by simp]
          generalize q * 2 ^ (7 * k) = W at *
          simp [IntKind.wrap, IntKind.bits, IntKind.signed]
          omega
        have hsm := small (k := k) (p := p) (n := n) hk9
        have hor := bits_or64 (k := k) (p := p) (n := n) hk9 hn
        have hnx := next128 (k := k) (p := p) (n := n) hpl hn
        have hsp := hsh p
        generalize hW : p * 2 ^ (7 * k) = W at *
        generalize hM : 18446744073709551615 / 2 ^ (7 * k) = M at *
        clear hsh
        by_cases hA : M < p
        · have hA' : (M : Int) < (p : Int) := by omega
          have hv := bad (Or.inr (Or.inl hA))
          simp [h0, h1, h5, h19, h20, h21, getL hlt, hcv, hg, hset, h63, nn, hfd, hp1, hA, h4, Try.results127]
          exact GV.refl ⟨by simp [hv], kk, by simp [hv]⟩
        · have hA' : ¬ (M : Int) < (p : Int) := by omega
          obtain ⟨u1, u2⟩ := hsm (by omega) hn
          have hor := hor u2
          have hsp := hsp u1
          simp [h0, h1, h5, h19, h20, h21, getL hlt, hcv, hg, hset, h63, nn, hfd, hp1, hA, hsp, hor]
          refine CondV.dec (fun hG => ?_) (fun hG => ?_)
          · have hv := bad (Or.inr (Or.inr (by omega)))
            simp [h0, h1, h5, h19, h20, h21, getL hlt, hcv, hg, hset, hv, h4, Try.results127]
            exact GV.refl ⟨by simp [hv], kk, by simp [hv]⟩
          · rw [if_neg (by omega)] at hv
            simp [h0, h1, h5, h19, h20, h21, getL hlt, hcv, hg, hset, hsp, hor]
            by_cases hz : c = 0 ∧ 0 < k
            · obtain ⟨c0, k0⟩ := hz
              rw [if_pos ⟨c0, k0⟩] at hv
              simp [h0, h1, h5, h19, h20, h21, getL hlt, hcv, hg, hset, c0, k0, hv, h4, Try.results127]
              exact GV.refl ⟨by simp [hv], kk, by simp [hv]⟩
            · rw [if_neg hz] at hv
              have nk : c = 0 → ¬ 0 < k := fun h1 h2 => hz ⟨h1, h2⟩
              by_cases c0 : c = 0
              · have nk := nk c0
                rw [if_pos (by omega)] at hv
                have hp0 := hp1
                rw [c0] at hp0
                simp [h0, h1, h5, h19, h20, h21, getL hlt, hcv, hg, hset, c0, nk, nn, hp0, hsp, hor]
                simp [h0, h1, h5, h19, h20, h21, hg, nn, hp1, hsp, hor, w64 (n := (k : Int) + 1) (by omega)]
                refine CALLv.at (v_take (n := k + 1) hg hl (by omega)) fun u T' hu => ?_
                obtain ⟨e1, e2⟩ := hu
                subst e1; subst e2
                simp [nn, hp1, hsp, hor, h5, Try.results127]
                exact GV.refl ⟨by simp [hv], false, by simp [hv]⟩
              · simp [h0, h1, h5, h19, h20, h21, getL hlt, hcv, hg, hset, c0, nn, hp1, hsp, hor]
                refine CondV.dec (fun hs => ?_) (fun hs => ?_)
                rotate_left
                · rw [if_neg hs] at hv
                  simp [h0, h1, h19, h20, h21, w64 (n := (k : Int) + 1) (by omega)]
                  refine GH.refl ⟨(k + 1, n + W), ⟨rfl, ?_, ?_, ?_, ?_, ?_, ?_, ?_, hlt, hnx, by omega, hv⟩, by omega⟩ <;> simp [h0, h1, h4, h19, h20]
                rw [if_pos hs] at hv
                simp [h0, h1, h5, h19, h20, h21, hg, nn, hp1, hsp, hor, w64 (n := (k : Int) + 1) (by omega)]
                refine CALLv.at (v_take (n := k + 1) hg hl (by omega)) fun u T' hu => ?_
                obtain ⟨e1, e2⟩ := hu
                subst e1; subst e2
                simp [nn, hp1, hsp, hor, h5, Try.results127]
                exact GV.refl ⟨by simp [hv], false, by simp [hv]⟩
    · rw [List.drop_of_length_le (by omega)] at hv
      simp [h0, hg, h4, Try.results127]
      exact GV.refl ⟨by simp [hv, numF], kk, by simp [hv, numF]⟩
/-- What Get answers. -/
def getN (l : List Int) : Nat × Nat × Int := numF 9223372036854775807 0 0 l
theorem numF_le {gr : Nat} : ∀ (l : List Int) (i n : Nat), (numF gr i n l).1 ≤ gr ∧ (numF gr i n l).2.1 ≤ i + l.length
  | [], i, n => by simp [numF]
  | c :: cs, i, n => by
    unfold numF
    split
    · simp
    · split
      · simp
      · split
        · rename_i h1 h2 h3
          refine ⟨?_, ?_⟩
          · simp only; omega
          · simp only [List.length_cons]; omega
        · have := numF_le (gr := gr) cs (i + 1) (n + (c % 128).toNat * 2 ^ (7 * i))
          refine ⟨this.1, ?_⟩
          have := this.2
          simp only [List.length_cons]; omega
theorem v_Get {kk : Bool} {l : List Int} (hl : l.length ≤ 100000) (hb : ∀ x ∈ l, 0 ≤ x ∧ x ≤ 255) : A 116 [BS kk l] (.tup [i6 (getN l).1, BS true (if (getN l).2.2 = 0 then l.drop (getN l).2.1 else []), i6 (getN l).2.2]) := by
  intro H
  refine v_enter hC [] (fun _ _ => kn_none rfl) Try.func116 rfl ok116 (Nat.le_of_ble_eq_true rfl) fun hcl hbl => ?_
  simp
  refine CALLv.at (v_number (kk := kk) (l := l) (gr := 9223372036854775807) (List.getElem?_concat_length ..) hl hb (by omega)) fun u T' hu => ?_
  obtain ⟨e1, k', e2⟩ := hu
  subst e1; subst e2
  have hgl := numF_le (gr := 9223372036854775807) l 0 0
  rw [show numF 9223372036854775807 0 0 l = getN l from rfl] at hgl ⊢
  generalize getN l = G at hgl ⊢
  simp
  rw [← List.map_drop]
  refine CALLv.at (v_end (kk := k') (l := l.drop G.2.1) (er := G.2.2) (List.getElem?_concat_length ..) (by rw [List.length_drop]; omega)) fun u T' hu => ?_
  obtain ⟨e1, e2⟩ := hu
  subst e1; subst e2
  have hw : IntKind.i64.wrap (G.1 : Int) = (G.1 : Int) := w64 (by omega)
  simp [hw, Try.results116]
  first | (refine GV.ans hcl ?_; simp []; done) | (refine GV.ans0 ?_; simp []; done)
end Go.Proofs.Ytldhfdagmaklaaa.VM
end
section
set_option maxHeartbeats 8000000
set_option linter.unusedVariables false
set_option linter.unusedSimpArgs false

/- Bytes that are read: what was written as a number is read again (of numF); bytes behind change nothing. -/
namespace Go.Proofs.Ytldhfdagmaklaaa.VM
open Go Go.Proofs AM B
set_option maxRecDepth 100000
theorem pow7 (i : Nat) : 2 ^ (7 * (i + 1)) = 2 ^ (7 * i) * 128 := by rw [Nat.mul_add, Nat.pow_add]
theorem pow7_big {i n : Nat} (h : n * 2 ^ (7 * i) < 18446744073709551616) (hn : 0 < n) : i ≤ 9 := by
  rcases Nat.lt_or_ge 9 i with h9 | h9
  · exfalso
    have : 2 ^ (7 * 10) ≤ 2 ^ (7 * i) := Nat.pow_le_pow_right (by decide) (by omega)
    have h2 : 2 ^ (7 * i) ≤ n * 2 ^ (7 * i) := Nat.le_mul_of_pos_left _ hn
    generalize 2 ^ (7 * i) = D at *
    simp at this
    omega
  · exact h9
theorem split128 (acc n D : Nat) : acc + n % 128 * D + n / 128 * (D * 128) = acc + n * D := by
  have h1 : n * D = (128 * (n / 128) + n % 128) * D := by rw [Nat.div_add_mod]
  have h2 : n / 128 * (D * 128) = 128 * (n / 128) * D := by rw [Nat.mul_comm D 128, ← Nat.mul_assoc, Nat.mul_comm (n / 128) 128]
  rw [h1, h2, Nat.add_mul]
  omega
theorem numF_venc {gr : Nat} (hgr : gr < 18446744073709551616) : ∀ (n i acc : Nat) (rest : List Int), acc + n * 2 ^ (7 * i) ≤ gr → i ≤ 9 → (0 < i → 0 < n) → numF gr i acc (venc n ++ rest) = (acc + n * 2 ^ (7 * i), i + (venc n).length, 0) := by
  intro n
  induction n using Nat.strongRecOn with
  | _ n ih =>
  intro i acc rest h hi h0
  have hD0 : 0 < (2 ^ (7 * i) : Nat) := Nat.pow_pos (by decide)
  by_cases hn : n < 128
  · rw [venc_lt n hn]
    simp only [List.cons_append, List.nil_append, numF, List.length_singleton]
    have hp : ((n : Int) % 128).toNat = n := by omega
    rw [hp, if_neg, if_neg (by omega), if_pos (by omega)]
    have : n ≤ 18446744073709551615 / 2 ^ (7 * i) := (Nat.le_div_iff_mul_le hD0).2 (by generalize 2 ^ (7 * i) = D at *; omega)
    omega
  · have hnD : n ≤ n * 2 ^ (7 * i) := Nat.le_mul_of_pos_right _ hD0
    have hlt : n < 18446744073709551616 := by omega
    rw [venc_ge n (by omega) hlt]
    simp only [List.cons_append, numF, List.length_cons]
    have hp : (((n % 128 + 128 : Nat) : Int) % 128).toNat = n % 128 := by omega
    have hs := split128 acc n (2 ^ (7 * i))
    have hs2 := split128 0 n (2 ^ (7 * i))
    have hle : n % 128 * 2 ^ (7 * i) ≤ gr := by omega
    have hle2 : n / 128 * 2 ^ (7 * (i + 1)) < 18446744073709551616 := by rw [pow7]; omega
    rw [hp, if_neg, if_neg (by omega), if_neg (by omega)]
    · rw [ih (n / 128) (by omega) (i + 1) _ rest (by rw [pow7]; omega) (pow7_big hle2 (by omega)) (by omega), pow7, hs]
      simp only [Prod.mk.injEq, true_and, and_true]
      omega
    · have : n % 128 ≤ 18446744073709551615 / 2 ^ (7 * i) := (Nat.le_div_iff_mul_le hD0).2 (by omega)
      omega
theorem getN_venc {n : Nat} {rest : List Int} (h : n < 9223372036854775808) : getN (venc n ++ rest) = (n, (venc n).length, 0) := by
  unfold getN
  rw [numF_venc (by omega) n 0 0 rest (by omega) (by omega) (by omega)]
  simp
theorem numF_app {gr : Nat} {x : List Int} : ∀ (l : List Int) (i n : Nat), (numF gr i n l).2.2 = 0 → numF gr i n (l ++ x) = numF gr i n l
  | [], i, n, h => by simp [numF] at h
  | c :: cs, i, n, h => by
    rw [List.cons_append]
    unfold numF at h ⊢
    split
    · rfl
    · rename_i h1
      rw [if_neg h1] at h
      split
      · rfl
      · rename_i h2
        rw [if_neg h2] at h
        split
        · rfl
        · rename_i h3
          rw [if_neg h3] at h
          exact numF_app cs _ _ h
theorem getN_app {l x : List Int} (h : (getN l).2.2 = 0) : getN (l ++ x) = getN l := numF_app l 0 0 h
theorem getN_le (l : List Int) : (getN l).2.1 ≤ l.length := by have := (numF_le (gr := 9223372036854775807) l 0 0).2; unfold getN; omega
/-- What GetText answers. -/
def getT (l : List Int) : List Int × List Int × Int :=
  if (getN l).2.2 ≠ 0 then ([], [], (getN l).2.2) else if (l.drop (getN l).2.1).length < (getN l).1 then ([], [], 4) else ((l.drop (getN l).2.1).take (getN l).1, (l.drop (getN l).2.1).drop (getN l).1, 0)
theorem getT_app {l x : List Int} (h : (getT l).2.2 = 0) : getT (l ++ x) = ((getT l).1, (getT l).2.1 ++ x, 0) := by
  unfold getT at h ⊢
  by_cases h1 : (getN l).2.2 ≠ 0
  · rw [if_pos h1] at h; exact absurd h h1
  rw [if_neg h1] at h
  by_cases h2 : (l.drop (getN l).2.1).length < (getN l).1
  · rw [if_pos h2] at h; cases h
  have hle := getN_le l
  have e1 : (l ++ x).drop (getN l).2.1 = l.drop (getN l).2.1 ++ x := by rw [List.drop_append_of_le_length hle]
  rw [getN_app (by simpa using h1), if_neg h1, e1, if_neg (by rw [List.length_append]; omega), if_neg h1, if_neg h2]
  rw [List.take_append_of_le_length (by omega), List.drop_append_of_le_length (by omega)]
theorem getT_text {b rest : List Int} (h : b.length < 9223372036854775808) : getT (venc b.length ++ (b ++ rest)) = (b, rest, 0) := by
  have h1 := getN_venc (rest := b ++ rest) h
  unfold getT
  rw [h1]
  simp
theorem v_GetText {kk : Bool} {l : List Int} (hl : l.length ≤ 100000) (hb : ∀ x ∈ l, 0 ≤ x ∧ x ≤ 255) : A 117 [BS kk l] (.tup [BS true (getT l).1, BS true (getT l).2.1, i6 (getT l).2.2]) := by
  intro H
  refine v_enter hC [] (fun _ _ => kn_none rfl) Try.func117 rfl ok117 (Nat.le_of_ble_eq_true rfl) fun hcl hbl => ?_
  simp
  refine CALLv.at (v_number (kk := kk) (l := l) (gr := 9223372036854775807) (List.getElem?_concat_length ..) hl hb (by omega)) fun u T' hu => ?_
  obtain ⟨e1, k', e2⟩ := hu
  subst e1; subst e2
  have hgl := numF_le (gr := 9223372036854775807) l 0 0
  rw [show numF 9223372036854775807 0 0 l = getN l from rfl] at hgl ⊢
  have hT : getT l = if (getN l).2.2 ≠ 0 then ([], [], (getN l).2.2) else if (l.drop (getN l).2.1).length < (getN l).1 then ([], [], 4) else ((l.drop (getN l).2.1).take (getN l).1, (l.drop (getN l).2.1).drop (getN l).1, 0) := rfl
  generalize getN l = G at hgl hT ⊢
  obtain ⟨n, j, er⟩ := G
  simp only at hgl hT ⊢
  obtain ⟨q, hq⟩ : ∃ q, l.drop j = q := ⟨_, rfl⟩
  have hql : q.length ≤ 100000 := by rw [← hq, List.length_drop]; omega
  simp only [hq] at hT ⊢
  by_cases he : er = 0
  · subst he
    have hw : IntKind.u64.wrap (q.length : Int) = (q.length : Int) := by simp [IntKind.wrap, IntKind.bits, IntKind.signed]; omega
    by_cases hlt : q.length < n
    · have e : getT l = ([], [], 4) := by rw [hT]; simp [hlt]
      rw [e]
      simp [hw, hlt]
      refine v_draw (ord := [0, 1, 2, 3, 4, 5, 6]) (m := 0) (by decide +kernel) (by decide +kernel) ?_
      simp [Try.results117]
      first | (refine GV.ans hcl ?_; simp []; done) | (refine GV.ans0 ?_; simp []; done)
    · have hw2 : IntKind.i64.wrap (n : Int) = (n : Int) := w64 (by omega)
      have e : getT l = (q.take n, q.drop n, 0) := by rw [hT]; simp [hlt]
      rw [e]
      simp [hw, hw2, hlt]
      refine CALLv.at (v_take (kk := k') (l := q) (n := n) (List.getElem?_concat_length ..) hql (by omega)) fun u T' hu => ?_
      obtain ⟨e1, e2⟩ := hu
      subst e1; subst e2
      simp
      rw [← List.map_drop]
      refine CALLv.at (v_left (kk := false) (l := q.drop n) (List.getElem?_concat_length ..) (by rw [List.length_drop]; omega)) fun u T' hu => ?_
      obtain ⟨e1, e2⟩ := hu
      subst e1; subst e2
      simp [Try.results117]
      first | (refine GV.ans hcl ?_; simp []; done) | (refine GV.ans0 ?_; simp []; done)
  · have e : getT l = ([], [], er) := by rw [hT]; simp [he]
    rw [e]
    simp [he]
    refine v_draw (ord := [0, 1, 2, 3, 4, 5, 6]) (m := 0) (by decide +kernel) (by decide +kernel) ?_
    simp [Try.results117]
    first | (refine GV.ans hcl ?_; simp [he]; done) | (refine GV.ans0 ?_; simp [he]; done)
end Go.Proofs.Ytldhfdagmaklaaa.VM
end
section
set_option maxHeartbeats 8000000
set_option linter.unusedVariables false
set_option linter.unusedSimpArgs false

/- batch: Holds, read, Next; what was recorded is read again. -/
namespace Go.Proofs.Ytldhfdagmaklaaa.VM
open Go Go.Proofs AM B
set_option maxRecDepth 100000
theorem v_Holds {kk : Bool} {a c : List Int} (hc : c.length = 4) (ha : a.length ≤ 90000) (hba : ∀ x ∈ a, 0 ≤ x ∧ x ≤ 255) (hbc : ∀ x ∈ c, 0 ≤ x ∧ x ≤ 255) : A 97 [BS kk (a ++ c)] (bo (decide (c = low4 (crcS a)))) := by
  intro H
  obtain ⟨b, hb⟩ : ∃ b, a ++ c = b := ⟨_, rfl⟩
  have hbl : b.length = a.length + 4 := by rw [← hb, List.length_append, hc]
  have h1 : b.take a.length = a := by rw [← hb, List.take_left]
  have h2 : b.drop a.length = c := by rw [← hb, List.drop_left]
  rw [hb]
  refine v_enter hC [] (fun _ _ => kn_none rfl) Try.func97 rfl ok97 (Nat.le_of_ble_eq_true rfl) fun hcl hbl => ?_
  have hlo := bounds_lo (n := a.length) (L := b.length) (by omega)
  have hhi := bounds_hi (n := a.length) (L := b.length) (by omega)
  have hw : IntKind.i64.wrap ((b.length : Int) - 4) = (a.length : Int) := by rw [w64 (by omega)]; omega
  simp [hw]
  refine v_draw (ord := [0, 1, 2, 3, 4, 5, 6, 7, 8, 9, 10, 11, 12, 13, 14]) (m := 0) (by decide +kernel) (by decide +kernel) ?_
  simp [hlo, hhi]
  rw [← List.map_drop, ← List.map_take, h1]
  refine (v_crSum (kk := true) (kb := kk) (l := a) (by omega) hba).callU [.fsl true 1 [[BS kk a]]] (by simp) ?_
  simp
  refine (v_low (crcS_lt _)).call ?_
  simp
  rw [← List.map_drop, h2]
  refine (v_bEqual (kk := false) (km := true) (l := c) (m := low4 (crcS a)) (by intro h; rw [h] at hc; cases hc) (by simp [low4]) hbc low4_byte).call ?_
  simp [Try.results97]
  first | (refine GV.ans hcl ?_; simp []; done) | (refine GV.ans0 ?_; simp []; done)
/-- What read answers. -/
def rdO : List Int → Oc × List Int × Int
  | [] => (⟨false, 0, []⟩, [], 4)
  | c :: r => if c ≠ 1 ∧ c ≠ 2 then (⟨false, 0, []⟩, [], 3)
    else if (getN r).2.2 ≠ 0 then (⟨decide (c = 2), (getN r).1, []⟩, [], (getN r).2.2)
    else if c = 2 then (⟨true, (getN r).1, []⟩, r.drop (getN r).2.1, 0)
    else (⟨false, (getN r).1, (getT (r.drop (getN r).2.1)).1⟩, (getT (r.drop (getN r).2.1)).2.1, (getT (r.drop (getN r).2.1)).2.2)
theorem rdO_c (c : Int) (r : List Int) : rdO (c :: r) = if c ≠ 1 ∧ c ≠ 2 then (⟨false, 0, []⟩, [], 3)
    else if (getN r).2.2 ≠ 0 then (⟨decide (c = 2), (getN r).1, []⟩, [], (getN r).2.2)
    else if c = 2 then (⟨true, (getN r).1, []⟩, r.drop (getN r).2.1, 0)
    else (⟨false, (getN r).1, (getT (r.drop (getN r).2.1)).1⟩, (getT (r.drop (getN r).2.1)).2.1, (getT (r.drop (getN r).2.1)).2.2) := rfl
theorem rdO_app {l x : List Int} (h : (rdO l).2.2 = 0) : rdO (l ++ x) = ((rdO l).1, (rdO l).2.1 ++ x, 0) := by
  cases l with
  | nil => simp [rdO] at h
  | cons c r =>
    rw [List.cons_append]
    rw [rdO_c] at h
    rw [rdO_c, rdO_c]
    by_cases h1 : c ≠ 1 ∧ c ≠ 2
    · rw [if_pos h1] at h; cases h
    rw [if_neg h1] at h
    by_cases h2 : (getN r).2.2 ≠ 0
    · rw [if_pos h2] at h; exact absurd h h2
    rw [if_neg h2] at h
    have e1 : (r ++ x).drop (getN r).2.1 = r.drop (getN r).2.1 ++ x := by rw [List.drop_append_of_le_length (getN_le r)]
    rw [getN_app (by simpa using h2), if_neg h1, if_neg h2, if_neg h1, if_neg h2, e1]
    by_cases h3 : c = 2
    · rw [if_pos h3, if_pos h3]
    rw [if_neg h3] at h
    rw [if_neg h3, if_neg h3, getT_app h]
theorem getT_suf {l : List Int} : ∃ p, l = p ++ (getT l).2.1 ∨ (getT l).2.1 = [] := by
  unfold getT
  split
  · exact ⟨[], .inr rfl⟩
  · split
    · exact ⟨[], .inr rfl⟩
    · refine ⟨l.take (getN l).2.1 ++ (l.drop (getN l).2.1).take (getN l).1, .inl ?_⟩
      rw [List.append_assoc, List.take_append_drop, List.take_append_drop]
theorem rdO_suf {l : List Int} : ∃ p, l = p ++ (rdO l).2.1 := by
  cases l with
  | nil => exact ⟨[], rfl⟩
  | cons c r =>
    rw [rdO_c]
    split
    · exact ⟨c :: r, by simp⟩
    · split
      · exact ⟨c :: r, by simp⟩
      · split
        · exact ⟨c :: r.take (getN r).2.1, by rw [List.cons_append, List.take_append_drop]⟩
        · obtain ⟨p, h | h⟩ := getT_suf (l := r.drop (getN r).2.1)
          · refine ⟨c :: (r.take (getN r).2.1 ++ p), ?_⟩
            show c :: r = c :: ((r.take (getN r).2.1 ++ p) ++ (getT (r.drop (getN r).2.1)).2.1)
            rw [List.append_assoc, ← h, List.take_append_drop]
          · refine ⟨c :: r, ?_⟩
            show c :: r = (c :: r) ++ (getT (r.drop (getN r).2.1)).2.1
            rw [h, List.append_nil]
/-- What Next answers. -/
def nxO (l : List Int) : Oc × List Int × Int :=
  if (rdO l).2.2 ≠ 0 then (⟨false, 0, []⟩, [], (rdO l).2.2) else if ochk (rdO l).1 ≠ 0 then (⟨false, 0, []⟩, [], 3) else if (rdO l).2.1.length < 4 then (⟨false, 0, []⟩, [], 4)
  else if (rdO l).2.1.take 4 = low4 (crcS (l.take (l.length - (rdO l).2.1.length))) then ((rdO l).1, (rdO l).2.1.drop 4, 0) else (⟨false, 0, []⟩, [], 5)
theorem nxO_app {l x : List Int} (h : (nxO l).2.2 = 0) : nxO (l ++ x) = ((nxO l).1, (nxO l).2.1 ++ x, 0) := by
  unfold nxO at h ⊢
  by_cases h1 : (rdO l).2.2 ≠ 0
  · rw [if_pos h1] at h; exact absurd h h1
  rw [if_neg h1] at h
  by_cases h2 : ochk (rdO l).1 ≠ 0
  · rw [if_pos h2] at h; cases h
  rw [if_neg h2] at h
  by_cases h3 : (rdO l).2.1.length < 4
  · rw [if_pos h3] at h; cases h
  rw [if_neg h3] at h
  by_cases h4 : (rdO l).2.1.take 4 = low4 (crcS (l.take (l.length - (rdO l).2.1.length)))
  · obtain ⟨p, hp⟩ := rdO_suf (l := l)
    have hpl : l.length = p.length + (rdO l).2.1.length := by rw [← List.length_append, ← hp]
    have e2 : (l ++ x).take ((l ++ x).length - ((rdO l).2.1 ++ x).length) = l.take (l.length - (rdO l).2.1.length) := by
      rw [List.length_append, List.length_append, show l.length + x.length - ((rdO l).2.1.length + x.length) = l.length - (rdO l).2.1.length by omega, List.take_append_of_le_length (by omega)]
    rw [rdO_app (by simpa using h1)]
    simp only [ne_eq, not_true_eq_false, if_false]
    rw [if_neg h2, if_neg (by rw [List.length_append]; omega), e2, List.take_append_of_le_length (by omega), if_pos h4, if_neg h1, if_neg h2, if_neg h3, if_pos h4, List.drop_append_of_le_length (by omega)]
  · rw [if_neg h4] at h; cases h
theorem rdO_plain {o : Oc} {rest : List Int} (hz : ochk o = 0) : rdO (plainO o ++ rest) = (o, rest, 0) := by
  obtain ⟨h1, h2, h3⟩ := ochk_id hz
  have hid : ((o.id.toNat : Nat) : Int) = o.id := by omega
  obtain ⟨d, id, b⟩ := o
  simp only at h1 h2 h3 hid
  unfold plainO
  cases d with
  | true =>
    have hb : b = [] := by
      unfold ochk dchk at hz
      rw [if_neg (by simp; omega)] at hz
      by_cases hb0 : 0 < b.length
      · simp only [if_pos hb0] at hz; cases hz
      · exact List.eq_nil_of_length_eq_zero (by omega)
    subst hb
    simp only [if_true, List.cons_append]
    rw [rdO_c]
    rw [if_neg (by omega), getN_venc (n := id.toNat) (by omega)]
    simp [hid]
  | false =>
    simp only [Bool.false_eq_true, if_false, List.cons_append]
    rw [rdO_c]
    rw [if_neg (by omega), List.append_assoc, getN_venc (n := id.toNat) (by omega)]
    simp only [ne_eq, not_true_eq_false, if_false, List.drop_left]
    rw [if_neg (by omega), List.append_assoc, getT_text (by omega)]
    simp [hid]
theorem nxO_rec {o : Oc} {rest : List Int} (hz : ochk o = 0) : nxO (recO o ++ rest) = (o, rest, 0) := by
  have hr : rdO (recO o ++ rest) = (o, low4 (crcS (plainO o)) ++ rest, 0) := by
    unfold recO markB
    rw [List.append_assoc, rdO_plain hz]
  have h4 : (low4 (crcS (plainO o))).length = 4 := rfl
  unfold nxO
  rw [hr]
  simp only [ne_eq, not_true_eq_false, if_false]
  rw [if_neg (by simpa using hz), if_neg (by rw [List.length_append]; omega)]
  have e1 : (low4 (crcS (plainO o)) ++ rest).take 4 = low4 (crcS (plainO o)) := by rw [List.take_append_of_le_length (by omega), List.take_of_length_le (by omega)]
  have e2 : (recO o ++ rest).take ((recO o ++ rest).length - (low4 (crcS (plainO o)) ++ rest).length) = plainO o := by
    unfold recO markB
    rw [List.append_assoc, List.length_append, Nat.add_sub_cancel, List.take_left]
  rw [e1, e2, if_pos rfl, List.drop_append_of_le_length (by omega), List.drop_of_length_le (by omega)]
  rfl
/-- Of a record that is cut nothing is read. -/
theorem nxO_cut {o : Oc} {k : Nat} (hz : ochk o = 0) (hk : k < (recO o).length) : (nxO ((recO o).take k)).2.2 ≠ 0 := fun h => by
  have h1 := nxO_app (x := (recO o).drop k) h
  rw [List.take_append_drop] at h1
  have h2 := nxO_rec (rest := []) hz
  rw [List.append_nil, h1] at h2
  have h3 := congrArg (fun x => x.2.1.length) h2
  simp only [List.length_append, List.length_drop, List.length_nil] at h3
  omega
theorem v_read {kk : Bool} {l : List Int} (hl : l.length ≤ 90000) (hb : ∀ x ∈ l, 0 ≤ x ∧ x ≤ 255) : A 96 [BS kk l] (.tup [.agg (oc (rdO l).1), BS true (rdO l).2.1, i6 (rdO l).2.2]) := by
  intro H
  refine v_enter hC [] (fun _ _ => kn_none rfl) Try.func96 rfl ok96 (Nat.le_of_ble_eq_true rfl) fun hcl hbl => ?_
  cases l with
  | nil =>
    simp [Try.results96]
    first | (refine GV.ans hcl ?_; simp [rdO]; done) | (refine GV.ans0 ?_; simp [rdO]; done)
  | cons c r =>
    have hc := hb c (by simp)
    have hbr : ∀ x ∈ r, 0 ≤ x ∧ x ≤ 255 := fun x hx => hb x (by simp [hx])
    have hrl : r.length + 1 ≤ 90000 := by simpa using hl
    have hn0 : ¬ (r.length : Int) + 1 = 0 := by omega
    by_cases h1 : c ≠ 1 ∧ c ≠ 2
    · have e : rdO (c :: r) = (⟨false, 0, []⟩, [], 3) := by rw [rdO_c, if_pos h1]
      rw [e]
      simp [hn0, h1.1, h1.2, Try.results96]
      first | (refine GV.ans hcl ?_; simp []; done) | (refine GV.ans0 ?_; simp []; done)
    · have h1' : ¬ c = 1 → c = 2 := fun h => by omega
      have hbd : bounds (r.length + 1) (r.length + 1) (some 1) none none = some (1, r.length + 1, r.length + 1) := bounds_lo (n := 1) (by omega)
      rcases (show c = 1 ∨ c = 2 by omega) with rfl | rfl
      · simp [hn0, hbd]
        refine (v_Get (kk := false) (l := r) (by omega) hbr).call ?_
        by_cases he : (getN r).2.2 = 0
        · simp [he]
          rw [← List.map_drop]
          refine (v_GetText (kk := true) (l := r.drop (getN r).2.1) (by rw [List.length_drop]; omega) (fun x hx => hbr x (List.mem_of_mem_drop hx))).call ?_
          have e : rdO (1 :: r) = (⟨false, (getN r).1, (getT (r.drop (getN r).2.1)).1⟩, (getT (r.drop (getN r).2.1)).2.1, (getT (r.drop (getN r).2.1)).2.2) := by rw [rdO_c, if_neg (by omega), if_neg (by simpa using he), if_neg (by omega)]
          rw [e]
          simp [Try.results96]
          first | (refine GV.ans hcl ?_; simp []; done) | (refine GV.ans0 ?_; simp []; done)
        · have e : rdO (1 :: r) = (⟨false, (getN r).1, []⟩, [], (getN r).2.2) := by rw [rdO_c, if_neg (by omega), if_pos (by simpa using he)]; rfl
          rw [e]
          simp [he, Try.results96]
          first | (refine GV.ans hcl ?_; simp []; done) | (refine GV.ans0 ?_; simp []; done)
      · simp [hn0, hbd]
        refine (v_Get (kk := false) (l := r) (by omega) hbr).call ?_
        by_cases he : (getN r).2.2 = 0
        · have e : rdO (2 :: r) = (⟨true, (getN r).1, []⟩, r.drop (getN r).2.1, 0) := by rw [rdO_c, if_neg (by omega), if_neg (by simpa using he), if_pos rfl]
          rw [e]
          simp [he, Try.results96]
          first | (refine GV.ans hcl ?_; simp []; done) | (refine GV.ans0 ?_; simp []; done)
        · have e : rdO (2 :: r) = (⟨true, (getN r).1, []⟩, [], (getN r).2.2) := by rw [rdO_c, if_neg (by omega), if_pos (by simpa using he)]; rfl
          rw [e]
          simp [he, Try.results96]
          first | (refine GV.ans hcl ?_; simp []; done) | (refine GV.ans0 ?_; simp []; done)
theorem v_Next {kk : Bool} {l : List Int} (hl : l.length ≤ 90000) (hb : ∀ x ∈ l, 0 ≤ x ∧ x ≤ 255) : A 56 [BS kk l] (.tup [.agg (oc (nxO l).1), BS (decide ((nxO l).2.2 ≠ 0)) (nxO l).2.1, i6 (nxO l).2.2]) := by
  intro H
  refine v_enter hC [] (fun _ _ => kn_none rfl) Try.func56 rfl ok56 (Nat.le_of_ble_eq_true rfl) fun hcl hbl => ?_
  simp
  refine (v_read (kk := kk) hl hb).call ?_
  have hnx : nxO l = if (rdO l).2.2 ≠ 0 then (⟨false, 0, []⟩, [], (rdO l).2.2) else if ochk (rdO l).1 ≠ 0 then (⟨false, 0, []⟩, [], 3) else if (rdO l).2.1.length < 4 then (⟨false, 0, []⟩, [], 4)
    else if (rdO l).2.1.take 4 = low4 (crcS (l.take (l.length - (rdO l).2.1.length))) then ((rdO l).1, (rdO l).2.1.drop 4, 0) else (⟨false, 0, []⟩, [], 5) := rfl
  obtain ⟨p, hp⟩ := rdO_suf (l := l)
  generalize rdO l = G at hnx hp ⊢
  obtain ⟨o, r, er⟩ := G
  simp only at hnx hp ⊢
  by_cases he : er ≠ 0
  · rw [if_pos he] at hnx
    rw [hnx]
    simp [he, Try.results56]
    first | (refine GV.ans hcl ?_; simp []; done) | (refine GV.ans0 ?_; simp []; done)
  rw [if_neg he] at hnx
  have he : er = 0 := by simpa using he
  subst he
  simp
  refine (v_ocheck (kk := true) (o := o)).call ?_
  by_cases hz : ochk o ≠ 0
  · rw [if_pos hz] at hnx
    rw [hnx]
    simp [hz, Try.results56]
    first | (refine GV.ans hcl ?_; simp []; done) | (refine GV.ans0 ?_; simp []; done)
  rw [if_neg hz] at hnx
  have hz : ochk o = 0 := by simpa using hz
  simp [hz]
  by_cases h4 : r.length < 4
  · rw [if_pos h4] at hnx
    rw [hnx]
    simp [show (r.length : Int) < 4 by omega, Try.results56]
    first | (refine GV.ans hcl ?_; simp []; done) | (refine GV.ans0 ?_; simp []; done)
  rw [if_neg h4] at hnx
  have h4' : ¬ (r.length : Int) < 4 := by omega
  have hll : l.length = p.length + r.length := by rw [← List.length_append, ← hp]
  have e1 : l.take (l.length - r.length) = p := by rw [hll, Nat.add_sub_cancel, hp, List.take_left]
  rw [e1] at hnx
  have hw1 : IntKind.i64.wrap ((l.length : Int) - r.length) = (p.length : Int) := by rw [w64 (by omega)]; omega
  obtain ⟨n, hn⟩ : ∃ n, p.length + 4 = n := ⟨_, rfl⟩
  have hw2 : IntKind.i64.wrap ((p.length : Int) + 4) = (n : Int) := by rw [w64 (by omega)]; omega
  have hn0 : ¬ n = 0 := by omega
  have hbd : bounds l.length l.length none (some (n : Int)) (some (n : Int)) = some (0, n, n) := by
    simp only [bounds]
    rw [if_pos (by omega)]
    simp
  have htk : l.take n = p ++ r.take 4 := by rw [← hn, hp, List.take_append, List.take_of_length_le (by omega)]; congr 2; omega
  have hr4 : (r.take 4).length = 4 := by rw [List.length_take]; omega
  have hbp : ∀ x ∈ p, 0 ≤ x ∧ x ≤ 255 := fun x hx => hb x (by rw [hp]; exact List.mem_append_left _ hx)
  have hbr : ∀ x ∈ r.take 4, 0 ≤ x ∧ x ≤ 255 := fun x hx => hb x (by rw [hp]; exact List.mem_append_right _ (List.mem_of_mem_take hx))
  simp [h4', hw1, hw2, hn0, hbd]
  rw [← List.map_take, htk]
  refine (v_Holds (kk := kk) (a := p) (c := r.take 4) hr4 (by omega) hbp hbr).call ?_
  by_cases hc : r.take 4 = low4 (crcS p)
  · rw [if_pos hc] at hnx
    rw [hnx]
    have hb4 : bounds r.length r.length (some 4) none none = some (4, r.length, r.length) := bounds_lo (n := 4) (by omega)
    simp [hc]
    refine v_draw (ord := [0, 1, 2, 3, 4, 5]) (m := 0) (by decide +kernel) (by decide +kernel) ?_
    simp [hb4, Try.results56]
    first | (refine GV.ans hcl ?_; simp []; done) | (refine GV.ans0 ?_; simp []; done)
  · rw [if_neg hc] at hnx
    rw [hnx]
    simp [hc, Try.results56]
    first | (refine GV.ans hcl ?_; simp []; done) | (refine GV.ans0 ?_; simp []; done)
end Go.Proofs.Ytldhfdagmaklaaa.VM
end
section
set_option maxHeartbeats 8000000
set_option linter.unusedVariables false
set_option linter.unusedSimpArgs false

/- batch: Read. -/
namespace Go.Proofs.Ytldhfdagmaklaaa.VM
open Go Go.Proofs AM B
set_option maxRecDepth 100000
theorem recO_byte {o : Oc} (hb : okO o) : ∀ x ∈ recO o, 0 ≤ x ∧ x ≤ 255 := fun x hx => by
  unfold recO markB at hx
  rcases List.mem_append.1 hx with hx | hx
  · exact plainO_byte hb x hx
  · exact low4_byte x hx
theorem recs_byte {l : List Oc} (hb : ∀ o ∈ l, okO o) : ∀ x ∈ recs l, 0 ≤ x ∧ x ≤ 255 := fun x hx => by
  unfold recs at hx
  obtain ⟨o, ho, hx⟩ := List.mem_flatMap.1 hx
  exact recO_byte (hb o ho) x hx
theorem recs_drop (l : List Oc) (k : Nat) (h : k < l.length) : recs (l.drop k) = recO (oAt l k) ++ recs (l.drop (k + 1)) := by
  unfold recs
  rw [List.drop_eq_getElem_cons h, List.flatMap_cons, oAt_eq l k h]
theorem recO_ne (o : Oc) : 0 < (recO o).length := by unfold recO markB; rw [List.length_append]; simp [low4]
theorem recs_app (a b : List Oc) : recs (a ++ b) = recs a ++ recs b := by unfold recs; rw [List.flatMap_append]
set_option maxHeartbeats 8000000 in
theorem v_bRead {H : Hp} {g : Nat} {kc rc kk : Bool} {base : List Dc} {ops : List Oc} {x : List Int} (hg : H[g]? = some (.mem [DS kc base] rc)) (hb : gooD base) (hok : ∀ o ∈ ops, okO o) (hn : ops.length ≤ 64) (hd : (doL base 0 ops).2 = 0) (hx : ∀ y ∈ x, 0 ≤ y ∧ y ≤ 255) (hxl : x.length ≤ 2000) (hend : x ≠ [] → (nxO x).2.2 ≠ 0) :
    VC Try.prog prims 22 [.ptr g 0, BS kk (recs ops ++ x)] H fun u T => u = .tup [.ptr H.length 0, i6 (recs ops).length, i6 (if x = [] then 0 else (nxO x).2.2)] ∧ ∃ k', T = H ++ batO H.length k' base (doL base 0 ops).1 ops := by
  obtain ⟨_, hz⟩ := doL_good (n := 0) hb hok hd
  have hrl := recs_len hz
  obtain ⟨B, hB⟩ : ∃ B, recs ops ++ x = B := ⟨_, rfl⟩
  have hBl : B.length = (recs ops).length + x.length := by rw [← hB, List.length_append]
  rw [hB]
  refine v_enter hC [] (fun _ _ => kn_none rfl) Try.func22 rfl ok22 (Nat.le_of_ble_eq_true rfl) fun hcl hbl => ?_
  simp
  refine CALLv.at (v_bNew hg hb.1) fun u T hu => ?_
  obtain ⟨e1, e2⟩ := hu
  subst e1; subst e2
  simp [batO]
  refine v_loopX hC (fun (i : Nat) e T => ∃ kc gc k9 Z, T = H ++ Z ∧ T[H.length]? = some (.mem [.ptr gc 0, .ptr (H.length + 2) 0, OS true (ops.take i)] true) ∧ T[gc]? = some (.mem [DS kc (doL base 0 (ops.take i)).1] true) ∧ T[H.length + 2]? = some (.mem [DS true base] true) ∧ H.length + 1 ≤ gc ∧ gc ≠ H.length + 2 ∧ e 1 = BS kk B ∧ e 7 = .ptr H.length 0 ∧ e 8 = i6 0 ∧ e 9 = BS k9 (recs (ops.drop i) ++ x) ∧ i ≤ ops.length) (fun i => ops.length - i) 0 (G.refl ?_) ?_
  · refine ⟨true, H.length + 1, kk, _, rfl, by simp, by simp [doL], by simp, by omega, by omega, by simp, by simp, by simp, ?_, by simp⟩
    simp [← hB]
  · rintro i e T ⟨kc, gc, k9, Z, hT, t1, t2, t3, hgc, hgc2, h1, h7, h8, h9, hi⟩
    have m1 := get_lt t1
    have m2 := get_lt t2
    have m3 := get_lt t3
    obtain ⟨R, hR⟩ : ∃ R, recs (ops.drop i) ++ x = R := ⟨_, rfl⟩
    have hRl : R.length ≤ 80000 := by
      have := recs_len (l := ops.drop i) fun o ho => hz o (List.mem_of_mem_drop ho)
      have h2 : (ops.drop i).length ≤ 64 := by rw [List.length_drop]; omega
      rw [← hR, List.length_append]; omega
    have hRb : ∀ y ∈ R, 0 ≤ y ∧ y ≤ 255 := fun y hy => by
      rw [← hR] at hy
      exact (List.mem_append.1 hy).elim (recs_byte (fun o ho => hok o (List.mem_of_mem_drop ho)) y) (hx y)
    have hsplit : recs ops = recs (ops.take i) ++ recs (ops.drop i) := by rw [← recs_app, List.take_append_drop]
    have hBR : B.length = (recs (ops.take i)).length + R.length := by rw [← hB, ← hR, hsplit, List.length_append, List.length_append, List.length_append]; omega
    rw [hR] at h9
    simp [h9]
    refine CondV.dec (fun hlt => ?_) (fun hge => ?_)
    · simp [h9]
      refine (v_Next (kk := k9) (l := R) (by omega) hRb).call ?_
      by_cases hc : i < ops.length
      · have hmem : oAt ops i ∈ ops := by rw [oAt_eq ops i hc]; exact List.getElem_mem hc
        have hzi := hz _ hmem
        have hbi := ochk_id hzi
        have hnx : nxO R = (oAt ops i, recs (ops.drop (i + 1)) ++ x, 0) := by rw [← hR, recs_drop ops i hc, List.append_assoc, nxO_rec hzi]
        have hti : (ops.take i).length = i := by rw [List.length_take]; omega
        have htk : ops.take (i + 1) = ops.take i ++ [oAt ops i] := by rw [List.take_succ_eq_append_getElem hc, oAt_eq ops i hc]
        have hst : doL (doL base 0 (ops.take i)).1 (ops.take i).length [oAt ops i] = doL base 0 (ops.take (i + 1)) := by
          rw [htk, doL_app (doL_take i hd), Nat.zero_add]
        have hgi := doL_good (n := 0) hb (fun o ho => hok o (List.mem_of_mem_take ho)) (doL_take i hd)
        rw [hnx]
        simp [h7]
        refine CALLv.at (v_Do (g := H.length) (gc := gc) (gb := H.length + 2) (ko := true) (kc := kc) (kb := true) (kk := true) (r2 := true) (r3 := true) (base := base) (docs := (doL base 0 (ops.take i)).1) (ops := ops.take i) (l := [oAt ops i]) (by rw [List.getElem?_append_left m1, t1]) (by rw [List.getElem?_append_left m2, t2]) (by rw [List.getElem?_append_left m3, t3]) hgi.1.1 (by omega) (by simp) (by simp; omega)) fun u U hu => ?_
        obtain ⟨e1, k4, e2⟩ := hu
        rw [hst] at e1 e2
        rw [doL_take (i + 1) hd] at e1 e2
        rw [if_pos rfl, ← htk] at e2
        subst e1
        obtain ⟨T2, hT2⟩ : ∃ T2, T ++ [Ob.mem (oc (oAt ops i)) true] = T2 := ⟨_, rfl⟩
        have e2 : U = T2.set H.length (.mem [.ptr T2.length 0, .ptr (H.length + 2) 0, OS true (ops.take (i + 1))] true) ++ [.mem [DS k4 (doL base 0 (ops.take (i + 1))).1] true] := by rw [← hT2]; exact e2
        have m4 : H.length + 2 < T2.length := by rw [← hT2, List.length_append]; omega
        have s3 : T2[H.length + 2]? = some (.mem [DS true base] true) := by rw [← hT2, List.getElem?_append_left m3, t3]
        have u1 : U[H.length]? = some (.mem [.ptr T2.length 0, .ptr (H.length + 2) 0, OS true (ops.take (i + 1))] true) := by rw [e2, List.getElem?_append_left (by simp; omega), List.getElem?_set_self (by omega)]
        have u2 : U[T2.length]? = some (.mem [DS k4 (doL base 0 (ops.take (i + 1))).1] true) := by rw [e2, List.getElem?_append_right (by simp)]; simp
        have u3 : U[H.length + 2]? = some (.mem [DS true base] true) := by rw [e2, List.getElem?_append_left (by simp; omega), List.getElem?_set_ne (by omega), s3]
        obtain ⟨Z2, hU⟩ : ∃ Z2, U = H ++ Z2 := ⟨_, by rw [e2, ← hT2, hT, List.append_assoc, List.set_append_right _ _ (by omega), List.append_assoc]⟩
        simp
        refine GH.refl ⟨i + 1, ⟨k4, T2.length, false, Z2, hU, u1, u2, u3, by omega, by omega, by simp [h1], by simp [h7], by simp [h8], ?_, hc⟩, by omega⟩
        simp
      · have hin : i = ops.length := by omega
        have hRx : R = x := by rw [← hR, hin, List.drop_of_length_le (by omega)]; rfl
        have hxn : x ≠ [] := fun h => by rw [hRx, h] at hlt; simp at hlt
        have hnz := hend hxn
        rw [hRx]
        simp [hnz, h1, h7, h9, Try.results22]
        have hto : ops.take i = ops := List.take_of_length_le (by omega)
        rw [hto] at t1 t2 hBR
        have hw : IntKind.i64.wrap ((B.length : Int) - R.length) = ((recs ops).length : Int) := by rw [w64 (by omega)]; omega
        rw [hw]
        subst hT
        rw [List.append_assoc]
        refine GV.keep3 (X := Z ++ [_]) H.length gc (H.length + 2) (.mem [.ptr (H.length + 1) 0, .ptr (H.length + 2) 0, OS true ops] true) (.mem [DS kc (doL base 0 ops).1] true) (.mem [DS true base] true) (.tup [.ptr H.length 0, i6 (recs ops).length, i6 (nxO x).2.2]) hcl ⟨by omega, by omega, by omega⟩ ⟨_, by rw [← List.append_assoc, List.getElem?_append_left m1]; exact t1, by omega, ?_⟩ ⟨_, by rw [← List.append_assoc, List.getElem?_append_left m2]; exact t2, by omega, ?_⟩ ⟨_, by rw [← List.append_assoc, List.getElem?_append_left m3]; exact t3, by omega, ?_⟩ ?_ ⟨by rw [if_neg hxn], kc, rfl⟩
        · simp
        · simp
        · simp
        · simp
    · have hR0 : R = [] := List.eq_nil_of_length_eq_zero (by omega)
      have hin : i = ops.length := by
        rcases Nat.lt_or_ge i ops.length with h | h
        · rw [recs_drop ops i h, hR0] at hR
          have := congrArg List.length hR
          have := recO_ne (oAt ops i)
          simp only [List.length_append, List.length_nil] at *
          omega
        · omega
      have hx0 : x = [] := by
        rw [hR0] at hR
        exact (List.append_eq_nil_iff.1 hR).2
      have hto : ops.take i = ops := List.take_of_length_le (by omega)
      rw [hto] at t1 t2 hBR
      simp [h1, h7, h8, h9, Try.results22]
      have hw : IntKind.i64.wrap ((B.length : Int) - R.length) = ((recs ops).length : Int) := by rw [w64 (by omega)]; omega
      rw [hw]
      subst hT
      refine GV.keep3 (X := Z) H.length gc (H.length + 2) (.mem [.ptr (H.length + 1) 0, .ptr (H.length + 2) 0, OS true ops] true) (.mem [DS kc (doL base 0 ops).1] true) (.mem [DS true base] true) (.tup [.ptr H.length 0, i6 (recs ops).length, i6 0]) hcl ⟨by omega, by omega, by omega⟩ ⟨_, t1, by omega, ?_⟩ ⟨_, t2, by omega, ?_⟩ ⟨_, t3, by omega, ?_⟩ ?_ ⟨by rw [if_pos hx0], kc, rfl⟩
      · simp
      · simp
      · simp
      · simp
end Go.Proofs.Ytldhfdagmaklaaa.VM
end
section
set_option maxHeartbeats 8000000
set_option linter.unusedVariables false
set_option linter.unusedSimpArgs false

/- Law BatchCuts. -/
namespace Go.Proofs.Ytldhfdagmaklaaa.VM
open Go Go.Proofs AM B
set_option maxRecDepth 100000
/-- Where operations' records end. -/
def endsL (l : List Oc) : List Int := (List.range (l.length + 1)).map fun k => ((recs (l.take k)).length : Int)
theorem endsL_snoc (l : List Oc) (o : Oc) : endsL (l ++ [o]) = endsL l ++ [((recs (l ++ [o])).length : Int)] := by
  unfold endsL
  rw [List.length_append, List.length_singleton, List.range_succ (n := l.length + 1), List.map_append]
  congr 1
  · refine List.map_congr_left fun k hk => ?_
    have := List.mem_range.1 hk
    rw [List.take_append_of_le_length (by omega)]
  · rw [List.map_singleton, List.take_of_length_le (by simp)]
theorem endsL_len (l : List Oc) : (endsL l).length = l.length + 1 := by unfold endsL; simp
theorem endsL_get {l : List Oc} {k : Nat} (h : k ≤ l.length) : (endsL l)[k]? = some ((recs (l.take k)).length : Int) := by
  unfold endsL
  rw [List.getElem?_map, List.getElem?_range (by omega)]; rfl
theorem endsL_ge {l : List Oc} {k : Nat} (h : k < (endsL l).length) : (endsL l)[k] = ((recs (l.take k)).length : Int) := by simp [endsL]
theorem endsL_nil : endsL [] = [0] := rfl
theorem recs_le (l : List Oc) (k : Nat) : (recs (l.take k)).length ≤ (recs l).length := by
  conv => rhs; rw [← List.take_append_drop k l, recs_app, List.length_append]
  omega
theorem cutL {l : List Oc} {k c : Nat} (hz : ∀ o ∈ l, ochk o = 0) (hk : k ≤ l.length) (h1 : (recs (l.take k)).length ≤ c) (h2 : c ≤ (recs l).length) (h3 : k < l.length → c < (recs (l.take (k + 1))).length) :
    ∃ x, (recs l).take c = recs (l.take k) ++ x ∧ x.length ≤ 1104 ∧ (x ≠ [] → (nxO x).2.2 ≠ 0) ∧ (x = [] ↔ c = (recs (l.take k)).length) ∧ ∀ y ∈ x, y ∈ recs l := by
  have hs : recs l = recs (l.take k) ++ recs (l.drop k) := by rw [← recs_app, List.take_append_drop]
  by_cases hc : k < l.length
  · have h3 := h3 hc
    have hmem : oAt l k ∈ l := by rw [oAt_eq l k hc]; exact List.getElem_mem hc
    rw [recs_take l k hc, List.length_append] at h3
    refine ⟨(recO (oAt l k)).take (c - (recs (l.take k)).length), ?_, ?_, ?_, ?_, ?_⟩
    · rw [hs, List.take_append, List.take_of_length_le (by omega), recs_drop l k hc, List.take_append_of_le_length (by omega)]
    · have := recO_len (hz _ hmem)
      rw [List.length_take]; omega
    · intro _
      exact nxO_cut (hz _ hmem) (by omega)
    · constructor
      · intro h
        have := congrArg List.length h
        rw [List.length_take, List.length_nil] at this
        omega
      · intro h
        rw [h, Nat.sub_self, List.take_zero]
    · intro y hy
      rw [hs, recs_drop l k hc]
      exact List.mem_append_right _ (List.mem_append_left _ (List.mem_of_mem_take hy))
  · have hk2 : l.take k = l := List.take_of_length_le (by omega)
    rw [hk2] at h1 ⊢
    refine ⟨[], ?_, by simp, by simp, ?_, by simp⟩
    · rw [List.append_nil, List.take_of_length_le h1]
    · simp; omega
theorem u64rem (cut : Int) (L : Nat) (hL : L < 2 ^ 40) : ∃ c : Nat, c ≤ L ∧ IntKind.i64.wrap (Int.tmod (IntKind.u64.wrap cut) ((L : Int) + 1)) = (c : Int) := by
  obtain ⟨n, hn⟩ : ∃ n : Nat, IntKind.u64.wrap cut = (n : Int) := by
    have h0 : 0 ≤ IntKind.u64.wrap cut := by
      simp only [IntKind.wrap, IntKind.bits, IntKind.signed]; simp; omega
    exact ⟨(IntKind.u64.wrap cut).toNat, by omega⟩
  refine ⟨n % (L + 1), by have := Nat.mod_lt n (show 0 < L + 1 by omega); omega, ?_⟩
  have h := Nat.mod_lt n (show 0 < L + 1 by omega)
  rw [hn, show (n : Int).tmod ((L : Int) + 1) = ((n % (L + 1) : Nat) : Int) by rw [show ((L : Int) + 1) = ((L + 1 : Nat) : Int) by omega]; rfl]
  rw [w64 (by omega)]
set_option maxHeartbeats 8000000 in
theorem v_BatchCuts {kk kl : Bool} {ds : List (Bool × Dc)} {ls : List (Bool × Oc)} {cut : Int} (hl : ds.length < 2 ^ 63) (hb : ∀ p ∈ ds, p.2.b.length < 2 ^ 63 ∧ byD p.2) (hn : ls.length < 2 ^ 63) (hbo : ∀ q ∈ ls, q.2.b.length < 2 ^ 63 ∧ okO q.2) :
    A 6 [DSf kk ds, OSf kl ls, i6 cut] (bo true) := by
  intro H
  refine v_enter hC [36] (fun _ _ => kn_none rfl) Try.func6 rfl ok6 (Nat.le_of_ble_eq_true rfl) fun hcl hbl => ?_
  simp
  refine CALLv.at (v_Base hl (fun p hp => (hb p hp).1)) fun u T hu => ?_
  obtain ⟨k', km, e1, e2⟩ := hu
  have hgb : gooD (baseD ((ds.take 3).map fun p => cutD p.2)) := baseD_good fun d hd => by
    obtain ⟨p, hp, rfl⟩ := List.mem_map.1 hd
    exact fun x hx => (hb p (List.mem_of_mem_take hp)).2 x (List.mem_of_mem_take hx)
  obtain ⟨base, hbase⟩ : ∃ b, baseD ((ds.take 3).map fun p => cutD p.2) = b := ⟨_, rfl⟩
  rw [hbase] at e1 e2 hgb
  subst e1; subst e2
  simp
  refine CALLv.at (v_bNew (g := H.length) (k := k') (ra := true) (l := base) (by simp) hgb.1) fun u T hu => ?_
  obtain ⟨e1, e2⟩ := hu
  subst e1; subst e2
  simp [batO]
  obtain ⟨D, hD⟩ : ∃ D, D = (ls.take 12).map fun q => cutO q.2 := ⟨_, rfl⟩
  have hDl : D.length ≤ 12 := by rw [hD, List.length_map, List.length_take]; omega
  have hDb : ∀ o ∈ D, o.b.length ≤ 1100 ∧ okO o := fun o ho => by
    rw [hD] at ho
    obtain ⟨q, hq, rfl⟩ := List.mem_map.1 ho
    have := (hbo q (List.mem_of_mem_take hq)).2
    exact ⟨by simp [cutO]; omega, fun x hx => this x (List.mem_of_mem_take hx)⟩
  refine (v_oTo (kk := kl) (l := ls) (most := 12) (by omega) hn (fun q hq => (hbo q hq).1)).callU [OSf kl ls, i6 12] (by simp) ?_
  rw [← hD]
  simp
  refine v_loopX hC (fun (X : Nat × List Oc) e T => ∃ kc w t gc rc Z, T = H ++ Z ∧ T[H.length]? = some (.mem [DS k' base] true) ∧ T[H.length + 1]? = some (.mem [.ptr gc 0, .ptr (H.length + 3) 0, OS true X.2] true) ∧ T[gc]? = some (.mem [DS kc (doL base 0 X.2).1] rc) ∧ T[H.length + 3]? = some (.mem [DS true base] true) ∧ T[H.length + 4]? = some (.vec w ((endsL X.2).map ic) 1 true t) ∧ e 2 = i6 cut ∧ e 7 = .ptr H.length 0 ∧ e 9 = .ptr (H.length + 1) 0 ∧ e 11 = .own (H.length + 4) w ∧ e 12 = OS true D ∧ e 13 = i6 X.1 ∧ X.1 ≤ D.length ∧ X.2.length ≤ X.1 ∧ (doL base 0 X.2).2 = 0 ∧ ∀ o ∈ X.2, okO o) (fun X => D.length - X.1) (0, []) (G.refl ?_) ?_
  · exact ⟨true, 0, true, H.length + 2, true, _, rfl, by simp, by simp, by simp [doL], by simp, by simp [endsL_nil], by simp, by simp, by simp, by simp, by simp, by simp, by simp, by simp, rfl, by simp⟩
  · rintro ⟨i, dn⟩ e T ⟨kc, w, t, gc, rc, Z, hT, t0, t1, t2, t3, t4, h2, h7, h9, h11, h12, h13, hi, hdl, hdo, hok⟩
    simp only at t1 t2 t4 h13 hi hdl hdo hok
    have hgt := doL_good (n := 0) hgb hok hdo
    have m0 := get_lt t0
    have m1 := get_lt t1
    have m2 := get_lt t2
    have m3 := get_lt t3
    have m4 := get_lt t4
    have hBV : BatV T (H.length + 1) base (doL base 0 dn).1 dn := ⟨_, _, _, _, _, _, _, _, t1, t2, t3⟩
    simp [h12, h13]
    refine CondV.dec (fun hlt => ?_) (fun hge => ?_)
    · have hlt : i < D.length := by omega
      have hmem : oAt D i ∈ D := by rw [oAt_eq D i hlt]; exact List.getElem_mem hlt
      have hbi := hDb _ hmem
      simp [h9, h12, h13, getO hlt]
      refine CALLv.at (v_Do (g := H.length + 1) (gc := gc) (gb := H.length + 3) (ko := true) (kc := kc) (kb := true) (kk := true) (r2 := rc) (r3 := true) (base := base) (docs := (doL base 0 dn).1) (ops := dn) (l := [oAt D i]) t1 t2 t3 hgt.1.1 (by omega) (by simp) (by simp; omega)) fun u U hu => ?_
      obtain ⟨e1, k4, e2⟩ := hu
      have hst : doL (doL base 0 dn).1 dn.length [oAt D i] = doL base 0 (dn ++ [oAt D i]) := by rw [doL_app hdo, Nat.zero_add]
      rw [hst] at e1 e2
      obtain ⟨dm, hdm⟩ : ∃ dm, dn ++ [oAt D i] = dm := ⟨_, rfl⟩
      have hem := endsL_snoc dn (oAt D i)
      have hml : dm.length = dn.length + 1 := by rw [← hdm]; simp
      have hokm : ∀ o ∈ dm, okO o := fun o ho => by
        rw [← hdm] at ho
        rcases List.mem_append.1 ho with ho | ho
        · exact hok o ho
        · rw [List.mem_singleton.1 ho]; exact hbi.2
      rw [hdm] at e1 e2 hem
      subst e1
      by_cases hr : (doL base 0 dm).2 = 0
      · have hgm := doL_good (n := 0) hgb hokm hr
        rw [if_pos hr] at e2
        have u0 : U[H.length]? = some (.mem [DS k' base] true) := by rw [e2, List.getElem?_append_left (by simpa using m0), List.getElem?_set_ne (by omega), t0]
        have u1 : U[H.length + 1]? = some (.mem [.ptr T.length 0, .ptr (H.length + 3) 0, OS true dm] true) := by rw [e2, List.getElem?_append_left (by simpa using m1), List.getElem?_set_self m1]
        have u2 : U[T.length]? = some (.mem [DS k4 (doL base 0 dm).1] true) := by rw [e2, List.getElem?_append_right (by simp)]; simp
        have u3 : U[H.length + 3]? = some (.mem [DS true base] true) := by rw [e2, List.getElem?_append_left (by simpa using m3), List.getElem?_set_ne (by omega), t3]
        have u4 : U[H.length + 4]? = some (.vec w ((endsL dn).map ic) 1 true t) := by rw [e2, List.getElem?_append_left (by simpa using m4), List.getElem?_set_ne (by omega), t4]
        obtain ⟨Z2, hU⟩ : ∃ Z2, U = H ++ Z2 := ⟨_, by rw [e2, hT, List.set_append_right _ _ (by omega), List.append_assoc]⟩
        clear e2
        have hUl : T.length < U.length := get_lt u2
        simp [hr, h9]
        refine (v_bBytes (by omega) hgm.2 hokm).call ⟨_, _, _, _, _, _, _, _, u1, u2, u3⟩ ?_
        have hel := endsL_len dn
        simp [h11, h13, u4, w64 (n := (i : Int) + 1) (by omega)]
        refine ⟨by omega, ?_⟩
        obtain ⟨Y, hY⟩ : ∃ Y, Ob.vec (w + 1) ((endsL dm).map ic) 1 true t = Y := ⟨_, rfl⟩
        have hY2 : List.map ic (endsL dn) ++ [[V.lit (Value.int IntKind.i64 ((recs dm).length : Int))]] = (endsL dm).map ic := by rw [hem, List.map_append]; rfl
        rw [hY2, hY]
        have m5 := get_lt u4
        refine GH.refl ⟨(i + 1, dm), ⟨k4, w + 1, t, T.length, true, Z2.set 4 Y, by rw [hU, List.set_append_right _ _ (by omega)]; simp, by rw [List.getElem?_set_ne (by omega), u0], by rw [List.getElem?_set_ne (by omega), u1], by rw [List.getElem?_set_ne (by omega), u2], by rw [List.getElem?_set_ne (by omega), u3], by rw [List.getElem?_set_self m5, hY], by simp [h2], by simp [h7], by simp [h9], by simp, by simp [h12], by simp, hlt, by simp only; omega, hr, hokm⟩, by simp only; omega⟩
      · rw [if_neg hr] at e2
        subst e2
        simp [hr, h13, w64 (n := (i : Int) + 1) (by omega)]
        exact GH.refl ⟨(i + 1, dn), ⟨kc, w, t, gc, rc, Z, hT, t0, t1, t2, t3, t4, by simp [h2], by simp [h7], by simp [h9], by simp [h11], by simp [h12], by simp, hlt, by simp only; omega, hdo, hok⟩, by simp only; omega⟩
    · simp [h9]
      refine (v_bBytes (by omega) hgt.2 hok).call hBV ?_
      simp [h7]
      have hrl := recs_len hgt.2
      refine CALLv.at (VC.up (args' := [.ptr H.length 0, BS true (recs dn ++ [])]) (by simp; omega) (v_bRead (kk := true) (ops := dn) (x := []) t0 hgb hok (by omega) hdo (by simp) (by simp) (by simp))) fun u U hu => ?_
      obtain ⟨e1, k5, e2⟩ := hu
      subst e1
      simp
      have hBU : BatV U (H.length + 1) base (doL base 0 dn).1 dn := by rw [e2]; exact hBV.app
      have hBY : BatV U T.length base (doL base 0 dn).1 dn := ⟨true, T.length + 1, T.length + 2, true, k5, true, true, true, by rw [e2]; simp [batO], by rw [e2]; simp [batO], by rw [e2]; simp [batO]⟩
      have u0 : U[H.length]? = some (.mem [DS k' base] true) := by rw [e2, List.getElem?_append_left m0, t0]
      have u4 : U[H.length + 4]? = some (.vec w ((endsL dn).map ic) 1 true t) := by rw [e2, List.getElem?_append_left m4, t4]
      obtain ⟨Z2, hU⟩ : ∃ Z2, U = H ++ Z2 := ⟨_, by rw [e2, hT, List.append_assoc]⟩
      have hUl : T.length < U.length := by rw [e2]; simp [batO]
      clear e2
      refine (v_bBytes (by omega) hgt.2 hok).call hBY ?_
      simp
      refine (v_Same1 (kk := true) (km := true) (l := recs dn) (m := recs dn) (by omega)).call ?_
      simp
      refine CALLv.at (v_bTarget hBY hgt.1.1) fun u V1 hu => ?_
      obtain ⟨e1, e2⟩ := hu
      subst e1; subst e2
      simp [h9]
      refine CALLv.at (v_bTarget hBU.app hgt.1.1) fun u V2 hu => ?_
      obtain ⟨e1, e2⟩ := hu
      subst e1; subst e2
      simp
      refine CALLv.at (v_cSame (g := U.length) (h := U.length + 1) (k := true) (k' := true) (ra := true) (ra' := true) (l := (doL base 0 dn).1) (l' := (doL base 0 dn).1) (by simp) hgt.1 (by simp) hgt.1) fun u V3 hu => ?_
      obtain ⟨e1, e2⟩ := hu
      subst e1; subst e2
      have hw65 : IntKind.u64.wrap ((recs dn).length + 1 : Int) = ((recs dn).length : Int) + 1 := by simp only [IntKind.wrap, IntKind.bits, IntKind.signed]; simp; omega
      have hL1 : ¬ ((recs dn).length : Int) + 1 = 0 := by omega
      simp [h2, hw65, hL1, w64 (n := ((recs dn).length : Int) + 1) (by omega)]
      obtain ⟨c, hc, hcw⟩ := u64rem cut (recs dn).length (by omega)
      rw [hcw]
      have f0 : (U ++ [Ob.mem [DS true (doL base 0 dn).1] true, Ob.mem [DS true (doL base 0 dn).1] true])[H.length]? = some (.mem [DS k' base] true) := by rw [List.getElem?_append_left (get_lt u0), u0]
      refine v_loopX hC (fun (k : Nat) e T' => T' = U ++ [.mem [DS true (doL base 0 dn).1] true, .mem [DS true (doL base 0 dn).1] true] ∧ e 2 = i6 c ∧ e 7 = .ptr H.length 0 ∧ e 9 = .ptr (H.length + 1) 0 ∧ e 11 = .own (H.length + 4) w ∧ e 14 = BS true (recs dn) ∧ e 18 = i6 k ∧ k ≤ dn.length ∧ (recs (dn.take k)).length ≤ c) (fun k => dn.length - k) 0 (G.refl ?_) ?_
      · exact ⟨by simp, by simp, by simp [h7], by simp [h9], by simp [h11], by simp, by simp, by simp, by simp [recs]⟩
      rintro k e T' ⟨rfl, h2, h7, h9, h11, h14, h18, hk, hkc⟩
      have f4 : (U ++ [Ob.mem [DS true (doL base 0 dn).1] true, Ob.mem [DS true (doL base 0 dn).1] true])[H.length + 4]? = some (.vec w ((endsL dn).map ic) 1 true t) := by rw [List.getElem?_append_left (get_lt u4), u4]
      obtain ⟨U2, hU2⟩ : ∃ U2, U ++ [Ob.mem [DS true (doL base 0 dn).1] true, Ob.mem [DS true (doL base 0 dn).1] true] = U2 := ⟨_, rfl⟩
      rw [hU2] at f4 ⊢
      have hel := endsL_len dn
      simp [h11, h18, f4, hel, w64 (n := (k : Int) + 1) (by omega)]
      rw [hU2] at f0
      have hBU2 : BatV U2 (H.length + 1) base (doL base 0 dn).1 dn := by rw [← hU2]; exact hBU.app
      have hbc : bounds (recs dn).length (recs dn).length none (some (c : Int)) none = some (0, c, (recs dn).length) := bounds_hi hc
      by_cases hkl : k < dn.length
      · have hg1 := endsL_get (l := dn) (k := k + 1) hkl
        by_cases hkc2 : (recs (dn.take (k + 1))).length ≤ c
        · have hkc3 : ((recs (dn.take (k + 1))).length : Int) ≤ (c : Int) := by omega
          simp [h2, h11, h18, hkl, f4, hel, endsL_ge, hkc3, w64 (n := (k : Int) + 1) (by omega)]
          refine ⟨by omega, ?_⟩
          refine GH.refl ⟨k + 1, ⟨by simp [hU2], by simp [h2], by simp [h7], by simp [h9], by simp [h11], by simp [h14], by simp, hkl, hkc2⟩, by omega⟩
        · have hkc3 : ¬ ((recs (dn.take (k + 1))).length : Int) ≤ (c : Int) := by omega
          have hk3 : k < dn.length → c < (recs (dn.take (k + 1))).length := fun _ => by omega
          simp [h2, h11, h18, hkl, f4, hel, endsL_ge, hkc3, w64 (n := (k : Int) + 1) (by omega)]
          refine ⟨by omega, ?_⟩
          simp [h7, h14, hbc]
          obtain ⟨x, x1, x2, x3, x4, x5⟩ := cutL hgt.2 hk hkc hc hk3
          have hok2 : ∀ o ∈ dn.take k, okO o := fun o ho => hok o (List.mem_of_mem_take ho)
          have hdk := doL_take k hdo
          have hgk := doL_good (n := 0) hgb hok2 hdk
          have hkl2 : (dn.take k).length = k := by rw [List.length_take]; omega
          refine CALLv.at (VC.up (args' := [.ptr H.length 0, BS true (recs (dn.take k) ++ x)]) (by rw [← x1]; simp; exact get_lt f0) (v_bRead (kk := true) (ops := dn.take k) (x := x) f0 hgb hok2 (by omega) hdk (fun y hy => recs_byte hok y (x5 y hy)) (by omega) x3)) fun u W hu => ?_
          obtain ⟨e1, k6, e2⟩ := hu
          have hBZ : BatV W U2.length base (doL base 0 (dn.take k)).1 (dn.take k) := ⟨true, U2.length + 1, U2.length + 2, true, k6, true, true, true, by rw [e2]; simp [batO], by rw [e2]; simp [batO], by rw [e2]; simp [batO]⟩
          have hBW : BatV W (H.length + 1) base (doL base 0 dn).1 dn := by rw [e2]; exact hBU2.app
          have g4 : W[H.length + 4]? = some (.vec w ((endsL dn).map ic) 1 true t) := by rw [e2, List.getElem?_append_left (get_lt f4), f4]
          obtain ⟨Z3, hW⟩ : ∃ Z3, W = H ++ Z3 := ⟨_, by rw [e2, ← hU2, hU, List.append_assoc, List.append_assoc]⟩
          clear e2
          subst e1
          simp [h9, h18]
          refine CALLv.at (v_Prefix (n := k) hBW hk (by omega) hgb.1 (fun o ho => by have := ochk_id (hgt.2 o ho); omega) hdk) fun u V hu => ?_
          obtain ⟨e1, k7, e2⟩ := hu
          have hBZ2 : BatV V U2.length base (doL base 0 (dn.take k)).1 (dn.take k) := by rw [e2]; exact hBZ.app
          have hBP : BatV V W.length base (doL base 0 (dn.take k)).1 (dn.take k) := ⟨true, W.length + 1, W.length + 2, true, k7, true, true, true, by rw [e2]; simp [batO], by rw [e2]; simp [batO], by rw [e2]; simp [batO]⟩
          have v4 : V[H.length + 4]? = some (.vec w ((endsL dn).map ic) 1 true t) := by rw [e2, List.getElem?_append_left (get_lt g4), g4]
          obtain ⟨Z4, hV⟩ : ∃ Z4, V = H ++ Z4 := ⟨_, by rw [e2, hW, List.append_assoc]⟩
          clear e2
          subst e1
          simp
          refine v_known26.call ?_
          have hkl3 : k < dn.length + 1 := by omega
          have hx6 : ((if x = [] then (0 : Int) else (nxO x).2.2) = 0) ↔ ((c : Int) = (recs (dn.take k)).length) := by
            by_cases hx0 : x = []
            · rw [if_pos hx0]
              have := x4.1 hx0
              exact ⟨fun _ => by omega, fun _ => rfl⟩
            · rw [if_neg hx0]
              exact ⟨fun h => absurd h (x3 hx0), fun h => absurd (x4.2 (by omega)) hx0⟩
          generalize (if x = [] then (0 : Int) else (nxO x).2.2) = er at hx6
          have hx7 : decide (er = 0) = decide ((c : Int) = (recs (dn.take k)).length) := decide_eq_decide.2 hx6
          simp [h2, h11, h18, v4, hel, endsL_ge, hkl3]
          have hx8 : (decide (er = 0) == decide ((c : Int) = (recs (dn.take k)).length)) = true := by rw [hx7]; simp
          rw [hx8]
          simp
          refine RdB.call (ops := dn.take k) (v := i6 (dn.take k).length) (fun H h => v_bLen h) hBZ2 ?_
          rw [hkl2]
          simp [h18]
          refine CALLv.at (v_bTarget hBZ2 hgk.1.1) fun u V1 hu => ?_
          obtain ⟨e1, e2⟩ := hu
          subst e1; subst e2
          simp
          refine CALLv.at (v_bTarget hBP.app hgk.1.1) fun u V2 hu => ?_
          obtain ⟨e1, e2⟩ := hu
          subst e1; subst e2
          simp
          refine CALLv.at (v_cSame (g := V.length) (h := V.length + 1) (k := true) (k' := true) (ra := true) (ra' := true) (l := (doL base 0 (dn.take k)).1) (l' := (doL base 0 (dn.take k)).1) (by simp) hgk.1 (by simp) hgk.1) fun u V3 hu => ?_
          obtain ⟨e1, e2⟩ := hu
          subst e1; subst e2
          simp [Try.results6]
          rw [hV, List.append_assoc]
          first | (refine GV.ans hcl ?_; simp []; done) | (refine GV.ans0 ?_; simp []; done)
      · have hk3 : k < dn.length → c < (recs (dn.take (k + 1))).length := fun h => absurd h hkl
        simp [h2, hkl]
        simp [h7, h14, hbc]
        obtain ⟨x, x1, x2, x3, x4, x5⟩ := cutL hgt.2 hk hkc hc hk3
        have hok2 : ∀ o ∈ dn.take k, okO o := fun o ho => hok o (List.mem_of_mem_take ho)
        have hdk := doL_take k hdo
        have hgk := doL_good (n := 0) hgb hok2 hdk
        have hkl2 : (dn.take k).length = k := by rw [List.length_take]; omega
        refine CALLv.at (VC.up (args' := [.ptr H.length 0, BS true (recs (dn.take k) ++ x)]) (by rw [← x1]; simp; exact get_lt f0) (v_bRead (kk := true) (ops := dn.take k) (x := x) f0 hgb hok2 (by omega) hdk (fun y hy => recs_byte hok y (x5 y hy)) (by omega) x3)) fun u W hu => ?_
        obtain ⟨e1, k6, e2⟩ := hu
        have hBZ : BatV W U2.length base (doL base 0 (dn.take k)).1 (dn.take k) := ⟨true, U2.length + 1, U2.length + 2, true, k6, true, true, true, by rw [e2]; simp [batO], by rw [e2]; simp [batO], by rw [e2]; simp [batO]⟩
        have hBW : BatV W (H.length + 1) base (doL base 0 dn).1 dn := by rw [e2]; exact hBU2.app
        have g4 : W[H.length + 4]? = some (.vec w ((endsL dn).map ic) 1 true t) := by rw [e2, List.getElem?_append_left (get_lt f4), f4]
        obtain ⟨Z3, hW⟩ : ∃ Z3, W = H ++ Z3 := ⟨_, by rw [e2, ← hU2, hU, List.append_assoc, List.append_assoc]⟩
        clear e2
        subst e1
        simp [h9, h18]
        refine CALLv.at (v_Prefix (n := k) hBW hk (by omega) hgb.1 (fun o ho => by have := ochk_id (hgt.2 o ho); omega) hdk) fun u V hu => ?_
        obtain ⟨e1, k7, e2⟩ := hu
        have hBZ2 : BatV V U2.length base (doL base 0 (dn.take k)).1 (dn.take k) := by rw [e2]; exact hBZ.app
        have hBP : BatV V W.length base (doL base 0 (dn.take k)).1 (dn.take k) := ⟨true, W.length + 1, W.length + 2, true, k7, true, true, true, by rw [e2]; simp [batO], by rw [e2]; simp [batO], by rw [e2]; simp [batO]⟩
        have v4 : V[H.length + 4]? = some (.vec w ((endsL dn).map ic) 1 true t) := by rw [e2, List.getElem?_append_left (get_lt g4), g4]
        obtain ⟨Z4, hV⟩ : ∃ Z4, V = H ++ Z4 := ⟨_, by rw [e2, hW, List.append_assoc]⟩
        clear e2
        subst e1
        simp
        refine v_known26.call ?_
        have hkl3 : k < dn.length + 1 := by omega
        have hx6 : ((if x = [] then (0 : Int) else (nxO x).2.2) = 0) ↔ ((c : Int) = (recs (dn.take k)).length) := by
          by_cases hx0 : x = []
          · rw [if_pos hx0]
            have := x4.1 hx0
            exact ⟨fun _ => by omega, fun _ => rfl⟩
          · rw [if_neg hx0]
            exact ⟨fun h => absurd h (x3 hx0), fun h => absurd (x4.2 (by omega)) hx0⟩
        generalize (if x = [] then (0 : Int) else (nxO x).2.2) = er at hx6
        have hx7 : decide (er = 0) = decide ((c : Int) = (recs (dn.take k)).length) := decide_eq_decide.2 hx6
        simp [h2, h11, h18, v4, hel, endsL_ge, hkl3]
        have hx8 : (decide (er = 0) == decide ((c : Int) = (recs (dn.take k)).length)) = true := by rw [hx7]; simp
        rw [hx8]
        simp
        refine RdB.call (ops := dn.take k) (v := i6 (dn.take k).length) (fun H h => v_bLen h) hBZ2 ?_
        rw [hkl2]
        simp [h18]
        refine CALLv.at (v_bTarget hBZ2 hgk.1.1) fun u V1 hu => ?_
        obtain ⟨e1, e2⟩ := hu
        subst e1; subst e2
        simp
        refine CALLv.at (v_bTarget hBP.app hgk.1.1) fun u V2 hu => ?_
        obtain ⟨e1, e2⟩ := hu
        subst e1; subst e2
        simp
        refine CALLv.at (v_cSame (g := V.length) (h := V.length + 1) (k := true) (k' := true) (ra := true) (ra' := true) (l := (doL base 0 (dn.take k)).1) (l' := (doL base 0 (dn.take k)).1) (by simp) hgk.1 (by simp) hgk.1) fun u V3 hu => ?_
        obtain ⟨e1, e2⟩ := hu
        subst e1; subst e2
        simp [Try.results6]
        rw [hV, List.append_assoc]
        first | (refine GV.ans hcl ?_; simp []; done) | (refine GV.ans0 ?_; simp []; done)
end Go.Proofs.Ytldhfdagmaklaaa.VM
end
section
set_option maxHeartbeats 8000000
set_option linter.unusedVariables false
set_option linter.unusedSimpArgs false

/- BatchCuts at the arguments as they read. -/
namespace Go.Proofs.Ytldhfdagmaklaaa
open Go Go.RowKit AM VM B
theorem batchCuts_row {H : Type} {enc : TypeId × Value → H} (A0 : Option Addr) (n0 c0 : Nat) (A1 : Option Addr) (n1 c1 : Nat) (a2 : Int) (w : World) (h0 : Rd enc Try.prog w 34 [.slice A0 n0 c0]) (h1 : Rd enc Try.prog w 42 [.slice A1 n1 c1]) (h2 : (Lit.int .i64 a2).wf = true) :
    Calls Try.prog 6 #[.slice A0 n0 c0, .slice A1 n1 c1, .int .i64 a2] w fun e w' => e = .returned (.bool true) ∧ Below w.heap.size w w' := by
  obtain ⟨kk, l, hl, hb, ha⟩ := arg_docs h0
  obtain ⟨v, kl, ls, e, hls, hbs, has⟩ := rd_ops h1
  cases e
  exact (v_BatchCuts hl hb hls hbs).law mixed prims_ok ⟨_, _, Try.func6, rfl, by decide +kernel⟩ ⟨_, _, rfl, ha, _, _, rfl, has.arg, _, _, rfl, (CellV.lit rfl).arg, rfl⟩
end Go.Proofs.Ytldhfdagmaklaaa
end
