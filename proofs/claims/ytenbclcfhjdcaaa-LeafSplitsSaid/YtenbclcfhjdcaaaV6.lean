/- leaf: with, Merge, the document's Check, Split. -/
import Derived.Test.YtenbclcfhjdcaaaV5
namespace Go.Proofs.Ytenbclcfhjdcaaa.VM
open Go Go.Proofs AM B
set_option maxRecDepth 100000
theorem v_with {a : Bool} {x v : V} (hx : x.isCell = true) (hv : v.isCell = true) : A 78 [.agg [bo a, x], v] (.agg [bo a, v]) := by
  intro H
  refine v_enter hC [] (fun _ _ => kn_none rfl) Try.func78 rfl ok78 (Nat.le_of_ble_eq_true rfl) fun hcl hbl => ?_
  simp only [Bels] at hbl
  have hs : ∀ X, Up H.length [] [] (H ++ X) v v := fun X => Up.self hbl.2.1
  simp [hx, hv, cells_cell hx, cells_cell hv, Try.results78]
  first | (refine GV.ans hcl ?_; simp [hs]; done) | (refine GV.ans0 ?_; simp [hs]; done)
def plc (a b : Int) : Int := IntKind.i64.wrap (IntKind.i64.wrap (65536 * a) + b)
theorem plc_less {a b c d : Int} (h1 : rightK a b = true) (h2 : rightK c d = true) : plc a b < plc c d ↔ lessK a b c d = true := by
  simp [rightK, lessK] at *
  unfold plc
  rw [w64 (n := 65536 * a) (by omega), w64 (n := 65536 * c) (by omega), w64 (by omega), w64 (by omega)]
  omega
theorem okE_key {e : Ent} (h : okE e = true) : rightK e.s e.n = true := by simp [okE, rightE, rightK] at *; omega
theorem v_rCheck {kk : Bool} {l : List Ent} (hl : l.length < 2 ^ 48) {lf : Bool} : A 24 [.agg [bo lf, ES kk l]] (i6 (chk lf l)) := by
  intro H
  refine v_enter hC [] (fun _ _ => kn_none rfl) Try.func24 rfl ok24 (Nat.le_of_ble_eq_true rfl) fun hcl hbl => ?_
  simp
  refine CondV.dec (fun h => ?_) (fun h => ?_)
  · simp [Try.results24]
    first | (refine GV.ans hcl ?_; simp [chk, show 16 < l.length by omega]; done) | (refine GV.ans0 ?_; simp [chk, show 16 < l.length by omega]; done)
  have hl16 : l.length ≤ 16 := by omega
  simp
  refine v_loopX hC (fun (k : Nat) e T => T = H ++ [.mem [bo lf, ES kk l] true] ∧ e 1 = .ptr H.length 0 ∧ e 3 = i6 k ∧ k ≤ l.length ∧ ∀ j, j < k → okE (ent l j) = true) (fun k => l.length - k) 0 (G.refl ?_) ?_
  · simp
  · rintro k e T ⟨rfl, h1, h3, hk, hall⟩
    simp [h1, h3]
    refine CondV.dec (fun hlt => ?_) (fun hge => ?_)
    · have hlt : k < l.length := by omega
      simp [h1, h3, getE hlt]
      refine (v_rRight _ _ _).call ?_
      simp
      refine CondV.on (fun hb => ?_) (fun hb => ?_)
      · have : allR l = false := allR_false hlt (by simpa [okE] using hb)
        simp [Try.results24]
        first | (refine GV.ans hcl ?_; simp [chk, show ¬ 16 < l.length by omega, this]; done) | (refine GV.ans0 ?_; simp [chk, show ¬ 16 < l.length by omega, this]; done)
      · simp [h1, h3, w64 (n := (k : Int) + 1) (by omega)]
        refine GH.refl ⟨k + 1, ⟨rfl, ?_, ?_, hlt, fun j hj => ?_⟩, by omega⟩ <;> (try simp [h1])
        by_cases hjk : j = k
        · subst hjk; simpa [okE] using hb
        · exact hall j (by omega)
    · have hA : allR l = true := allR_true.2 fun i hi => hall i (by omega)
      simp
      refine v_loopX hC (fun (k : Nat) e T => T = H ++ [.mem [bo lf, ES kk l] true] ∧ e 1 = .ptr H.length 0 ∧ e 4 = i6 k ∧ 1 ≤ k ∧ (k ≤ l.length ∨ k = 1) ∧ ∀ j, 0 < j → j < k → j < l.length → lessE (ent l (j - 1)) (ent l j) = true) (fun k => l.length - k) 1 (G.refl ?_) ?_
      · refine ⟨rfl, by simp [h1], by simp, by omega, by omega, fun j h0 h1 => by omega⟩
      · rintro k e T ⟨rfl, h1, h4, hk1, hk, hall2⟩
        simp [h1, h4]
        refine CondV.dec (fun hlt => ?_) (fun hge => ?_)
        · have hlt : k < l.length := by omega
          have hw : IntKind.i64.wrap ((k : Int) - 1) = ((k - 1 : Nat) : Int) := by rw [w64 (by omega)]; omega
          have r1 := okE_key (allR_true.1 hA (k - 1) (by omega))
          have r2 := okE_key (allR_true.1 hA k hlt)
          have hpl := plc_less r1 r2
          simp [h1, h4, hw]
          refine v_draw (ord := [0, 1, 2, 3, 4, 5, 6, 7, 8, 9, 10, 11, 12, 13, 14, 15]) (m := 14) (by decide +kernel) ?_
          simp [h1, h4, hw, getE hlt, getE (show k - 1 < l.length by omega)]
          refine (v_Place _ _).call ?_
          simp [h1, h4, hw, getE hlt, getE (show k - 1 < l.length by omega)]
          refine (v_Place _ _).call ?_
          simp
          refine CondV.dec (fun hb => ?_) (fun hb => ?_)
          · have h3 : lessE (ent l (k - 1)) (ent l k) = false := by
              cases hq : lessE (ent l (k - 1)) (ent l k) with
              | false => rfl
              | true => have := hpl.2 hq; unfold plc at this; omega
            have : rise l = false := rise_false (by omega) hlt h3
            simp [Try.results24]
            first | (refine GV.ans hcl ?_; simp [chk, show ¬ 16 < l.length by omega, hA, this]; done) | (refine GV.ans0 ?_; simp [chk, show ¬ 16 < l.length by omega, hA, this]; done)
          · have h3 : lessE (ent l (k - 1)) (ent l k) = true := hpl.1 (by unfold plc; omega)
            simp [h1, h4, w64 (n := (k : Int) + 1) (by omega)]
            refine GH.refl ⟨k + 1, ⟨rfl, ?_, ?_, by omega, by omega, fun j h0 hj hjl => ?_⟩, by omega⟩ <;> (try simp [h1])
            by_cases hjk : j = k
            · subst hjk; exact h3
            · exact hall2 j h0 (by omega) hjl
        · have : rise l = true := rise_true.2 fun i hi0 hi => hall2 i hi0 (by omega) hi
          simp [h1, h4]
          cases lf with
          | true =>
            simp [Try.results24]
            first | (refine GV.ans hcl ?_; simp [chk, show ¬ 16 < l.length by omega, hA, this]; done) | (refine GV.ans0 ?_; simp [chk, show ¬ 16 < l.length by omega, hA, this]; done)
          | false =>
            simp [h1]
            refine CondV.dec (fun h0 => ?_) (fun h0 => ?_)
            · have h0 : l = [] := by simpa using h0
              subst h0
              simp [Try.results24]
              first | (refine GV.ans hcl ?_; simp [chk, hA, this]; done) | (refine GV.ans0 ?_; simp [chk, hA, this]; done)
            · have h0 : l ≠ [] := by simpa using h0
              simp [Try.results24]
              first | (refine GV.ans hcl ?_; simp [chk, show ¬ 16 < l.length by omega, hA, this, h0]; done) | (refine GV.ans0 ?_; simp [chk, show ¬ 16 < l.length by omega, hA, this, h0]; done)
def mergeE (a b : Bool) (l m : List Ent) : Int := if chk a l ≠ 0 then chk a l else if chk b m ≠ 0 then chk b m else if a ≠ b then 11 else if 16 < l.length + m.length then 6 else if rise (l ++ m) = false then 3 else 0
theorem chk_len {a : Bool} {l : List Ent} (h : chk a l = 0) : l.length ≤ 16 := by
  unfold chk at h
  split at h
  · cases h
  · omega
theorem v_Merge {kk km : Bool} {l m : List Ent} (hl : l.length < 2 ^ 48) (hm : m.length < 2 ^ 48) {a b : Bool} : A 35 [.agg [bo a, ES kk l], .agg [bo b, ES km m]]
    (if mergeE a b l m = 0 then .tup [.agg [bo a, ES true (l ++ m)], i6 0] else .tup [.agg [bo false, ES true []], i6 (mergeE a b l m)]) := by
  intro H
  refine v_enter hC [] (fun _ _ => kn_none rfl) Try.func35 rfl ok35 (Nat.le_of_ble_eq_true rfl) fun hcl hbl => ?_
  simp
  refine v_once hC ?_
  simp
  refine (v_Check hl).call ?_
  simp
  refine CondV.on (fun h => ?_) (fun h => ?_)
  · have h1 : chk a l ≠ 0 := by simpa using h
    have hm : mergeE a b l m = chk a l := by simp [mergeE, h1]
    simp [Try.results35]
    first | (refine GV.ans hcl ?_; simp [hm, h1]; done) | (refine GV.ans0 ?_; simp [hm, h1]; done)
  have h1 : chk a l = 0 := by simpa using h
  simp [w64]
  refine v_once hC ?_
  simp
  refine (v_Check hm).call ?_
  simp
  refine CondV.on (fun h => ?_) (fun h => ?_)
  · have h2 : chk b m ≠ 0 := by simpa using h
    have hm : mergeE a b l m = chk b m := by simp [mergeE, h1, h2]
    simp [Try.results35]
    first | (refine GV.ans hcl ?_; simp [hm, h2]; done) | (refine GV.ans0 ?_; simp [hm, h2]; done)
  have h2 : chk b m = 0 := by simpa using h
  simp [w64]
  refine v_once hC ?_
  simp
  have hl16 := chk_len h1
  have hm16 := chk_len h2
  refine (v_Concat (kk := true) (ls := [(kk, l.map ec), (km, m.map ec)]) (by simp) (by simp) (by simp) (by simp; omega)).call fun w t => ?_
  simp
  rw [Bool.beq_eq_decide_eq]
  by_cases hab : a = b
  · subst hab
    simp
    refine CondV.dec (fun h => ?_) (fun h => ?_)
    · have hm : mergeE a a l m = 6 := by simp [mergeE, h1, h2, show 16 < l.length + m.length by omega]
      simp [Try.results35]
      first | (refine GV.ans hcl ?_; simp [hm]; done) | (refine GV.ans0 ?_; simp [hm]; done)
    · simp
      refine (v_rising (kk := true) (l := l ++ m) (by simp; omega)).callF [ES true (l ++ m)] (Frz.vec (g := H.length + 5) (w := w) (s := 3) (rows := (l ++ m).map ec) (rw := true) (t := t) (by simp) (by simp)) (by simp) ?_
      simp
      refine CondV.on (fun h3 => ?_) (fun h3 => ?_)
      · have h3 : rise (l ++ m) = false := by simpa using h3
        have hm : mergeE a a l m = 3 := by simp [mergeE, h1, h2, show ¬ 16 < l.length + m.length by omega, h3]
        simp [Try.results35]
        first | (refine GV.ans hcl ?_; simp [hm]; done) | (refine GV.ans0 ?_; simp [hm]; done)
      · have h3 : rise (l ++ m) = true := by simpa using h3
        have hm : mergeE a a l m = 0 := by simp [mergeE, h1, h2, show ¬ 16 < l.length + m.length by omega, h3]
        simp
        refine (v_with (v := .own (H.length + 5) w) (x := ES kk l) rfl rfl).call ?_
        simp [Try.results35]
        first | (refine GV.ans hcl ?_; simp [hm]; done) | (refine GV.ans0 ?_; simp [hm]; done)
  · have hm : mergeE a b l m = 11 := by simp [mergeE, h1, h2, hab]
    simp [hab, Try.results35]
    first | (refine GV.ans hcl ?_; simp [hm]; done) | (refine GV.ans0 ?_; simp [hm]; done)
def splitE (a : Bool) (l : List Ent) : Int := if chk a l ≠ 0 then chk a l else if l.length < 2 then 11 else 0
theorem v_Split {kk : Bool} {l : List Ent} (hl : l.length < 2 ^ 48) {a : Bool} : A 34 [.agg [bo a, ES kk l]]
    (if splitE a l = 0 then .tup [.agg [bo a, ES true (l.take (l.length / 2))], .agg [bo a, ES false (l.drop (l.length / 2))], i6 0] else .tup [.agg [bo false, ES true []], .agg [bo false, ES false []], i6 (splitE a l)]) := by
  intro H
  refine v_enter hC [] (fun _ _ => kn_none rfl) Try.func34 rfl ok34 (Nat.le_of_ble_eq_true rfl) fun hcl hbl => ?_
  simp
  refine (v_Check hl).call ?_
  simp
  refine CondV.on (fun h => ?_) (fun h => ?_)
  · have h1 : chk a l ≠ 0 := by simpa using h
    have hm : splitE a l = chk a l := by simp [splitE, h1]
    simp [Try.results34]
    first | (refine GV.ans hcl ?_; simp [hm, h1]; done) | (refine GV.ans0 ?_; simp [hm, h1]; done)
  have h1 : chk a l = 0 := by simpa using h
  simp
  refine CondV.dec (fun h => ?_) (fun h => ?_)
  · have hm : splitE a l = 11 := by simp [splitE, h1, show l.length < 2 by omega]
    simp [Try.results34]
    first | (refine GV.ans hcl ?_; simp [hm]; done) | (refine GV.ans0 ?_; simp [hm]; done)
  have hm : splitE a l = 0 := by simp [splitE, h1, show ¬ l.length < 2 by omega]
  simp
  refine v_draw (ord := [0, 1, 2, 3, 4, 5, 6, 7, 8]) (m := 5) (by decide +kernel) ?_
  simp
  have hl16 := chk_len h1
  refine ((v_Clone (by omega)).fro (by simp) true).call ?_
  have hcast : IntKind.i64.wrap ((l.length : Int) / 2) = ((l.length / 2 : Nat) : Int) := by rw [w64 (by omega)]; omega
  have hne : ¬ ((l.length : Int) / 2 = 0) := by omega
  have hb1 : bounds l.length l.length none (some ((l.length : Int) / 2)) (some ((l.length : Int) / 2)) = some (0, l.length / 2, l.length / 2) := by
    unfold bounds; simp only; rw [if_pos (by omega)]; congr 2 <;> omega
  have hb2 : bounds l.length l.length (some ((l.length : Int) / 2)) none none = some (l.length / 2, l.length, l.length) := by
    unfold bounds; simp only; rw [if_pos (by omega)]; congr 2
  simp [hcast]
  refine v_draw (ord := [0, 1, 2, 3, 4, 5, 6, 7, 8, 9, 10, 11, 12, 13]) (m := 7) (by decide +kernel) ?_
  simp [hne, hb1]
  refine (v_with (v := .fsl true 3 ((l.take (l.length / 2)).map ec)) (x := ES kk l) rfl rfl).callU [.agg [bo a, ES kk l], ES true (l.take (l.length / 2))] (by simp) ?_
  simp [hb2]
  refine (v_with (v := .fsl false 3 ((l.drop (l.length / 2)).map ec)) (x := ES kk l) rfl rfl).callU [.agg [bo a, ES kk l], ES false (l.drop (l.length / 2))] (by simp) ?_
  simp [Try.results34]
  first | (refine GV.ans hcl ?_; simp [hm]; done) | (refine GV.ans0 ?_; simp [hm]; done)
end Go.Proofs.Ytenbclcfhjdcaaa.VM
