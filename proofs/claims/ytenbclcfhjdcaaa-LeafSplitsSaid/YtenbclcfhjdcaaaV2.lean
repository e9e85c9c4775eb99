/- leaf: sound and Check. -/
import Derived.Test.YtenbclcfhjdcaaaV1
namespace Go.Proofs.Ytenbclcfhjdcaaa.VM
open Go Go.Proofs AM B
def ec (e : Ent) : List V := [i6 e.s, i6 e.n, i6 e.p]
/-- A slice of entries. -/
def ES (k : Bool) (l : List Ent) : V := .fsl k 3 (l.map ec)
attribute [simp] ES ec
theorem getE {l : List Ent} {k : Nat} (h : k < l.length) : l[k]? = some (ent l k) := by rw [List.getElem?_eq_getElem h, ent_eq l k h]
/-- The first entry that isn't right. -/
def badAt (l : List Ent) : Int := match l.findIdx? (fun e => !okE e) with
  | some i => i
  | none => -1
theorem findIdx_from {p : Ent → Bool} {l : List Ent} {k : Nat} (h : ∀ j, j < k → p (ent l j) = false) (hk : k < l.length) (hp : p (ent l k) = true) : l.findIdx? p = some k := by
  rw [List.findIdx?_eq_some_iff_getElem]
  refine ⟨hk, ?_, fun j hj => ?_⟩
  · rw [← ent_eq l k hk]; exact hp
  · have := h j hj
    rw [ent_eq l j (by omega)] at this
    simp [this]
theorem findIdx_none {p : Ent → Bool} {l : List Ent} (h : ∀ j, j < l.length → p (ent l j) = false) : l.findIdx? p = none := by
  rw [List.findIdx?_eq_none_iff]
  intro x hx
  obtain ⟨i, hi, rfl⟩ := List.getElem_of_mem hx
  rw [← ent_eq l i hi]
  exact h i hi
theorem badAt_neg {l : List Ent} : badAt l < 0 ↔ allR l = true := by
  unfold badAt allR
  cases h : l.findIdx? (fun e => !okE e) with
  | none =>
    rw [List.findIdx?_eq_none_iff] at h
    simp only [List.all_eq_true]
    refine ⟨fun _ x hx => by simpa using h x hx, fun _ => by decide⟩
  | some i =>
    obtain ⟨hi, h1, _⟩ := List.findIdx?_eq_some_iff_getElem.1 h
    simp at h1
    have : l.all okE = false := by
      rw [List.all_eq_false]
      exact ⟨l[i], List.getElem_mem hi, by simp [h1]⟩
    rw [this]
    simp
set_option maxRecDepth 100000
theorem v_IndexFunc {kk : Bool} {l : List Ent} (hl : l.length < 2 ^ 48) : A 116 [ES kk l, .fn 108 [] []] (i6 (badAt l)) := by
  intro H
  refine v_enter hC [] (fun _ _ => kn_none rfl) Try.func116 rfl ok116 (Nat.le_of_ble_eq_true rfl) fun hcl hbl => ?_
  simp
  refine v_loopX hC (fun (k : Nat) e T => T = H ∧ e 0 = ES kk l ∧ e 1 = .fn 108 [] [] ∧ e 7 = i6 l.length ∧ e 8 = i6 k ∧ k ≤ l.length ∧ ∀ j, j < k → okE (ent l j) = true) (fun k => l.length - k) 0 (G.refl ?_) ?_
  · simp
  · rintro k e T ⟨rfl, h0, h1, h7, h8, hk, hall⟩
    simp [h0, h1, h7, h8]
    refine CondV.dec (fun hlt => ?_) (fun hge => ?_)
    · have hlt : k < l.length := by omega
      simp [h0, h1, h7, h8, getE hlt]
      refine (v_sound1 _ _ _).call ?_
      simp
      refine CondV.on (fun hb => ?_) (fun hb => ?_)
      · have : badAt l = k := by
          unfold badAt
          rw [findIdx_from (k := k) (fun j hj => by simp [hall j hj]) hlt (by simpa [okE] using hb)]
        simp [Try.results116, this]
        first | (refine GV.ans hcl ?_; simp [this]; done) | (refine GV.ans0 ?_; simp [this]; done)
      · simp [h0, h1, h7, h8, w64 (n := (k : Int) + 1) (by omega)]
        refine GH.refl ⟨k + 1, ⟨rfl, ?_, ?_, ?_, ?_, hlt, fun j hj => ?_⟩, by omega⟩ <;> (try simp [h0, h1, h7])
        by_cases hjk : j = k
        · subst hjk; simpa [okE] using hb
        · exact hall j (by omega)
    · have : badAt l = -1 := by
        unfold badAt
        rw [findIdx_none fun j hj => by simp [hall j (by omega)]]
      simp [Try.results116, this]
      first | (refine GV.ans hcl ?_; simp [this]; done) | (refine GV.ans0 ?_; simp [this]; done)
theorem v_ContainsFunc {kk : Bool} {l : List Ent} (hl : l.length < 2 ^ 48) : A 107 [ES kk l, .fn 108 [] []] (bo (!allR l)) := by
  intro H
  refine v_enter hC [] (fun _ _ => kn_none rfl) Try.func107 rfl ok107 (Nat.le_of_ble_eq_true rfl) fun hcl hbl => ?_
  simp
  refine (v_IndexFunc hl).call ?_
  simp [Try.results107]
  have := badAt_neg (l := l)
  have e : decide (0 ≤ badAt l) = !allR l := by cases h : allR l <;> simp [h] at this ⊢ <;> omega
  first | (refine GV.ans hcl ?_; simp [e]; done) | (refine GV.ans0 ?_; simp [e]; done)
theorem v_rising {kk : Bool} {l : List Ent} (hl : l.length < 2 ^ 48) : A 80 [ES kk l] (bo (rise l)) := by
  intro H
  refine v_enter hC [] (fun _ _ => kn_none rfl) Try.func80 rfl ok80 (Nat.le_of_ble_eq_true rfl) fun hcl hbl => ?_
  simp
  refine v_loopX hC (fun (k : Nat) e T => T = H ∧ e 0 = ES kk l ∧ e 5 = i6 l.length ∧ e 6 = i6 k ∧ k ≤ l.length ∧ ∀ j, 0 < j → j < k → lessE (ent l (j - 1)) (ent l j) = true) (fun k => l.length - k) 0 (G.refl ?_) ?_
  · simp
  · rintro k e T ⟨rfl, h0, h5, h6, hk, hall⟩
    simp [h0, h5, h6]
    refine CondV.dec (fun hlt => ?_) (fun hge => ?_)
    · have hlt : k < l.length := by omega
      simp [h0, h5, h6]
      refine v_draw (ord := [0, 1, 2, 3, 4, 5, 6, 7, 8, 9, 10, 11, 12, 13, 14, 15, 16]) (m := 14) (by decide +kernel) ?_
      simp [h0, h5, h6]
      refine GuardR.dec (fun hpos => ?_) (fun hz => ?_)
      · have hw : IntKind.i64.wrap ((k : Int) - 1) = ((k - 1 : Nat) : Int) := by rw [w64 (by omega)]; omega
        simp [h0, h5, h6, getE hlt, hw, getE (show k - 1 < l.length by omega), hpos]
        refine (v_Less _ _ _ _).call ?_
        simp [hpos]
        refine CondV.on (fun hb => ?_) (fun hb => ?_)
        · have : rise l = false := rise_false hpos hlt (by simpa [lessE] using hb)
          simp [Try.results80, this]
          first | (refine GV.ans hcl ?_; simp [this]; done) | (refine GV.ans0 ?_; simp [this]; done)
        · simp [h0, h5, h6, w64 (n := (k : Int) + 1) (by omega)]
          refine GH.refl ⟨k + 1, ⟨rfl, ?_, ?_, ?_, hlt, fun j hj0 hj => ?_⟩, by omega⟩ <;> (try simp [h0, h5])
          by_cases hjk : j = k
          · subst hjk; simpa [lessE] using hb
          · exact hall j hj0 (by omega)
      · have hz : k = 0 := by omega
        subst hz
        simp [h0, h5, h6, w64]
        refine GH.refl ⟨1, ⟨rfl, ?_, ?_, ?_, hlt, fun j hj0 hj => by omega⟩, by omega⟩ <;> simp [h0, h5]
    · have : rise l = true := rise_true.2 fun i hi0 hi => hall i hi0 (by omega)
      simp [Try.results80, this]
      first | (refine GV.ans hcl ?_; simp [this]; done) | (refine GV.ans0 ?_; simp [this]; done)
theorem v_sound {kk : Bool} {l : List Ent} (hl : l.length < 2 ^ 48) {lf : Bool} : A 86 [.agg [bo lf, ES kk l]] (i6 (snd l)) := by
  intro H
  refine v_enter hC [] (fun _ _ => kn_none rfl) Try.func86 rfl ok86 (Nat.le_of_ble_eq_true rfl) fun hcl hbl => ?_
  simp
  refine CondV.dec (fun h => ?_) (fun h => ?_)
  · simp [Try.results86]
    first | (refine GV.ans hcl ?_; simp [snd, show 16 < l.length by omega]; done) | (refine GV.ans0 ?_; simp [snd, show 16 < l.length by omega]; done)
  · simp
    refine (v_ContainsFunc hl).call ?_
    simp
    refine CondV.on (fun h2 => ?_) (fun h2 => ?_)
    · simp at h2
      simp [Try.results86]
      first | (refine GV.ans hcl ?_; simp [snd, show ¬ 16 < l.length by omega, h2]; done) | (refine GV.ans0 ?_; simp [snd, show ¬ 16 < l.length by omega, h2]; done)
    · simp at h2
      simp
      refine (v_rising hl).call ?_
      simp
      refine CondV.on (fun h3 => ?_) (fun h3 => ?_)
      · simp at h3
        simp [Try.results86]
        first | (refine GV.ans hcl ?_; simp [snd, show ¬ 16 < l.length by omega, h2, h3]; done) | (refine GV.ans0 ?_; simp [snd, show ¬ 16 < l.length by omega, h2, h3]; done)
      · simp at h3
        simp [Try.results86]
        first | (refine GV.ans hcl ?_; simp [snd, show ¬ 16 < l.length by omega, h2, h3]; done) | (refine GV.ans0 ?_; simp [snd, show ¬ 16 < l.length by omega, h2, h3]; done)
theorem chk_snd (lf : Bool) (l : List Ent) : chk lf l = if snd l ≠ 0 then snd l else if lf = false ∧ l.length = 0 then 3 else 0 := by
  unfold chk snd
  split
  · rfl
  · split
    · rfl
    · split <;> simp
theorem v_Check {kk : Bool} {l : List Ent} (hl : l.length < 2 ^ 48) {lf : Bool} : A 42 [.agg [bo lf, ES kk l]] (i6 (chk lf l)) := by
  intro H
  refine v_enter hC [] (fun _ _ => kn_none rfl) Try.func42 rfl ok42 (Nat.le_of_ble_eq_true rfl) fun hcl hbl => ?_
  simp
  rw [chk_snd]
  refine (v_sound hl).call ?_
  simp
  refine CondV.on (fun h2 => ?_) (fun h2 => ?_)
  · simp at h2
    simp [Try.results42]
    first | (refine GV.ans hcl ?_; simp [h2]; done) | (refine GV.ans0 ?_; simp [h2]; done)
  · simp at h2
    cases lf
    · simp [h2]
      refine CondV.dec (fun h => ?_) (fun h => ?_)
      · have h : l = [] := by simpa using h
        subst h; simp [Try.results42]
        first | (refine GV.ans hcl ?_; simp [h2]; done) | (refine GV.ans0 ?_; simp [h2]; done)
      · have h : l ≠ [] := by simpa using h
        simp [Try.results42]
        first | (refine GV.ans hcl ?_; simp [h, h2]; done) | (refine GV.ans0 ?_; simp [h, h2]; done)
    · simp [Try.results42]
      first | (refine GV.ans hcl ?_; simp [h2]; done) | (refine GV.ans0 ?_; simp [h2]; done)
end Go.Proofs.Ytenbclcfhjdcaaa.VM
