/- Check of leaf. -/
import Derived.Test.YtenbclcfhjdcaaaLeafB
namespace Go.Proofs.Ytenbclcfhjdcaaa
open Go.RowKit B
/-- The first entry that isn't right, or -1. -/
def badAt (l : List Ent) : Int := match (List.range l.length).find? fun i => !okE (ent l i) with | some i => (i : Int) | none => -1
theorem badAt_some {l : List Ent} {k : Nat} (hk : k < l.length) (h : okE (ent l k) = false) (hb : ∀ j, j < k → okE (ent l j) = true) : badAt l = k := by
  have : (List.range l.length).find? (fun i => !okE (ent l i)) = some k := by
    rw [List.find?_range_eq_some]
    exact ⟨by simp [h], by simpa using hk, fun j hj => by simp [hb j hj]⟩
  unfold badAt
  rw [this]
theorem badAt_none {l : List Ent} (h : ∀ j, j < l.length → okE (ent l j) = true) : badAt l = -1 := by
  have : (List.range l.length).find? (fun i => !okE (ent l i)) = none := by
    rw [List.find?_eq_none]
    intro x hx
    simp at hx
    simp [h x hx]
  unfold badAt
  rw [this]
theorem badAt_neg (l : List Ent) : decide (0 ≤ badAt l) = !allR l := by
  cases h : allR l with
  | true => rw [badAt_none (allR_true.1 h)]; rfl
  | false =>
    unfold badAt
    cases hf : (List.range l.length).find? (fun i => !okE (ent l i)) with
    | some i => simp
    | none =>
      rw [List.find?_eq_none] at hf
      have : allR l = true := allR_true.2 fun i hi => by simpa using hf i (by simpa using hi)
      rw [this] at h; cases h
set_option maxRecDepth 100000 in
theorem leaf_IndexFunc (v : Value) (l : List Ent) (w : World) (h : Row w v l.length (ents l)) (hm : l.length ≤ 1000000) :
    Calls Try.prog 116 #[v, .func (.func 108) #[] #[]] w fun e w' => e = .returned (.int .i64 (badAt l)) ∧ Below w.heap.size w w' := by
  have R := Keep.mk (Below.refl w.heap.size w)
  have H0 := Keep.mk h
  obtain ⟨A, c, rfl, h1, h2, _⟩ := h
  go_enter Try.func116, Try.ntmps116
  go_wp2_with fail
  go_loopw [8] (fun i wr => ∃ k : Nat, i = .int .i64 k ∧ k ≤ l.length ∧ Keep ((∀ j, j < k → okE (ent l j) = true) ∧ Below w.heap.size w wr)) (fun i _ => l.length - (intOf i).toNat)
  case atStart => exact ⟨0, rfl, Nat.zero_le _, ⟨fun j hj => absurd hj (Nat.not_lt_zero _), R.out⟩⟩
  case round =>
    obtain ⟨k, rfl, hk, I⟩ := hrel
    by_cases hlt : k < l.length
    · obtain ⟨g, o, c', e, _, _, _, hc⟩ := H0.out.ent (by omega)
      cases e
      obtain ⟨e1, e2, e3⟩ := hc k hlt
      have e1 := kc I.out.2 e1
      have e2 := kc I.out.2 e2
      have e3 := kc I.out.2 e3
      clear hc
      have S := Keep.mk (fun w => leaf_sound1 (ent l k).s (ent l k).n (ent l k).p w)
      have HR : Keep (okE (ent l k) = rightE (ent l k).s (ent l k).n (ent l k).p) := ⟨rfl⟩
      generalize rightE (ent l k).s (ent l k).n (ent l k).p = r at *
      cases r
      all_goals
        go_wp2_with (go_at_call 108; refine (S.out _).mono ?_; rintro e w' ⟨rfl, hb⟩; have KB := Keep.mk hb; clear hb)
      · go_ret
        exact ⟨retI (badAt_some hlt HR.out I.out.1).symm, bnext I.out.2 I.out.2.size KB.out⟩
      · go_roundw
        case rel => exact ⟨k + 1, by go_num, by omega, ⟨fun j hj => by rcases Nat.lt_or_ge j k with h | h; exact I.out.1 j h; exact (show j = k by omega) ▸ HR.out, bnext I.out.2 I.out.2.size KB.out⟩⟩
        case measure => simp [intOf]; omega
    · obtain rfl : k = l.length := by omega
      go_wp2
      go_ret
      exact ⟨retI (badAt_none I.out.1).symm, I.out.2⟩
theorem leaf_ContainsFunc (v : Value) (l : List Ent) (w : World) (h : Row w v l.length (ents l)) (hm : l.length ≤ 1000000) :
    Calls Try.prog 107 #[v, .func (.func 108) #[] #[]] w fun e w' => e = .returned (.bool (!allR l)) ∧ Below w.heap.size w w' := by
  have S := leaf_IndexFunc v l w h hm
  have HN := Keep.mk (badAt_neg l)
  generalize badAt l = b at *
  have S := Keep.mk S
  go_enter Try.func107, Try.ntmps107
  go_wp2_with (go_at_call 116; refine S.out.mono ?_; rintro e w' ⟨rfl, hb⟩; have KB := Keep.mk hb; clear hb)
  go_ret
  exact ⟨retB HN.out, KB.out⟩
theorem leaf_lessE (a b : Ent) (w : World) :
    Calls Try.prog 27 #[.agg #[.int .i64 a.s, .int .i64 a.n], .agg #[.int .i64 b.s, .int .i64 b.n]] w fun e w' => e = .returned (.bool (lessE a b)) ∧ Below w.heap.size w w' := leaf_less _ _ _ _ w
set_option maxRecDepth 100000 in
theorem leaf_rising (v : Value) (l : List Ent) (w : World) (h : Row w v l.length (ents l)) (hm : l.length ≤ 1000000) :
    Calls Try.prog 80 #[v] w fun e w' => e = .returned (.bool (rise l)) ∧ Below w.heap.size w w' := by
  have R := Keep.mk (Below.refl w.heap.size w)
  have H0 := Keep.mk h
  obtain ⟨A, c, rfl, h1, h2, _⟩ := h
  go_enter Try.func80, Try.ntmps80
  go_wp2_with fail
  go_loopw [6] (fun i wr => ∃ k : Nat, i = .int .i64 k ∧ k ≤ l.length ∧ Keep ((∀ j, 0 < j → j < k → lessE (ent l (j - 1)) (ent l j) = true) ∧ Below w.heap.size w wr)) (fun i _ => l.length - (intOf i).toNat)
  case atStart => exact ⟨0, rfl, Nat.zero_le _, ⟨fun j h0 hj => absurd hj (Nat.not_lt_zero _), R.out⟩⟩
  case round =>
    obtain ⟨k, rfl, hk, I⟩ := hrel
    by_cases hlt : k < l.length
    · rcases Nat.eq_zero_or_pos k with h0 | h0
      · subst h0
        go_wp2_with fail
        go_quiet (fail)
        go_wp2
        go_roundw
        case rel => exact ⟨1, by go_num, by omega, ⟨fun j h0 hj => by omega, bdraw I.out.2 _⟩⟩
        case measure => simp [intOf]; omega
      · obtain ⟨m, rfl⟩ : ∃ m, k = m + 1 := ⟨k - 1, by omega⟩
        obtain ⟨g, o, c', e, _, _, hg, hc⟩ := H0.out.ent (by omega)
        cases e
        obtain ⟨e1, e2, _⟩ := hc (m + 1) hlt
        obtain ⟨f1, f2, _⟩ := hc m (by omega)
        have e1 := kc I.out.2 e1
        have e2 := kc I.out.2 e2
        have f1 := kc I.out.2 f1
        have f2 := kc I.out.2 f2
        clear hc
        have q0 : (0 : Int) ≤ (m : Int) := by omega
        have q1 : (0 : Int) ≤ (m : Int) + 1 := by omega
        have q2 : (m : Int) + 1 < (l.length : Int) := by omega
        have q3 : (m : Int) < (l.length : Int) := by omega
        have q4 : (0 : Int) < (m : Int) + 1 := by omega
        have z1 : IntKind.i64.wrap (m : Int) = (m : Int) := IntWalk.i64_in _ (by omega)
        have hr : Below wr.heap.size wr wr.drew := (Below.refl _ _).drew
        go_wp2_with fail
        go_region_held3 (fun w' => w'.cell? ⟨g, o + (m + 1) * 3, none⟩ = some (.int .i64 (ent l (m + 1)).s) ∧ w'.cell? ⟨g, o + (m + 1) * 3 + 1, none⟩ = some (.int .i64 (ent l (m + 1)).n) ∧ w'.cell? ⟨g, o + m * 3, none⟩ = some (.int .i64 (ent l m).s) ∧ w'.cell? ⟨g, o + m * 3 + 1, none⟩ = some (.int .i64 (ent l m).n)) (first | go_keep | (go_split_ands; refine ⟨?_, ?_, ?_, ?_⟩ <;> (refine kc hb ?_; assumption)))
          (first | (go_at_call 27; refine (leaf_lessE _ _ _).mono ?_; rintro e w' ⟨rfl, hb⟩; replace hr := bnext hr hr.size hb))
        have HR := Keep.mk hr
        clear hr hb
        cases hl : lessE (ent l m) (ent l (m + 1))
        · have HH := Keep.mk hl
          clear hl
          go_wp2
          go_ret
          exact ⟨retB (rise_false (by omega) hlt HH.out).symm, bnext I.out.2 I.out.2.size HR.out⟩
        · have HH := Keep.mk hl
          clear hl
          go_wp2
          go_roundw
          case rel => exact ⟨m + 1 + 1, by go_num, by omega, ⟨fun j h0 hj => by rcases Nat.lt_or_ge j (m + 1) with h | h; exact I.out.1 j h0 h; exact (show j = m + 1 by omega) ▸ HH.out, bnext I.out.2 I.out.2.size HR.out⟩⟩
          case measure => simp [intOf]; omega
    · obtain rfl : k = l.length := by omega
      go_wp2
      go_ret
      exact ⟨retB (rise_true.2 I.out.1).symm, I.out.2⟩
set_option maxRecDepth 100000 in
theorem leaf_sound (lf : Bool) (v : Value) (l : List Ent) (w : World) (h : Row w v l.length (ents l)) (hm : l.length ≤ 1000000) :
    Calls Try.prog 86 #[.agg #[.bool lf, v]] w fun e w' => e = .returned (.int .i64 (snd l)) ∧ Below w.heap.size w w' := by
  have R := Keep.mk (Below.refl w.heap.size w)
  have hb0 := balloc R.out (.cells #[.bool lf, v] 42)
  have SC := Keep.mk (fun w2 (hb : Below w.heap.size w w2) => leaf_ContainsFunc v l w2 (h.below hb) hm)
  have SR := Keep.mk (fun w2 (hb : Below w.heap.size w w2) => leaf_rising v l w2 (h.below hb) hm)
  have BW := Keep.mk hb0
  clear hb0
  obtain ⟨A, c, rfl, h1, h2, _⟩ := h
  by_cases hl : 16 < l.length
  · have hs : snd l = 2 := by unfold snd; rw [if_pos hl]
    rw [hs]
    clear hs
    go_enter Try.func86, Try.ntmps86
    go_wp2
    go_ret
    exact ⟨rfl, BW.out⟩
  · have hs : snd l = if allR l = false then 10 else if rise l = false then 3 else 0 := by unfold snd; rw [if_neg hl]
    rw [hs]
    clear hs
    generalize allR l = a1 at *
    generalize rise l = a2 at *
    cases a1
    all_goals
      cases a2
      all_goals
        simp only [Bool.true_eq_false, if_true, if_false, ↓reduceIte, reduceCtorEq]
        go_enter Try.func86, Try.ntmps86
        go_wp2_with (first | (go_at_call 107; refine (SC.out _ BW.out).mono ?_; rintro e w' ⟨rfl, hb⟩; obtain ⟨cc, cf⟩ := bcell hb; replace BW := Keep.mk (bnext BW.out BW.out.size hb); clear hb) | (go_at_call 80; refine (SR.out _ BW.out).mono ?_; rintro e w' ⟨rfl, hb⟩; replace BW := Keep.mk (bnext BW.out BW.out.size hb); clear hb))
        go_ret
        exact ⟨rfl, BW.out⟩
theorem chk_snd (lf : Bool) (l : List Ent) : chk lf l = if snd l ≠ 0 then snd l else if lf = false ∧ l.length = 0 then 3 else 0 := by
  unfold chk snd
  by_cases h1 : 16 < l.length
  · simp [h1]
  · cases allR l <;> cases rise l <;> simp [h1]
theorem snd_range (l : List Ent) : 0 ≤ snd l ∧ snd l ≤ 10 := by
  unfold snd
  split
  · omega
  · split
    · omega
    · split <;> omega
set_option maxRecDepth 100000 in
theorem leaf_Check (lf : Bool) (v : Value) (l : List Ent) (w : World) (h : Row w v l.length (ents l)) (hm : l.length ≤ 1000000) :
    Calls Try.prog 42 #[.agg #[.bool lf, v]] w fun e w' => e = .returned (.int .i64 (chk lf l)) ∧ Below w.heap.size w w' := by
  have R := Keep.mk (Below.refl w.heap.size w)
  have hb0 := balloc R.out (.cells #[.bool lf, v] 42)
  have SS := Keep.mk (fun w2 (hb : Below w.heap.size w w2) => leaf_sound lf v l w2 (h.below hb) hm)
  have BW := Keep.mk hb0
  clear hb0
  obtain ⟨A, c, rfl, h1, h2, _⟩ := h
  have hs := chk_snd lf l
  have hr := snd_range l
  rw [hs]
  clear hs
  generalize snd l = q at *
  by_cases hq : q = 0
  · subst hq
    simp only [ne_eq, not_true_eq_false, if_false, ↓reduceIte]
    cases lf
    · by_cases hz : l.length = 0
      · have hz1 : ((l.length : Int) == 0) = true := by simp [hz]
        rw [if_pos ⟨rfl, hz⟩]
        clear hz
        go_enter Try.func42, Try.ntmps42
        go_wp2_with (go_at_call 86; refine (SS.out _ BW.out).mono ?_; rintro e w' ⟨rfl, hb⟩; obtain ⟨cc, cf⟩ := bcell hb; replace BW := Keep.mk (bnext BW.out BW.out.size hb); clear hb)
        go_ret
        exact ⟨rfl, BW.out⟩
      · have hz1 : ((l.length : Int) == 0) = false := by simp [hz]
        rw [if_neg (fun h => hz h.2)]
        clear hz
        go_enter Try.func42, Try.ntmps42
        go_wp2_with (go_at_call 86; refine (SS.out _ BW.out).mono ?_; rintro e w' ⟨rfl, hb⟩; obtain ⟨cc, cf⟩ := bcell hb; replace BW := Keep.mk (bnext BW.out BW.out.size hb); clear hb)
        go_ret
        exact ⟨rfl, BW.out⟩
    · rw [if_neg (fun h => by cases h.1)]
      go_enter Try.func42, Try.ntmps42
      go_wp2_with (go_at_call 86; refine (SS.out _ BW.out).mono ?_; rintro e w' ⟨rfl, hb⟩; obtain ⟨cc, cf⟩ := bcell hb; replace BW := Keep.mk (bnext BW.out BW.out.size hb); clear hb)
      go_ret
      exact ⟨rfl, BW.out⟩
  · have hq2 : (q != 0) = true := by simp [hq]
    rw [if_pos hq]
    clear hq
    go_enter Try.func42, Try.ntmps42
    go_wp2_with (go_at_call 86; refine (SS.out _ BW.out).mono ?_; rintro e w' ⟨rfl, hb⟩; obtain ⟨cc, cf⟩ := bcell hb; replace BW := Keep.mk (bnext BW.out BW.out.size hb); clear hb)
    go_ret
    exact ⟨rfl, BW.out⟩
end Go.Proofs.Ytenbclcfhjdcaaa
