/- Check, of leaf and of its reference. -/
import Derived.Test.YtenbclcfhjdcaaaLeafP
namespace Go.Proofs.Ytenbclcfhjdcaaa
open Go.RowKit B
/-- A node's value reads so. -/
def NodeV (w : World) (lf : Bool) (v : Value) (l : List Ent) : Prop := Row w v l.length (ents l)

set_option maxRecDepth 100000 in
theorem ref09_Check (lf : Bool) (v : Value) (l : List Ent) (w : World) (h : Row w v l.length (ents l)) (hm : l.length ≤ 1000000) :
    Calls Try.prog 24 #[.agg #[.bool lf, v]] w fun e w' => e = .returned (.int .i64 (chk lf l)) ∧ Below w.heap.size w w' := by
  have R := Keep.mk (Below.refl w.heap.size w)
  obtain ⟨A, c, rfl, h1, h2, _⟩ := id h
  by_cases hlen : 16 < l.length
  · have e : chk lf l = 2 := by unfold chk; rw [if_pos hlen]
    rw [e]
    clear e h
    go_enter Try.func24, Try.ntmps24
    go_wp2
    go_ret
    exact ⟨rfl, balloc R.out _⟩
  · have H0 := Keep.mk (h.below (balloc R.out (.cells #[.bool lf, .slice A l.length c] 37)))
    clear h
    go_enter Try.func24, Try.ntmps24
    go_wp2_with fail
    have c0 : (w.alloc (.cells #[.bool lf, .slice A l.length c] 37)).cell? ⟨w.heap.size, 0, none⟩ = some (.bool lf) := by simp
    have c1 : (w.alloc (.cells #[.bool lf, .slice A l.length c] 37)).cell? ⟨w.heap.size, 1, none⟩ = some (.slice A l.length c) := by simp
    have BW : Keep (Below w.heap.size w (w.alloc (.cells #[.bool lf, .slice A l.length c] 37))) := ⟨balloc R.out _⟩
    have HS : Keep ((w.alloc (.cells #[.bool lf, .slice A l.length c] 37)).heap.size = w.heap.size + 1) := ⟨by simp⟩
    generalize w.alloc (.cells #[.bool lf, .slice A l.length c] 37) = w0 at *
    generalize hgB : w.heap.size = B at *
    have HB := Keep.mk hgB
    clear hgB
    have R0 : Keep (Below w0.heap.size w0 w0) := ⟨Below.refl _ _⟩
    have C0 := Keep.mk (And.intro c0 c1)
    clear c0 c1
    go_loopw [3] (fun i wr => ∃ k : Nat, i = .int .i64 k ∧ k ≤ l.length ∧ Keep ((∀ j, j < k → okE (ent l j) = true) ∧ Below w0.heap.size w0 wr)) (fun i _ => l.length - (intOf i).toNat)
    case atStart => exact ⟨0, rfl, Nat.zero_le _, ⟨fun j hj => absurd hj (Nat.not_lt_zero _), R0.out⟩⟩
    case round =>
      obtain ⟨k, rfl, hk, I⟩ := hrel
      have c0 := kc I.out.2 C0.out.1
      have c1 := kc I.out.2 C0.out.2
      by_cases hlt : k < l.length
      · obtain ⟨g, o, c', e, _, _, _, hc⟩ := H0.out.ent (by omega)
        cases e
        obtain ⟨e1, e2, e3⟩ := hc k hlt
        have e1 := kc I.out.2 e1
        have e2 := kc I.out.2 e2
        have e3 := kc I.out.2 e3
        clear hc
        have S := Keep.mk (fun w => ref09_Right (ent l k).s (ent l k).n (ent l k).p w)
        have HR : Keep (okE (ent l k) = rightE (ent l k).s (ent l k).n (ent l k).p) := ⟨rfl⟩
        generalize rightE (ent l k).s (ent l k).n (ent l k).p = r at *
        cases r
        all_goals
          go_wp2_with (go_at_call 47; refine (S.out _).mono ?_; rintro e w' ⟨rfl, hb⟩; have KB := Keep.mk hb; clear hb)
        · go_ret
          have e : chk lf l = 10 := by unfold chk; rw [if_neg hlen, if_pos (allR_false hlt HR.out)]
          refine ⟨retI e.symm, ?_⟩
          rw [HB.out]
          exact bnext BW.out (by have := HS.out; omega) (bnext I.out.2 I.out.2.size KB.out)
        · go_roundw
          case rel => exact ⟨k + 1, by go_num, by omega, ⟨fun j hj => by rcases Nat.lt_or_ge j k with h | h; exact I.out.1 j h; exact (show j = k by omega) ▸ HR.out, bnext I.out.2 I.out.2.size KB.out⟩⟩
          case measure => simp [intOf]; omega
      · obtain rfl : k = l.length := by omega
        have HA := Keep.mk (allR_true.2 I.out.1)
        go_wp2_with fail
        go_loopw [4] (fun i wr => ∃ k : Nat, i = .int .i64 k ∧ 1 ≤ k ∧ k ≤ l.length + 1 ∧ Keep ((∀ j, 0 < j → j < k → j < l.length → lessE (ent l (j - 1)) (ent l j) = true) ∧ Below w0.heap.size w0 wr)) (fun i _ => l.length + 1 - (intOf i).toNat)
        case atStart => exact ⟨1, rfl, Nat.le_refl _, by omega, ⟨fun j h0 hj => by omega, I.out.2⟩⟩
        case round =>
          obtain ⟨k, rfl, hk1, hk2, I2⟩ := hrel
          clear c0 c1
          have c0 := kc I2.out.2 C0.out.1
          have c1 := kc I2.out.2 C0.out.2
          obtain ⟨m, rfl⟩ : ∃ m, k = m + 1 := ⟨k - 1, by omega⟩
          by_cases hlt : m + 1 < l.length
          · obtain ⟨g, o, c', e, _, _, hg, hc⟩ := H0.out.ent (by omega)
            cases e
            obtain ⟨e1, e2, _⟩ := hc (m + 1) hlt
            obtain ⟨f1, f2, _⟩ := hc m (by omega)
            have e1 := kc I2.out.2 e1
            have e2 := kc I2.out.2 e2
            have f1 := kc I2.out.2 f1
            have f2 := kc I2.out.2 f2
            clear hc
            have o1 := allR_true.1 HA.out (m + 1) hlt
            have o2 := allR_true.1 HA.out m (by omega)
            have HL := Keep.mk (place_lt _ _ o2 o1)
            have b1 := place_bound _ o1
            have b2 := place_bound _ o2
            have q0 : (0 : Int) ≤ (m : Int) := by omega
            have q1 : (0 : Int) ≤ (m : Int) + 1 := by omega
            have q2 : (m : Int) + 1 < (l.length : Int) := by omega
            have q3 : (m : Int) < (l.length : Int) := by omega
            have z1 : IntKind.i64.wrap (m : Int) = (m : Int) := IntWalk.i64_in _ (by omega)
            have hr : Below wr.heap.size wr wr.drew := (Below.refl _ _).drew
            go_wp2_with fail
            go_region_held3 (fun w' => w'.cell? ⟨B, 1, none⟩ = some (.slice (some ⟨g, o, none⟩) l.length c) ∧ w'.cell? ⟨g, o + (m + 1) * 3, none⟩ = some (.int .i64 (ent l (m + 1)).s) ∧ w'.cell? ⟨g, o + (m + 1) * 3 + 1, none⟩ = some (.int .i64 (ent l (m + 1)).n) ∧ w'.cell? ⟨g, o + m * 3, none⟩ = some (.int .i64 (ent l m).s) ∧ w'.cell? ⟨g, o + m * 3 + 1, none⟩ = some (.int .i64 (ent l m).n)) (first | go_keep | (go_split_ands; refine ⟨?_, ?_, ?_, ?_, ?_⟩ <;> (refine kc hb ?_; assumption)))
              (first | (go_at_call 26; refine (ref09_Place_ok _ _ (by first | exact o1 | exact o2)).mono ?_; rintro e w' ⟨rfl, hb⟩; replace hr := bnext hr hr.size hb))
            have HR := Keep.mk hr
            clear hr hb
            cases hl : lessE (ent l m) (ent l (m + 1))
            · have HH := Keep.mk hl
              have hd : place (ent l (m + 1)) ≤ place (ent l m) := by have := HL.out; rw [hl] at this; simp at this; omega
              clear hl o1 o2
              go_wp2
              go_ret
              have e : chk lf l = 3 := by unfold chk; rw [if_neg hlen, if_neg (by rw [HA.out]; simp), if_pos (rise_false (by omega) hlt HH.out)]
              refine ⟨retI e.symm, ?_⟩
              rw [HB.out]
              exact bnext BW.out (by have := HS.out; omega) (bnext I2.out.2 I2.out.2.size HR.out)
            · have HH := Keep.mk hl
              have hd : ¬ place (ent l (m + 1)) ≤ place (ent l m) := by have := HL.out.2 hl; omega
              clear hl o1 o2
              go_wp2
              go_roundw
              case rel => exact ⟨m + 1 + 1, by go_num, by omega, by omega, ⟨fun j h0 hj hjl => by rcases Nat.lt_or_ge j (m + 1) with h | h; exact I2.out.1 j h0 h hjl; exact (show j = m + 1 by omega) ▸ HH.out, bnext I2.out.2 I2.out.2.size HR.out⟩⟩
              case measure => simp [intOf]; omega
          · have HF : Keep (rise l = true) := ⟨rise_true.2 fun j h0 hj => I2.out.1 j h0 (by omega) hj⟩
            have hfin : chk lf l = if lf = false ∧ l.length = 0 then 3 else 0 := by unfold chk; rw [if_neg hlen, if_neg (by rw [HA.out]; simp), if_neg (by rw [HF.out]; simp)]
            have HFi := Keep.mk hfin
            clear hfin
            have BB : Keep (Below w.heap.size w wr) := ⟨by rw [HB.out]; exact bnext BW.out (by have := HS.out; omega) I2.out.2⟩
            cases lf
            · by_cases hz : l.length = 0
              all_goals
                first
                  | (have hz1 : ((l.length : Int) == 0) = true := by simp [hz])
                  | (have hz1 : ((l.length : Int) == 0) = false := by simp [hz])
                have HZ := Keep.mk hz
                clear hz
                go_wp2
                go_ret
                exact ⟨retI (by rw [HFi.out]; simp [HZ.out]), BB.out⟩
            · go_wp2
              go_ret
              exact ⟨retI (by rw [HFi.out]; simp), BB.out⟩
end Go.Proofs.Ytenbclcfhjdcaaa
