/- Encode of leaf. -/
import Derived.Test.YtenbclcfhjdcaaaLeafC
import Derived.Test.YtenbclcfhjdcaaaVarPut
namespace Go.Proofs.Ytenbclcfhjdcaaa
open Go.RowKit B
def encE (e : Ent) : List Int := vencs [e.s, e.n, e.p]
/-- A right node's body. -/
def encN (lf : Bool) (l : List Ent) : List Int := [if lf then 1 else 0, (l.length : Int)] ++ l.flatMap encE
/-- What Encode answers: nothing, of a node that isn't right. -/
def encR (lf : Bool) (l : List Ent) : List Int := if chk lf l = 0 then encN lf l else []
theorem infoInt' : (Try.prog.info? 3).map (fun i => (i.zero, i.size, i.bytes)) = some (some (.int .i64 0), 1, 8) := by kernel_rfl
theorem encE_length (e : Ent) : (encE e).length ≤ 30 := vencs_length _
theorem encE_pos (e : Ent) : 0 < (encE e).length := Nat.lt_of_lt_of_le (by simp) (vencs_pos [e.s, e.n, e.p])
theorem flat_take (l : List Ent) (k : Nat) (h : k < l.length) : (l.take (k + 1)).flatMap encE = (l.take k).flatMap encE ++ encE (ent l k) := by
  rw [List.take_succ_eq_append_getElem h, List.flatMap_append, ent_eq l k h]; simp
theorem chk_zero {lf : Bool} {l : List Ent} (h : chk lf l = 0) : l.length ≤ 16 ∧ allR l = true ∧ rise l = true ∧ (lf = false → 0 < l.length) := by
  unfold chk at h
  split at h
  · omega
  · split at h
    · omega
    · split at h
      · omega
      · split at h
        · omega
        · rename_i h1 h2 h3 h4
          exact ⟨by omega, by simpa using h2, by simpa using h3, fun e => Nat.pos_of_ne_zero fun e2 => h4 ⟨e, e2⟩⟩
set_option maxRecDepth 100000 in
theorem leaf_Encode (lf : Bool) (v : Value) (l : List Ent) (w : World) (h : Row w v l.length (ents l)) (hm : l.length ≤ 1000000) :
    Calls Try.prog 40 #[.agg #[.bool lf, v]] w fun e w' => ∃ v', e = .returned (.tuple #[v', .int .i64 (chk lf l)]) ∧ w'.ownsRow w.heap.size 5 1 v' (encR lf l).length (u8s (encR lf l)) ∧ Below w.heap.size w w' := by
  have R := Keep.mk (Below.refl w.heap.size w)
  have HC := Keep.mk (fun w2 (hb : Below w.heap.size w w2) => leaf_Check lf v l w2 (h.below hb) hm)
  have H0 := Keep.mk h
  have BW := Keep.mk (balloc R.out (.cells #[.bool lf, v] 42))
  obtain ⟨A, c, rfl, h1, h2, _⟩ := h
  by_cases hq : chk lf l = 0
  · obtain ⟨z1, z2, z3, z4⟩ := chk_zero hq
    have HZ := Keep.mk (And.intro z2 (And.intro z3 z4))
    have hR : encR lf l = encN lf l := by unfold encR; rw [if_pos hq]
    rw [hq] at HC
    rw [hq, hR]
    clear hq hR z2 z3 z4
    obtain ⟨iu, hiu, hu0, hu1, hu2⟩ := info_parts infoU8
    generalize hfl : (if lf then (1 : Int) else 0) = fl
    have HFL := Keep.mk hfl
    clear hfl
    cases lf
    · have HFL : Keep ((0 : Int) = fl) := ⟨by simpa using HFL.out⟩
      go_enter Try.func40, Try.ntmps40
      go_wp2_with fail
      refine (HC.out _ BW.out).mono ?_
      rintro e w1 ⟨rfl, hb⟩
      have c0 : w1.cell? ⟨w.heap.size, 0, none⟩ = some (.bool false) := kc hb (by simp)
      have c1 : w1.cell? ⟨w.heap.size, 1, none⟩ = some (.slice A l.length c) := kc hb (by simp)
      have hlt : w.heap.size < w1.heap.size := by have := hb.size; simp at this; omega
      have hne1 : w.heap.size ≠ w1.heap.size := by omega
      have hne2 : w1.heap.size ≠ w.heap.size := by omega
      replace BW := Keep.mk (bnext BW.out BW.out.size hb)
      clear hb
      go_wp2_with fail
      have O2 := own_blk (n := 2) (size := 1) w.heap.size (heap_alloc_new w1 (.cells #[.int .u8 0, .int .u8 (l.length : Int)] 5)) (by omega) rfl (by simp [maxLen])
      have B2 : Below w.heap.size w (w1.alloc (.cells #[.int .u8 0, .int .u8 (l.length : Int)] 5)) := balloc BW.out _
      have c0' : (w1.alloc (.cells #[.int .u8 0, .int .u8 (l.length : Int)] 5)).cell? ⟨w.heap.size, 1, none⟩ = some (.slice A l.length c) := by rw [World.cell?_alloc_lt _ _ _ hlt]; exact c1
      generalize w1.alloc (.cells #[.int .u8 0, .int .u8 (l.length : Int)] 5) = w2 at *
      have O2 : w2.ownsRow w.heap.size 5 1 (.slice (some ⟨w1.heap.size, 0, none⟩) 2 2) 2 (u8s [fl, (l.length : Int)]) := by rw [← HFL.out]; exact O2
      have KO := Keep.mk (And.intro O2 B2)
      clear O2 B2
      generalize w1.heap.size = b1 at *
      clear hne1 hne2 hlt c0 c1
      go_loopw [5, 25] (fun s i wr => ∃ (k : Nat) (A2 : Option Addr) (n2 c2 : Nat), i = .int .i64 k ∧ s = .slice A2 n2 c2 ∧ k ≤ l.length ∧ n2 ≤ 2 + 30 * k ∧ Keep (n2 = 2 + ((l.take k).flatMap encE).length ∧ wr.ownsRow w.heap.size 5 1 (.slice A2 n2 c2) n2 (u8s ([fl, (l.length : Int)] ++ (l.take k).flatMap encE)) ∧ Below w.heap.size w wr)) (fun _ i _ => l.length - (intOf i).toNat)
      case atStart => exact ⟨0, _, 2, 2, rfl, rfl, Nat.zero_le _, Nat.le_refl _, ⟨rfl, KO.out.1, KO.out.2⟩⟩
      case round =>
        obtain ⟨k, A2, n2, c2, rfl, rfl, hk, hn2, I⟩ := hrel
        by_cases hlt : k < l.length
        · obtain ⟨g, o, c', e, _, _, _, hc⟩ := H0.out.ent (by omega)
          cases e
          obtain ⟨e1, e2, e3⟩ := hc k hlt
          have e1 := kc I.out.2.2 e1
          have e2 := kc I.out.2.2 e2
          have e3 := kc I.out.2.2 e3
          clear hc c0'
          have hsz : w.heap.size ≤ wr.heap.size := I.out.2.2.size
          have ok := allR_true.1 HZ.out.1 k hlt
          have hP : putL [(ent l k).s, (ent l k).n, (ent l k).p] = encE (ent l k) := by
            simp [okE, rightE] at ok
            unfold encE
            apply putL_ok
            intro i hi
            simp at hi
            match i, hi with
            | 0, _ => simp [el]; omega
            | 1, _ => simp [el]; omega
            | 2, _ => simp [el]; omega
          have HPut := varint_Put (.slice (some ⟨wr.heap.size + 1, 0, none⟩) 3 3) [(ent l k).s, (ent l k).n, (ent l k).p] ((wr.alloc (.cells #[.int .i64 (ent l k).s, .int .i64 (ent l k).n, .int .i64 (ent l k).p] 54)).alloc (.cells #[.int .i64 (ent l k).s, .int .i64 (ent l k).n, .int .i64 (ent l k).p] 3)) (row_blk (new_blk (by simp)) (by simp [maxLen])) (by simp) (fun i hi => by
            simp [okE, rightE] at ok
            simp at hi
            match i, hi with
            | 0, _ => simp [el]; omega
            | 1, _ => simp [el]; omega
            | 2, _ => simp [el]; omega)
          rw [hP] at HPut
          have HPu := Keep.mk HPut
          have hE1 := encE_length (ent l k)
          have hE2 := encE_pos (ent l k)
          clear HPut hP ok
          go_wp2_with fail
          refine HPu.out.mono ?_
          rintro e w3 ⟨v3, rfl, o3, hb3⟩
          have OB := Keep.mk (own_below ((I.out.2.1.alloc (.cells #[.int .i64 (ent l k).s, .int .i64 (ent l k).n, .int .i64 (ent l k).p] 54)).alloc (.cells #[.int .i64 (ent l k).s, .int .i64 (ent l k).n, .int .i64 (ent l k).p] 3)) hb3)
          have B3 := Keep.mk (bnext (balloc (balloc I.out.2.2 _) _) (by simp; omega) hb3)
          have R3 := Keep.mk (Row.of_own o3)
          have hsz3 : w.heap.size ≤ w3.heap.size := B3.out.size
          clear o3 hb3
          obtain ⟨A3, c3, rfl, _⟩ := id R3.out
          go_wp2_with (at_builtin; refine appN (by rfl) _ _ _ (by rfl) w.heap.size 5 iu _ 1 1 Try.underlying23 hiu hu0 hu1 hu2 rfl (by omega) _ n2 _ (by rfl) OB.out _ (encE (ent l k)).length _ (by rfl) R3.out (by simp) u8s_one hE2 (by omega) (by omega) hsz3 ?_; intro g4 cap4 w4 hown hg hat; have K := Keep.mk (And.intro hown hg); clear hown hg hat)
          obtain ⟨o4, g4'⟩ := K.out
          rw [← u8s_append] at o4
          have hfl := flat_take l k hlt
          refine ⟨⟨k + 1, _, _, cap4, by go_num, rfl, by omega, by omega, ⟨by rw [hfl, List.length_append, ← Nat.add_assoc, ← I.out.1], by rw [hfl, ← List.append_assoc]; exact o4, B3.out.grown g4' hsz3 (fun j hj => (OB.out.lt j hj).1)⟩⟩, by simp [intOf]; omega⟩
        · obtain rfl : k = l.length := by omega
          go_wp2_with fail
          go_ret2
          have e := I.out
          rw [List.take_length] at e
          obtain ⟨e1, e2, e3⟩ := e
          refine ⟨_, rfl, ?_, e3⟩
          have e4 : encN false l = [fl, (l.length : Int)] ++ l.flatMap encE := by rw [← HFL.out]; rfl
          rw [e4, show ([fl, (l.length : Int)] ++ l.flatMap encE).length = n2 by rw [e1]; simp; omega]
          exact e2
    · have HFL : Keep ((1 : Int) = fl) := ⟨by simpa using HFL.out⟩
      go_enter Try.func40, Try.ntmps40
      go_wp2_with fail
      refine (HC.out _ BW.out).mono ?_
      rintro e w1 ⟨rfl, hb⟩
      have c0 : w1.cell? ⟨w.heap.size, 0, none⟩ = some (.bool true) := kc hb (by simp)
      have c1 : w1.cell? ⟨w.heap.size, 1, none⟩ = some (.slice A l.length c) := kc hb (by simp)
      have hlt : w.heap.size < w1.heap.size := by have := hb.size; simp at this; omega
      have hne1 : w.heap.size ≠ w1.heap.size := by omega
      have hne2 : w1.heap.size ≠ w.heap.size := by omega
      replace BW := Keep.mk (bnext BW.out BW.out.size hb)
      clear hb
      go_wp2_with fail
      have O2 := own_blk (n := 2) (size := 1) w.heap.size (heap_alloc_new w1 (.cells #[.int .u8 1, .int .u8 (l.length : Int)] 5)) (by omega) rfl (by simp [maxLen])
      have B2 : Below w.heap.size w (w1.alloc (.cells #[.int .u8 1, .int .u8 (l.length : Int)] 5)) := balloc BW.out _
      have c0' : (w1.alloc (.cells #[.int .u8 1, .int .u8 (l.length : Int)] 5)).cell? ⟨w.heap.size, 1, none⟩ = some (.slice A l.length c) := by rw [World.cell?_alloc_lt _ _ _ hlt]; exact c1
      generalize w1.alloc (.cells #[.int .u8 1, .int .u8 (l.length : Int)] 5) = w2 at *
      have O2 : w2.ownsRow w.heap.size 5 1 (.slice (some ⟨w1.heap.size, 0, none⟩) 2 2) 2 (u8s [fl, (l.length : Int)]) := by rw [← HFL.out]; exact O2
      have KO := Keep.mk (And.intro O2 B2)
      clear O2 B2
      generalize w1.heap.size = b1 at *
      clear hne1 hne2 hlt c0 c1
      go_loopw [5, 25] (fun s i wr => ∃ (k : Nat) (A2 : Option Addr) (n2 c2 : Nat), i = .int .i64 k ∧ s = .slice A2 n2 c2 ∧ k ≤ l.length ∧ n2 ≤ 2 + 30 * k ∧ Keep (n2 = 2 + ((l.take k).flatMap encE).length ∧ wr.ownsRow w.heap.size 5 1 (.slice A2 n2 c2) n2 (u8s ([fl, (l.length : Int)] ++ (l.take k).flatMap encE)) ∧ Below w.heap.size w wr)) (fun _ i _ => l.length - (intOf i).toNat)
      case atStart => exact ⟨0, _, 2, 2, rfl, rfl, Nat.zero_le _, Nat.le_refl _, ⟨rfl, KO.out.1, KO.out.2⟩⟩
      case round =>
        obtain ⟨k, A2, n2, c2, rfl, rfl, hk, hn2, I⟩ := hrel
        by_cases hlt : k < l.length
        · obtain ⟨g, o, c', e, _, _, _, hc⟩ := H0.out.ent (by omega)
          cases e
          obtain ⟨e1, e2, e3⟩ := hc k hlt
          have e1 := kc I.out.2.2 e1
          have e2 := kc I.out.2.2 e2
          have e3 := kc I.out.2.2 e3
          clear hc c0'
          have hsz : w.heap.size ≤ wr.heap.size := I.out.2.2.size
          have ok := allR_true.1 HZ.out.1 k hlt
          have hP : putL [(ent l k).s, (ent l k).n, (ent l k).p] = encE (ent l k) := by
            simp [okE, rightE] at ok
            unfold encE
            apply putL_ok
            intro i hi
            simp at hi
            match i, hi with
            | 0, _ => simp [el]; omega
            | 1, _ => simp [el]; omega
            | 2, _ => simp [el]; omega
          have HPut := varint_Put (.slice (some ⟨wr.heap.size + 1, 0, none⟩) 3 3) [(ent l k).s, (ent l k).n, (ent l k).p] ((wr.alloc (.cells #[.int .i64 (ent l k).s, .int .i64 (ent l k).n, .int .i64 (ent l k).p] 54)).alloc (.cells #[.int .i64 (ent l k).s, .int .i64 (ent l k).n, .int .i64 (ent l k).p] 3)) (row_blk (new_blk (by simp)) (by simp [maxLen])) (by simp) (fun i hi => by
            simp [okE, rightE] at ok
            simp at hi
            match i, hi with
            | 0, _ => simp [el]; omega
            | 1, _ => simp [el]; omega
            | 2, _ => simp [el]; omega)
          rw [hP] at HPut
          have HPu := Keep.mk HPut
          have hE1 := encE_length (ent l k)
          have hE2 := encE_pos (ent l k)
          clear HPut hP ok
          go_wp2_with fail
          refine HPu.out.mono ?_
          rintro e w3 ⟨v3, rfl, o3, hb3⟩
          have OB := Keep.mk (own_below ((I.out.2.1.alloc (.cells #[.int .i64 (ent l k).s, .int .i64 (ent l k).n, .int .i64 (ent l k).p] 54)).alloc (.cells #[.int .i64 (ent l k).s, .int .i64 (ent l k).n, .int .i64 (ent l k).p] 3)) hb3)
          have B3 := Keep.mk (bnext (balloc (balloc I.out.2.2 _) _) (by simp; omega) hb3)
          have R3 := Keep.mk (Row.of_own o3)
          have hsz3 : w.heap.size ≤ w3.heap.size := B3.out.size
          clear o3 hb3
          obtain ⟨A3, c3, rfl, _⟩ := id R3.out
          go_wp2_with (at_builtin; refine appN (by rfl) _ _ _ (by rfl) w.heap.size 5 iu _ 1 1 Try.underlying23 hiu hu0 hu1 hu2 rfl (by omega) _ n2 _ (by rfl) OB.out _ (encE (ent l k)).length _ (by rfl) R3.out (by simp) u8s_one hE2 (by omega) (by omega) hsz3 ?_; intro g4 cap4 w4 hown hg hat; have K := Keep.mk (And.intro hown hg); clear hown hg hat)
          obtain ⟨o4, g4'⟩ := K.out
          rw [← u8s_append] at o4
          have hfl := flat_take l k hlt
          refine ⟨⟨k + 1, _, _, cap4, by go_num, rfl, by omega, by omega, ⟨by rw [hfl, List.length_append, ← Nat.add_assoc, ← I.out.1], by rw [hfl, ← List.append_assoc]; exact o4, B3.out.grown g4' hsz3 (fun j hj => (OB.out.lt j hj).1)⟩⟩, by simp [intOf]; omega⟩
        · obtain rfl : k = l.length := by omega
          go_wp2_with fail
          go_ret2
          have e := I.out
          rw [List.take_length] at e
          obtain ⟨e1, e2, e3⟩ := e
          refine ⟨_, rfl, ?_, e3⟩
          have e4 : encN true l = [fl, (l.length : Int)] ++ l.flatMap encE := by rw [← HFL.out]; rfl
          rw [e4, show ([fl, (l.length : Int)] ++ l.flatMap encE).length = n2 by rw [e1]; simp; omega]
          exact e2
  · have hR : encR lf l = [] := by unfold encR; rw [if_neg hq]
    rw [hR]
    have hq2 : (chk lf l != 0) = true := by simp [hq]
    generalize chk lf l = q at *
    clear hq hR
    go_enter Try.func40, Try.ntmps40
    go_wp2_with (go_at_call 42; refine (HC.out _ BW.out).mono ?_; rintro e w' ⟨rfl, hb⟩; replace BW := Keep.mk (bnext BW.out BW.out.size hb); clear hb)
    go_ret2
    exact ⟨_, rfl, own_nil' _ _ _ _, BW.out⟩
end Go.Proofs.Ytenbclcfhjdcaaa
