/- What the proof of AllocPlays rests on: library functions at the model's level. -/
import Derived.Ground.Names2Prog
import Derived.KernelRfl
import Derived.Lib.SlKeysI
import Derived.LoopIn
import Derived.LoopNIn
import Derived.Maps.AppendAt
import Derived.OwnWalkIn
import Derived.RangeFuncBound
import Derived.RangeFuncBox
import Derived.RangeFuncLeaves
import Derived.Shelf.Abstract
import Derived.Shelf.Slices.Cells
import Derived.Shelf.Slices.CompactI
import Derived.Shelf.Slices.In.SortNone
import Derived.Shelf.Slices.SearchI
import Derived.Shelf.Small.Bits
import Derived.Shelf.Sort.Plain
import Derived.Shelf.Strconv.Itoa0
import Derived.TacticsInMore
import Derived.Test.YtldhfdagmaklaaaDoorProg
import Derived.WalkKit
section
set_option maxHeartbeats 8000000
set_option linter.unusedVariables false
set_option linter.unusedSimpArgs false

/- slices.Values, slices.AppendSeq, slices.Collect of numbers: what the iterator gives, collected (turned out of the worked texts on iterators over a slice and on filter and collect). -/
namespace Go.Proofs.YtldhfdagmaklaaaDoor.TW
open Go Go.Proofs Go.RowKit Go.Shelf
attribute [local go_sem] Oper.semAt_some
/-- What has come when k rounds are over. -/
def upto (f : Nat → Int) (k : Nat) : List Int := (List.range k).map f
theorem upto_succ (f : Nat → Int) (k : Nat) : upto f (k + 1) = upto f k ++ [f k] := by simp [upto, List.range_succ]
theorem upto_length (f : Nat → Int) (k : Nat) : (upto f k).length = k := by simp [upto]
theorem upto_take (zs : List Int) {k : Nat} (hk : k ≤ zs.length) : upto (fun j => zs[j]?.getD 0) k = zs.take k := by
  apply List.ext_getElem
  · simp [upto, hk]
  · intro i h1 h2
    have : i < zs.length := by simp [upto] at h1; omega
    simp [upto, this]
theorem upto_all (zs : List Int) : upto (fun j => zs[j]?.getD 0) zs.length = zs := by rw [upto_take zs (Nat.le_refl _), List.take_length]
set_option maxRecDepth 100000 in
set_option maxHeartbeats 2000000 in
/-- The closure of slices.Values: each element in turn, for every loop body that keeps what lay below n₀. -/
theorem values1_in (F : Fence) (n : Nat) (h7 : F.fn 60) (hro : F.round = none) (hn : 1 ≤ n) (l Bs n₀ b off len cap : Nat) (zs : List Int) (hreach : len * 8 ≤ 140737488351232) (hb : b < n₀) (J Jx : List Int → World → Prop)
    (hY : ∀ pre x W, J pre W → pre.length < len → YieldAt F (n - 1) Tryd.prog l #[.int .i64 x] W fun e W' =>
      (e = .returned (.bool true) ∧ J (pre ++ [x]) W' ∧ Below n₀ W W') ∨ (e = .returned (.bool false) ∧ Jx (pre ++ [x]) W'))
    (W : World) (hBs : W.cell? ⟨Bs, 0, none⟩ = some (.slice (some ⟨b, off, none⟩) len cap)) (hc : ∀ j, j < len → W.cell? ⟨b, off + j, none⟩ = some (.int .i64 (zs[j]?.getD 0))) (h0 : J [] W) :
    CallsIn F n Tryd.prog 60 #[.func (.yield l) #[] #[], .pointer (some ⟨Bs, 0, none⟩)] W fun e W' => (∃ v, e = .returned v) ∧
      ((∃ ys, ys = upto (fun j => zs[j]?.getD 0) len ∧ J ys W') ∨ (∃ pre, (∃ k, k ≤ len ∧ pre = upto (fun j => zs[j]?.getD 0) k) ∧ Jx pre W')) := by
  refine callsIn_of_wp Tryd.func60 rfl h7 ?_ hro
  simp only [Tryd.ntmps60, List.size_toArray, List.length_cons, List.length_nil, Nat.reduceAdd, Nat.reduceSub, Array.replicate_succ, Array.replicate_zero, List.push_toArray, List.append_toArray, List.nil_append, List.cons_append]
  gi_wp2
  gi_loopw [7] (fun i wr => ∃ k : Nat, k ≤ len ∧ i = .int .i64 k ∧ J (upto (fun j => zs[j]?.getD 0) k) wr ∧ Below n₀ W wr)
    (fun i _ => len - (intOf i).toNat)
  case atStart => exact ⟨0, Nat.zero_le _, rfl, h0, Below.refl _ _⟩
  case round =>
    obtain ⟨k, hk, rfl, hJs, hnx⟩ := hrel
    have hcx : k < len → wr.cell? ⟨b, off + k, none⟩ = some (.int .i64 (zs[k]?.getD 0)) := fun h => (hnx.cell (p := ⟨b, off + k, none⟩) hb).trans (hc k h)
    by_cases hlt : k < len
    · obtain ⟨fn, tmps, assign, body, hy, hR⟩ := hY _ (zs[k]?.getD 0) wr hJs (by rw [upto_length]; exact hlt)
      have hcx' := hcx hlt
      gi_wp2
      refine hR.mono ?_
      rintro e W3 (⟨rfl, hJ3, hk3⟩ | ⟨rfl, hJx3⟩)
      · gi_wp2
        go_roundw
        case rel => exact ⟨k + 1, by omega, by simp, by rw [upto_succ]; exact hJ3, hnx.trans hk3⟩
        case measure => simp [intOf]; omega
      · gi_wp2
        refine bodyPost_ret (results_none rfl _ _ _) rfl ?_
        exact ⟨⟨_, rfl⟩, .inr ⟨_, ⟨k + 1, by omega, (upto_succ _ _).symm⟩, hJx3⟩⟩
    · obtain rfl : k = len := by omega
      gi_wp2
      go_end0
      exact ⟨⟨_, rfl⟩, .inl ⟨_, rfl, hJs⟩⟩
set_option maxRecDepth 100000 in
set_option maxHeartbeats 1000000 in
/-- .. at a slice of no element: no round. -/
theorem values0_in (F : Fence) (n : Nat) (h7 : F.fn 60) (hro : F.round = none) (l Bs cap : Nat) (p : Option Addr) (J : List Int → World → Prop) (W : World) (hBs : W.cell? ⟨Bs, 0, none⟩ = some (.slice p 0 cap)) (h0 : J [] W) :
    CallsIn F n Tryd.prog 60 #[.func (.yield l) #[] #[], .pointer (some ⟨Bs, 0, none⟩)] W fun e W' => (∃ v, e = .returned v) ∧ J [] W' := by
  refine callsIn_of_wp Tryd.func60 rfl h7 ?_ hro
  simp only [Tryd.ntmps60, List.size_toArray, List.length_cons, List.length_nil, Nat.reduceAdd, Nat.reduceSub, Array.replicate_succ, Array.replicate_zero, List.push_toArray, List.append_toArray, List.nil_append, List.cons_append]
  gi_wp2
  gi_loopw [7] (fun i wr => i = .int .i64 0 ∧ J [] wr) (fun _ _ => 0)
  case atStart => exact ⟨rfl, h0⟩
  case round =>
    obtain ⟨rfl, hJs⟩ := hrel
    gi_wp2
    go_end0
    exact ⟨⟨_, rfl⟩, hJs⟩
/-- The slice value sv holds the numbers zs, in a block below n₀, if there are any. -/
def Ints (n₀ : Nat) (W : World) (sv : Value) (zs : List Int) : Prop :=
  ∃ p cap, sv = .slice p zs.length cap ∧ (zs ≠ [] → ∃ b off, p = some ⟨b, off, none⟩ ∧ b < n₀ ∧ ∀ j, j < zs.length → W.cell? ⟨b, off + j, none⟩ = some (.int .i64 (zs[j]?.getD 0)))
theorem Ints.below {n₀ : Nat} {A B : World} (h : Below n₀ A B) {sv : Value} {zs : List Int} : Ints n₀ A sv zs → Ints n₀ B sv zs
  | ⟨p, cap, e, hr⟩ => ⟨p, cap, e, fun hz => by
    obtain ⟨b, off, e2, hb, hc⟩ := hr hz
    exact ⟨b, off, e2, hb, fun j hj => (h.cell (p := ⟨b, off + j, none⟩) hb).trans (hc j hj)⟩⟩
set_option maxHeartbeats 1000000 in
/-- slices.Values: the slice value is boxed; the function value captures the box. -/
theorem values_in (F : Fence) (n : Nat) (h5 : F.fn 53) (hro : F.round = none) (a : Option Addr) (len cap : Nat) (w : World) :
    CallsIn F n Tryd.prog 53 #[.slice a len cap] w fun e w' => e = .returned (.func (.func 60) #[] #[.pointer (some ⟨w.heap.size, 0, none⟩)]) ∧ w' = w.alloc (.cells #[.slice a len cap] 22) := by
  refine callsIn_of_wp Tryd.func53 rfl h5 ?_ hro
  simp only [Tryd.ntmps53, List.size_toArray, List.length_cons, List.length_nil, Nat.reduceAdd, Nat.reduceSub, Array.replicate_succ, Array.replicate_zero, List.push_toArray, List.append_toArray, List.nil_append, List.cons_append]
  gi_wp2
  go_ret
  exact ⟨rfl, rfl⟩
/-- slices.Values hands back an iterator of all of zs, in order. -/
theorem values_stops (F : Fence) (n : Nat) (h7 : F.fn 60) (hro : F.round = none) (hn : 1 ≤ n) (Bs n₀ : Nat) (sv : Value) (zs : List Int) (hreach : zs.length * 8 ≤ 140737488351232) (w : World) (hBs : Bs < w.heap.size) (hn₀ : n₀ ≤ w.heap.size)
    (hc : w.cell? ⟨Bs, 0, none⟩ = some sv) (hI : Ints n₀ w sv zs) :
    SeqStopsK F n Tryd.prog 60 #[.pointer (some ⟨Bs, 0, none⟩)] (fun x : Int => #[Value.int .i64 x]) (Below n₀) (fun ys => ys = zs) (fun pre => pre <+: zs) zs.length w := fun l J Jx W hW _ _ hY h0 => by
  have hc' := (hW.cell (p := ⟨Bs, 0, none⟩) hBs).trans hc
  obtain ⟨p, cap, rfl, hr⟩ := hI.below (hW.mono hn₀)
  by_cases hz : zs = []
  · subst hz
    exact (values0_in F n h7 hro l Bs cap p J W hc' h0).mono fun e W' ⟨he, hj⟩ => ⟨he, .inl ⟨_, rfl, hj⟩⟩
  obtain ⟨b, off, rfl, hb, hcs⟩ := hr hz
  refine (values1_in F n h7 hro hn l Bs n₀ b off zs.length cap zs hreach hb J Jx hY W hc' hcs h0).mono ?_
  rintro e W' ⟨he, ⟨ys, rfl, hj⟩ | ⟨pre, ⟨k, hk, rfl⟩, hj⟩⟩
  · exact ⟨he, .inl ⟨_, upto_all zs, hj⟩⟩
  · exact ⟨he, .inr ⟨_, by rw [upto_take zs hk]; exact List.take_prefix _ _, hj⟩⟩
theorem infoI : (Tryd.prog.info? 3).map (fun i => (i.zero, i.size, i.bytes)) = some (some (.int .i64 0), 1, 8) := by kernel_rfl
set_option maxRecDepth 100000 in
set_option maxHeartbeats 2000000 in
/-- slices.AppendSeq of nothing and such an iterator: a new slice that holds all of zs. -/
theorem appendSeq_in (F : Fence) (n : Nat) (h3 : F.fn 61) (h5 : F.fn 60) (hro : F.round = none) (hn : 3 ≤ n) (Bs n₀ : Nat) (sv : Value) (zs : List Int) (hreach : zs.length * 8 ≤ 140737488351232) (w : World) (hBs : Bs < w.heap.size) (hn₀ : n₀ ≤ w.heap.size)
    (hc : w.cell? ⟨Bs, 0, none⟩ = some sv) (hI : Ints n₀ w sv zs) :
    CallsIn F n Tryd.prog 61 #[.slice none 0 0, .func (.func 60) #[] #[.pointer (some ⟨Bs, 0, none⟩)]] w fun e W' => ∃ v, e = .returned v ∧ W'.ownsRow w.heap.size 3 1 v zs.length (zs.map (Value.int .i64)) ∧ (v = .slice none 0 0 ↔ zs = []) ∧ Below w.heap.size w W' := by
  have h1 : 1 ≤ n := by omega
  have hlen : zs.length ≤ maxLen := by unfold maxLen; omega
  obtain ⟨i0, hi, hz0, hz1, hz2⟩ := info_parts infoI
  refine callsIn_of_wp_marks Tryd.func61 rfl h3 ?_ hro
  simp only [Tryd.ntmps61, List.size_toArray, List.length_cons, List.length_nil, Nat.reduceAdd, Nat.reduceSub, Array.replicate_succ, Array.replicate_zero, List.push_toArray, List.append_toArray, List.nil_append, List.cons_append]
  gi_wp2
  have bO := Boxed.new w 22 (.slice none 0 0)
  have hB0 : Below w.heap.size w (w.alloc (.cells #[.slice none 0 0] 22)) := (Below.refl _ w).alloc (Nat.le_refl _) _
  have hIw := hI.below (hB0.mono hn₀)
  refine wpIn_rangeFunc_ownG hro h1 (gf := 60) (lb := #[.pointer (some ⟨Bs, 0, none⟩)]) rfl h5 (enters_of Tryd.func60 (by kernel_rfl) rfl)
    (values_stops F (n - 1) h5 hro (by omega) Bs n₀ sv zs hreach _ (by rw [World.size_alloc]; omega) (by rw [World.size_alloc]; omega) ((hB0.cell (p := ⟨Bs, 0, none⟩) hBs).trans hc) hIw) belowK_t (belowK_b (by simp; omega)) (Below.refl _ _) (fun _ => rfl)
    (fun pre W => (∃ v, Boxed W w.heap.size 22 v ∧ W.ownsRow w.heap.size 3 1 v pre.length (pre.map (Value.int .i64)) ∧ (v = .slice none 0 0 ↔ pre = [])) ∧ Below w.heap.size w W)
    (fun _ _ _ => False)
    (OwnFrom.and (Own.from (holdsRow_own w.heap.size w.heap.size 22 3 1 (fun pre => pre.length) (fun pre => pre.map (Value.int .i64)) (fun pre v => v = .slice none 0 0 ↔ pre = [])) _) (ownFrom_below (Nat.le_refl _) (by simp)))
    (fun _ _ _ _ _ hs _ _ => hs)
    ⟨⟨_, bO, World.ownsRow_nil _ _ _ _, by simp⟩, hB0⟩
    (fun x => { tmps := #[.slice none 0 0, .func (.func 60) #[] #[.pointer (some ⟨Bs, 0, none⟩)], .pointer (some ⟨w.heap.size, 0, none⟩), undef, .slice none 0 0, .int .i64 x, .func (.func 60) #[] #[.pointer (some ⟨Bs, 0, none⟩)], .int .i64 x, undef, undef, undef, undef, undef], defers := [] }) ?assign ?body ?done ?stop
  case assign =>
    intro l x W K hK
    gi_wp2
    exact hK
  case body =>
    rintro l pre x W ⟨⟨v, hv, hrow, hnil⟩, hB⟩ hlt
    have hc := hv.cell
    gi_wp2_with (gi_at_builtin; refine wpListIn_append_own _ rfl _ _ 22 rfl w.heap.size 3 i0 (.int .i64 0) 1 8 Tryd.underlying22 hi hz0 hz1 hz2 rfl (by decide) _ _ _ rfl (hrow.alloc _) ⟨W.heap.size, 0, none⟩ 1 1 [.int .i64 x] rfl rfl (cell_one_new _ _ _) (by simp [Value.oneCell']) (by omega) (by omega) (by have := hB.size; simp; omega) ?_; intro v' w1 hown' hgrow _; obtain ⟨g', cap', rfl⟩ := ownsRow_succ hown'; obtain ⟨hv1, hv2, hr2, hk2, hb2⟩ := hv.appended (by decide) hrow hB.size (Nat.le_refl _) hown' hgrow; have hc1 := hv1.cell; have hf1 := hv1.frozen)
    exact ⟨hk2.from _, hb2.mono (by omega), ⟨_, hv2, by simpa using hr2, by simp⟩, hB.trans hb2⟩
  case done =>
    rintro D ys W hD rfl ⟨⟨v, hv, hrow, hnil⟩, hB⟩ hK
    have hc := hv.cell
    gi_wp2
    refine ⟨by simp, .inl ⟨_, _, rfl, run_takeDeferred hK, ?_⟩⟩
    exact ⟨_, results_tmp rfl _ _ _, v, rfl, ownsRow_putObj hrow _ hK rfl, hnil, hB.trans (belowK_b (w := w) (Nat.le_refl _) W D _ _ (by simp at hD; omega) hK rfl rfl)⟩
  case stop =>
    rintro D c pre W _ _ h _
    exact h.elim
set_option maxHeartbeats 2000000 in
/-- slices.Collect of such an iterator. -/
theorem collect_in (F : Fence) (n : Nat) (h8 : F.fn 58) (h3 : F.fn 61) (h5 : F.fn 60) (hro : F.round = none) (hn : 4 ≤ n) (Bs n₀ : Nat) (sv : Value) (zs : List Int) (hreach : zs.length * 8 ≤ 140737488351232) (w : World) (hBs : Bs < w.heap.size) (hn₀ : n₀ ≤ w.heap.size)
    (hc : w.cell? ⟨Bs, 0, none⟩ = some sv) (hI : Ints n₀ w sv zs) :
    CallsIn F n Tryd.prog 58 #[.func (.func 60) #[] #[.pointer (some ⟨Bs, 0, none⟩)]] w fun e W' => ∃ v, e = .returned v ∧ W'.ownsRow w.heap.size 3 1 v zs.length (zs.map (Value.int .i64)) ∧ (v = .slice none 0 0 ↔ zs = []) ∧ Below w.heap.size w W' := by
  have h1 : 1 ≤ n := by omega
  refine callsIn_of_wp Tryd.func58 rfl h8 ?_ hro
  simp only [Tryd.ntmps58, List.size_toArray, List.length_cons, List.length_nil, Nat.reduceAdd, Nat.reduceSub, Array.replicate_succ, Array.replicate_zero, List.push_toArray, List.append_toArray, List.nil_append, List.cons_append]
  gi_wp2_with (gi_at_call 61; refine (appendSeq_in F (n - 1) h3 h5 hro (by omega) Bs n₀ sv zs hreach w hBs hn₀ hc hI).mono ?_; rintro e w' ⟨v, rfl, hrow, hnil, hb⟩)
  go_ret
  exact ⟨_, rfl, hrow, hnil, hb⟩
end Go.Proofs.YtldhfdagmaklaaaDoor.TW
end
section
set_option maxHeartbeats 8000000
set_option linter.unusedVariables false
set_option linter.unusedSimpArgs false
/- The kit's contracts of library functions, laid at this seat by the kit's tool (slices_Sort_int slices_Sort_int_none slices_Compact_int slices_Compact_int_empty). -/
namespace Go.Proofs.YtldhfdagmaklaaaDoor.SH
open Go Go.Proofs Go.Shelf
def Tryd.lays189_ren : Go.Shelf.Ren := ⟨fun | 189 => 59 | 125 => 63 | 257 => 62 | 128 => 73 | 129 => 74 | 294 => 64 | 295 => 65 | 296 => 66 | 297 => 67 | 298 => 68 | 299 => 69 | 216 => 70 | 300 => 71 | 301 => 72 | 328 => 75 | 329 => 76 | 330 => 77 | 331 => 78 | 332 => 79 | 215 => 80 | 343 => 81 | n => n, fun | 28 => 22 | 3 => 3 | 46 => 87 | 0 => 0 | 51 => 101 | 53 => 34 | 4 => 4 | 183 => 93 | 182 => 92 | 131 => 98 | 5 => 5 | 9 => 9 | 218 => 102 | 222 => 106 | 228 => 108 | 229 => 109 | n => n, fun | n => n⟩
theorem Tryd.lays189 : Go.Proofs.Lays.n189 Tryd.prog Tryd.lays189_ren := {
  mixed := by kernel_rfl
  f125 := Tryd.func63.trans (congrArg some (by kernel_rfl))
  f128 := Tryd.func73.trans (congrArg some (by kernel_rfl))
  f129 := Tryd.func74.trans (congrArg some (by kernel_rfl))
  f189 := Tryd.func59.trans (congrArg some (by kernel_rfl))
  f215 := Tryd.func80.trans (congrArg some (by kernel_rfl))
  f216 := Tryd.func70.trans (congrArg some (by kernel_rfl))
  f257 := Tryd.func62.trans (congrArg some (by kernel_rfl))
  f294 := Tryd.func64.trans (congrArg some (by kernel_rfl))
  f295 := Tryd.func65.trans (congrArg some (by kernel_rfl))
  f296 := Tryd.func66.trans (congrArg some (by kernel_rfl))
  f297 := Tryd.func67.trans (congrArg some (by kernel_rfl))
  f298 := Tryd.func68.trans (congrArg some (by kernel_rfl))
  f299 := Tryd.func69.trans (congrArg some (by kernel_rfl))
  f300 := Tryd.func71.trans (congrArg some (by kernel_rfl))
  f301 := Tryd.func72.trans (congrArg some (by kernel_rfl))
  f328 := Tryd.func75.trans (congrArg some (by kernel_rfl))
  f329 := Tryd.func76.trans (congrArg some (by kernel_rfl))
  f330 := Tryd.func77.trans (congrArg some (by kernel_rfl))
  f331 := Tryd.func78.trans (congrArg some (by kernel_rfl))
  f332 := Tryd.func79.trans (congrArg some (by kernel_rfl))
  f343 := Tryd.func81.trans (congrArg some (by kernel_rfl))
  t0 := Tryd.underlying0
  a0 := Tryd.isAgg0
  z0 := Tryd.sizeOf0
  v0 := Tryd.zeroValue0
  t3 := Tryd.underlying3
  a3 := Tryd.isAgg3
  z3 := Tryd.sizeOf3
  v3 := Tryd.zeroValue3
  t4 := Tryd.underlying4
  a4 := Tryd.isAgg4
  z4 := Tryd.sizeOf4
  v4 := Tryd.zeroValue4
  t5 := Tryd.underlying5
  a5 := Tryd.isAgg5
  z5 := Tryd.sizeOf5
  v5 := Tryd.zeroValue5
  t9 := Tryd.underlying9
  a9 := Tryd.isAgg9
  z9 := Tryd.sizeOf9
  v9 := Tryd.zeroValue9
  t28 := Tryd.underlying22
  a28 := Tryd.isAgg22
  z28 := Tryd.sizeOf22
  v28 := Tryd.zeroValue22
  t46 := Tryd.underlying87
  a46 := Tryd.isAgg87
  z46 := Tryd.sizeOf87
  v46 := Tryd.zeroValue87
  t51 := Tryd.underlying101
  a51 := Tryd.isAgg101
  z51 := Tryd.sizeOf101
  v51 := Tryd.zeroValue101
  t53 := Tryd.underlying34
  a53 := Tryd.isAgg34
  z53 := Tryd.sizeOf34
  v53 := Tryd.zeroValue34
  t131 := Tryd.underlying98
  a131 := Tryd.isAgg98
  z131 := Tryd.sizeOf98
  v131 := Tryd.zeroValue98
  t182 := Tryd.underlying92
  a182 := Tryd.isAgg92
  z182 := Tryd.sizeOf92
  v182 := Tryd.zeroValue92
  t183 := Tryd.underlying93
  a183 := Tryd.isAgg93
  z183 := Tryd.sizeOf93
  v183 := Tryd.zeroValue93
  t218 := Tryd.underlying102
  a218 := Tryd.isAgg102
  z218 := Tryd.sizeOf102
  v218 := Tryd.zeroValue102
  t222 := Tryd.underlying106
  a222 := Tryd.isAgg106
  z222 := Tryd.sizeOf106
  v222 := Tryd.zeroValue106
  t228 := Tryd.underlying108
  a228 := Tryd.isAgg108
  z228 := Tryd.sizeOf108
  v228 := Tryd.zeroValue108
  t229 := Tryd.underlying109
  a229 := Tryd.isAgg109
  z229 := Tryd.sizeOf109
  v229 := Tryd.zeroValue109 }
open Go.Sort Go.RowKit in
theorem Tryd.slices_Sort_int (blk off cap : Nat) (zs : List Int) (w : World) (hH : Holds (Value.int .i64) w blk off zs.toArray) (hblk : blk < w.heap.size) (hsz : zs.length < 4611686018427387904) :
    Calls Tryd.prog 59 #[.slice (some ⟨blk, off, none⟩) zs.length cap] w fun e w' =>
      e = .returned (.tuple #[]) ∧ ∃ n os, w' = grow (putRow (Value.int .i64) (Sort.ahead w n) blk off (zs.mergeSort fun x y => decide (x ≤ y)).toArray) os := Any.slices_Sort_int Tryd.lays189 blk off cap zs w hH hblk hsz
def Tryd.laysNm220_ren : Go.Shelf.Ren := ⟨fun | 20 => 51 | n => n, fun | 22 => 22 | 3 => 3 | 4 => 4 | 0 => 0 | n => n, fun | n => n⟩
theorem Tryd.laysNm220 : Go.Proofs.Lays2.n20 Tryd.prog Tryd.laysNm220_ren := {
  mixed := by kernel_rfl
  f20 := Tryd.func51.trans (congrArg some (by kernel_rfl))
  t0 := Tryd.underlying0
  a0 := Tryd.isAgg0
  z0 := Tryd.sizeOf0
  v0 := Tryd.zeroValue0
  t3 := Tryd.underlying3
  a3 := Tryd.isAgg3
  z3 := Tryd.sizeOf3
  v3 := Tryd.zeroValue3
  t4 := Tryd.underlying4
  a4 := Tryd.isAgg4
  z4 := Tryd.sizeOf4
  v4 := Tryd.zeroValue4
  t22 := Tryd.underlying22
  a22 := Tryd.isAgg22
  z22 := Tryd.sizeOf22
  v22 := Tryd.zeroValue22
  i3 := by kernel_rfl }
open Go.RowKit Go.Lib Go.Sort in
theorem Tryd.slices_Compact_int (blk off cap : Nat) (zs : List Int) (w : World) (hH : Holds (Value.int .i64) w blk off zs.toArray) (hsz : zs.length ≤ 9223372036854775807) (hcap : zs.length ≤ cap) :
    Calls Tryd.prog 51 #[.slice (some ⟨blk, off, none⟩) zs.length cap] w fun e w' => e = .returned (.slice (some ⟨blk, off, none⟩) (Lib.compact zs).length cap) ∧ ∃ q, w' = putRow (Value.int .i64) (Sort.ahead w q) blk off (Lib.compact zs ++ List.replicate (zs.length - (Lib.compact zs).length) 0).toArray := Any.slices_Compact_int Tryd.laysNm220 blk off cap zs w hH hsz hcap
open Go.RowKit Go.Lib Go.Sort in
theorem Tryd.slices_Compact_int_empty (a : Option Addr) (cap : Nat) (w : World) :
    Calls Tryd.prog 51 #[.slice a 0 cap] w fun e w' => e = .returned (.slice a 0 cap) ∧ w' = w := Any.slices_Compact_int_empty Tryd.laysNm220 a cap w
open Go.RowKit Go.Sort in
theorem Tryd.slices_Sort_int_none (p : Option Addr) (cap : Nat) (w : World) :
    Calls Tryd.prog 59 #[.slice p 0 cap] w fun e w' => e = .returned (.tuple #[]) ∧ w' = w := Any.slices_Sort_int_none Tryd.lays189 p cap w
end Go.Proofs.YtldhfdagmaklaaaDoor.SH
end
section
set_option maxHeartbeats 8000000
set_option linter.unusedVariables false
set_option linter.unusedSimpArgs false

/- slices.Sorted(slices.Values(l)), and alloc.twice: does one number stand twice in a list? (the model's own level) -/
namespace Go.Proofs.YtldhfdagmaklaaaDoor.TW
open Go Go.Proofs Go.RowKit Go.Shelf Go.Sort
attribute [local go_sem] Oper.semAt_some
def twB : List Int → Bool
  | [] => false
  | x :: xs => xs.contains x || twB xs
theorem twB_nodup : ∀ l : List Int, twB l = false ↔ l.Nodup
  | [] => by simp [twB]
  | x :: xs => by
    unfold twB
    rw [Bool.or_eq_false_iff, twB_nodup xs, List.nodup_cons]
    simp
theorem compact_len {s : List Int} : (Lib.compact s).length = s.length ↔ ∀ j, j < s.length → Lib.keeps s.toArray j = true := by
  unfold Lib.compact Lib.compactUpTo
  rw [List.length_map]
  constructor
  · intro h j hj
    have h2 : ((List.range s.length).filter (Lib.keeps s.toArray)).length = (List.range s.length).length := by rw [h]; simp
    exact List.length_filter_eq_length_iff.1 h2 j (List.mem_range.2 hj)
  · intro h
    rw [List.filter_eq_self.2 fun j hj => h j (List.mem_range.1 hj)]
    simp
theorem sorted_nodup {s : List Int} (hs : s.Pairwise (· ≤ ·)) : (Lib.compact s).length = s.length ↔ s.Nodup := by
  rw [compact_len]
  have get : ∀ j, j < s.length → s.toArray[j]! = s.getD j 0 := fun j hj => by simp [hj]
  constructor
  · intro h
    have step : ∀ j, j + 1 < s.length → s.getD j 0 < s.getD (j + 1) 0 := fun j hj => by
      have h1 := h (j + 1) hj
      unfold Lib.keeps at h1
      have h2 := of_decide_eq_true h1
      rw [get (j + 1) hj, show j + 1 - 1 = j from rfl, get j (by omega)] at h2
      have h3 := List.pairwise_iff_getElem.1 hs j (j + 1) (by omega) hj (by omega)
      rw [List.getD_eq_getElem?_getD, List.getD_eq_getElem?_getD, List.getElem?_eq_getElem (show j < s.length by omega), List.getElem?_eq_getElem hj] at *
      simp only [Option.getD_some] at *
      rcases h2 with h2 | h2
      · omega
      · omega
    have mono : ∀ d i, i + d + 1 < s.length → s.getD i 0 < s.getD (i + d + 1) 0 := fun d => by
      induction d with
      | zero => intro i hi; exact step i hi
      | succ d ih =>
        intro i hi
        have h1 := ih i (by omega)
        have h2 := step (i + d + 1) (by omega)
        have e : i + (d + 1) + 1 = i + d + 1 + 1 := by omega
        rw [e]; omega
    refine List.pairwise_iff_getElem.2 fun i j hi hj hij => ?_
    have h1 := mono (j - i - 1) i (by omega)
    rw [show i + (j - i - 1) + 1 = j by omega, List.getD_eq_getElem?_getD, List.getD_eq_getElem?_getD, List.getElem?_eq_getElem hi, List.getElem?_eq_getElem hj] at h1
    simp only [Option.getD_some] at h1
    omega
  · intro h j hj
    unfold Lib.keeps
    refine decide_eq_true ?_
    by_cases h0 : j = 0
    · exact .inl h0
    · right
      rw [get j hj, get (j - 1) (by omega)]
      have h1 := List.pairwise_iff_getElem.1 h (j - 1) j (by omega) hj (by omega)
      rw [List.getD_eq_getElem?_getD, List.getD_eq_getElem?_getD, List.getElem?_eq_getElem hj, List.getElem?_eq_getElem (show j - 1 < s.length by omega)]
      simp only [Option.getD_some]
      exact Ne.symm h1
def srt (zs : List Int) : List Int := zs.mergeSort fun x y => decide (x ≤ y)
theorem srt_len (zs : List Int) : (srt zs).length = zs.length := List.length_mergeSort zs
theorem srt_nodup (zs : List Int) : (Lib.compact (srt zs)).length = zs.length ↔ zs.Nodup := by
  have hp : (srt zs).Perm zs := List.mergeSort_perm zs _
  have hs : (srt zs).Pairwise (· ≤ ·) := by
    have := List.pairwise_mergeSort (le := fun x y : Int => decide (x ≤ y)) (fun a b c h1 h2 => by simp at *; omega) (fun a b => by simp; omega) zs
    exact this.imp fun h => by simpa using h
  rw [← srt_len zs, sorted_nodup hs, hp.nodup_iff]
set_option maxRecDepth 100000 in
set_option maxHeartbeats 2000000 in
/-- slices.Sorted of slices.Values: a new slice that holds the numbers, sorted. -/
theorem sorted_in (n : Nat) (hn : 5 ≤ n) (Bs n₀ : Nat) (sv : Value) (zs : List Int) (hreach : zs.length * 8 ≤ 140737488351232) (w : World) (hBs : Bs < w.heap.size) (hn₀ : n₀ ≤ w.heap.size)
    (hc : w.cell? ⟨Bs, 0, none⟩ = some sv) (hI : Ints n₀ w sv zs) :
    CallsIn Fence.wide n Tryd.prog 52 #[.func (.func 60) #[] #[.pointer (some ⟨Bs, 0, none⟩)]] w fun e w' =>
      (zs = [] ∧ e = .returned (.slice none 0 0) ∧ Below w.heap.size w w') ∨ ∃ gb cap, e = .returned (.slice (some ⟨gb, 0, none⟩) zs.length cap) ∧ w.heap.size ≤ gb ∧ gb < w'.heap.size ∧ zs.length ≤ cap ∧ Holds (Value.int .i64) w' gb 0 (srt zs).toArray ∧ Below w.heap.size w w' := by
  have h1 : 1 ≤ n := by omega
  have hro : Fence.wide.round = none := rfl
  have hfC : Fence.wide.fn 58 := trivial
  have hfS : Fence.wide.fn 59 := trivial
  refine callsIn_of_wp Tryd.func52 rfl trivial ?_ hro
  simp only [Tryd.ntmps52, List.size_toArray, List.length_cons, List.length_nil, Nat.reduceAdd, Nat.reduceSub, Array.replicate_succ, Array.replicate_zero, List.push_toArray, List.append_toArray, List.nil_append, List.cons_append]
  gi_wp2_with (gi_at_call 58; refine (collect_in Fence.wide (n - 1) trivial trivial trivial hro (by omega) Bs n₀ sv zs hreach w hBs hn₀ hc hI).mono ?_; rintro e W ⟨v, rfl, hrow, hnil, hb⟩)
  rcases hrow.2 with ⟨rfl, hz⟩ | ⟨gb, cap, cur, rfl, hbase, hgb, r1, r2, r3, r4⟩
  · have hss : zs = [] := List.eq_nil_of_length_eq_zero hz
    gi_wp2_with (gi_at_call 59; refine (callsIn_wide.2 (SH.Tryd.slices_Sort_int_none none 0 W)).mono ?_; rintro e w' ⟨rfl, rfl⟩)
    go_ret
    exact .inl ⟨hss, rfl, hb⟩
  · have hH : Holds (Value.int .i64) W gb 0 zs.toArray := holds_of_block_i hgb (by simpa using r4)
    have hgl : gb < W.heap.size := (Array.getElem?_eq_some_iff.1 hgb).1
    gi_wp2_with (gi_at_call 59; refine (callsIn_wide.2 (SH.Tryd.slices_Sort_int gb 0 cap zs W hH hgl (by omega))).mono ?_; rintro e w' ⟨rfl, nn, os, rfl⟩)
    go_ret
    have hb2 := hb.grown (grownBy_sorted_i (n := nn) (os := os) (srt zs).toArray (g := gb)) hb.size (fun j hj => by cases hj; exact hbase)
    have ho := ownsRow_sorted_i (n := nn) (os := os) (ts := srt zs) (srt_len zs) hbase hgb r1 r2 r3
    rcases ho.2 with ⟨he, _⟩ | ⟨gb', cap', cur', he, hbase', hgb', s1, s2, s3, s4⟩
    · cases he
    · cases he
      exact .inr ⟨gb, cap, rfl, hbase, (Array.getElem?_eq_some_iff.1 hgb').1, r1, holds_of_block_i hgb' (by rw [srt_len]; simpa using s4), hb2⟩
set_option maxRecDepth 100000 in
set_option maxHeartbeats 2000000 in
/-- alloc.twice. -/
theorem twice_calls (sv : Value) (zs : List Int) (hreach : zs.length * 8 ≤ 140737488351232) (w : World) (hI : Ints w.heap.size w sv zs) :
    Calls Tryd.prog 34 #[sv] w fun e w' => e = .returned (.bool (twB zs)) ∧ Below w.heap.size w w' := by
  obtain ⟨p, cap, rfl, hr⟩ := hI
  refine (callsIn_wide (n := 7)).1 ?_
  have hro : Fence.wide.round = none := rfl
  have hfV : Fence.wide.fn 53 := trivial
  have hfS : Fence.wide.fn 52 := trivial
  have hfC : Fence.wide.fn 51 := trivial
  have hB0 : Below w.heap.size w (w.alloc (.cells #[.slice p zs.length cap] 22)) := (Below.refl _ w).alloc (Nat.le_refl _) _
  have hI1 : Ints w.heap.size (w.alloc (.cells #[.slice p zs.length cap] 22)) (.slice p zs.length cap) zs := (show Ints w.heap.size w (.slice p zs.length cap) zs from ⟨p, cap, rfl, hr⟩).below hB0
  have hBx := Boxed.new w 22 (.slice p zs.length cap)
  have cS := sorted_in 6 (by omega) w.heap.size w.heap.size (.slice p zs.length cap) zs hreach (w.alloc (.cells #[.slice p zs.length cap] 22)) (by rw [World.size_alloc]; omega) (by rw [World.size_alloc]; omega) hBx.cell hI1
  refine callsIn_of_wp Tryd.func34 rfl trivial ?_ rfl
  simp only [Tryd.ntmps34, List.size_toArray, List.length_cons, List.length_nil, Nat.reduceAdd, Nat.reduceSub, Array.replicate_succ, Array.replicate_zero, List.push_toArray, List.append_toArray, List.nil_append, List.cons_append]
  gi_wp2_with (first
    | (gi_at_call 53; refine (values_in Fence.wide 6 trivial rfl _ _ _ _).mono ?_; rintro e w' ⟨rfl, rfl⟩)
    | (gi_at_call 52; refine cS.mono ?_; rintro e w' (⟨hz, rfl, hb⟩ | ⟨gb, cap', rfl, hbase, hgb, hcap, hH, hb⟩)))
  · subst hz
    gi_wp2_with (gi_at_call 51; refine (callsIn_wide.2 (SH.Tryd.slices_Compact_int_empty none 0 _)).mono ?_; rintro e w' ⟨rfl, rfl⟩)
    go_ret
    exact ⟨rfl, hB0.trans (hb.mono (by rw [World.size_alloc]; omega))⟩
  · have hlen := srt_len zs
    have hne := srt_nodup zs
    have hbz : w.heap.size ≤ gb := by rw [World.size_alloc] at hbase; omega
    have cC := SH.Tryd.slices_Compact_int gb 0 cap' (srt zs) _ hH (by rw [hlen]; omega) (by rw [hlen]; exact hcap)
    rw [hlen] at cC
    gi_wp2_with (gi_at_call 51; refine (callsIn_wide.2 cC).mono ?_; rintro e w' ⟨rfl, q, rfl⟩)
    go_ret
    have hg := grownBy_sorted_i (w := w') (g := gb) (n := q) (os := #[]) (Lib.compact (srt zs) ++ List.replicate (zs.length - (Lib.compact (srt zs)).length) 0).toArray
    rw [grow_empty] at hg
    have hb2 : Below w.heap.size w w' := hB0.trans (hb.mono (by rw [World.size_alloc]; omega))
    refine ⟨?_, hb2.grown hg hb2.size (fun j hj => by cases hj; exact hbz)⟩
    show Ending.returned (.bool (((Lib.compact (srt zs)).length : Int) != (zs.length : Int))) = _
    congr 2
    by_cases hd : zs.Nodup
    · rw [hne.2 hd, (twB_nodup zs).2 hd]; simp
    · have h1 : twB zs = true := by
        cases ht : twB zs with
        | true => rfl
        | false => exact absurd ((twB_nodup zs).1 ht) hd
      have h2 : ¬ (Lib.compact (srt zs)).length = zs.length := fun h => hd (hne.1 h)
      rw [h1]
      simp; omega
end Go.Proofs.YtldhfdagmaklaaaDoor.TW
end
