/- What the proof of BatchNil rests on, part 6 of 6. -/
import Derived.Test.YtldhfdagmaklaaaBatchNilP5
import Derived.BigQuiet
import Derived.Carry
import Derived.ChangeSame
import Derived.Deep.AppendLies
import Derived.Deep.DeepFit
import Derived.Deep.Draws
import Derived.Deep.LoopGhost
import Derived.Deep.QuietTactic
import Derived.Deep.RegionHeld3
import Derived.Deep.Slices
import Derived.Deep.Strs
import Derived.KernelRfl
import Derived.Lib.Hide
import Derived.Maps.AppendAt
import Derived.OpenShut
import Derived.ProofKit
import Derived.RowKit3
import Derived.Shelf.Abstract
import Derived.WalkKit
import Derived.WalkSpells
section
set_option maxHeartbeats 8000000
set_option linter.unusedVariables false
set_option linter.unusedSimpArgs false
/- Words of this seat: a slice that reads as a list of cells; what stays readable when memory grows. No program is named here. -/
namespace Go.Proofs.Ytldhfdagmaklaaa.B
open Go.RowKit

/-- A fact that the walk's simp does not look into. -/
structure Keep (p : Prop) : Prop where
  out : p

/-- The slice v has n elements; its cells are xs (as many as the element's size a piece). -/
def Row (w : World) (v : Value) (n : Nat) (xs : List Value) : Prop :=
  ∃ A c, v = .slice A n c ∧ n ≤ c ∧ c ≤ maxLen ∧ (0 < n → ∃ g o, A = some ⟨g, o, none⟩ ∧ ∀ j u, xs[j]? = some u → w.cell? ⟨g, o + j, none⟩ = some u)

def ints (l : List Int) : List Value := l.map (Value.int .i64)
def u8s (l : List Int) : List Value := l.map (Value.int .u8)
@[simp] theorem ints_length (l : List Int) : (ints l).length = l.length := by simp [ints]
@[simp] theorem u8s_length (l : List Int) : (u8s l).length = l.length := by simp [u8s]
/-- Element j of a list (closed to simp). -/
def el (l : List Int) (j : Nat) : Int := l.getD j 0
theorem el_eq (l : List Int) (j : Nat) (h : j < l.length) : el l j = l[j] := by simp [el, h]
theorem ints_get (l : List Int) (j : Nat) (h : j < l.length) : (ints l)[j]? = some (.int .i64 (el l j)) := by simp [ints, el, h]
theorem u8s_get (l : List Int) (j : Nat) (h : j < l.length) : (u8s l)[j]? = some (.int .u8 (el l j)) := by simp [u8s, el, h]
theorem ints_append (a b : List Int) : ints (a ++ b) = ints a ++ ints b := by simp [ints]
theorem u8s_append (a b : List Int) : u8s (a ++ b) = u8s a ++ u8s b := by simp [u8s]

theorem Row.below {w w' : World} {v : Value} {n : Nat} {xs : List Value} (h : Row w v n xs) (hb : Below w.heap.size w w') : Row w' v n xs := by
  obtain ⟨A, c, rfl, h1, h2, h3⟩ := h
  refine ⟨A, c, rfl, h1, h2, fun hn => ?_⟩
  obtain ⟨g, o, e, hc⟩ := h3 hn
  refine ⟨g, o, e, fun j u hu => ?_⟩
  have hc := hc j u hu
  rw [hb.cell (World.block_lt_of_cell? w _ hc)]
  exact hc
theorem Row.of_own {w : World} {base n : Nat} {e : TypeId} {size : Nat} {v : Value} {xs : List Value} (h : w.ownsRow base e size v n xs) : Row w v n xs := by
  rcases h.2 with ⟨rfl, rfl⟩ | ⟨g, cap, cur, rfl, hb, hh, h1, h2, h3, h4⟩
  · exact ⟨none, 0, rfl, Nat.le_refl _, Nat.zero_le _, fun h => absurd h (Nat.lt_irrefl 0)⟩
  · refine ⟨_, cap, rfl, h1, h2, fun _ => ⟨g, 0, rfl, fun j u hu => ?_⟩⟩
    rw [cell_of_row w g (0 + j) cur e (0, 0) hh, Nat.zero_add]
    rw [← h4, List.getElem?_take] at hu
    split at hu
    · simpa using hu
    · cases hu
/-- A slice that reads has no element, or lies somewhere. -/
theorem Row.open_ {w : World} {v : Value} {n : Nat} {xs : List Value} (h : Row w v n xs) :
    (n = 0 ∧ ∃ A c, v = .slice A 0 c ∧ c ≤ maxLen) ∨ ∃ g o c, v = .slice (some ⟨g, o, none⟩) n c ∧ n ≤ c ∧ c ≤ maxLen ∧ ∀ j u, xs[j]? = some u → w.cell? ⟨g, o + j, none⟩ = some u := by
  obtain ⟨A, c, rfl, h1, h2, h3⟩ := h
  rcases Nat.eq_zero_or_pos n with h0 | h0
  · subst h0; exact .inl ⟨rfl, A, c, rfl, h2⟩
  · obtain ⟨g, o, rfl, hc⟩ := h3 h0
    exact .inr ⟨g, o, c, rfl, h1, h2, hc⟩
theorem bcell {W w1 : World} (hb : Below W.heap.size W w1) :
    (∀ b o, b < W.heap.size → w1.cell? ⟨b, o, none⟩ = W.cell? ⟨b, o, none⟩) ∧ (∀ b o, b < W.heap.size → w1.frozen? ⟨b, o, none⟩ = W.frozen? ⟨b, o, none⟩) :=
  ⟨fun b o h => hb.cell (p := ⟨b, o, none⟩) h, fun b o h => hb.frozen (p := ⟨b, o, none⟩) h⟩
theorem grown_set (w : World) (a : Addr) (u : Value) : w.grownBy (w.setCell a u) (some a.block) :=
  ⟨rfl, rfl, rfl, by simp [World.setCell], fun k _ hk => Below.heap_setCell _ _ _ _ (fun e => hk (by rw [e]))⟩
theorem own_set {w : World} {base n : Nat} {e : TypeId} {size : Nat} {v : Value} {xs : List Value} (h : w.ownsRow base e size v n xs) (a : Addr) (u : Value) (hne : v.ownBlock ≠ some a.block) : (w.setCell a u).ownsRow base e size v n xs :=
  h.kept (grown_set w a u) (.inr hne)
theorem heap_set_same {w : World} {b o : Nat} {cs : Array Value} {t : TypeId} {fr : Nat × Nat} (h : w.heap[b]? = some (.cells cs t fr)) (u : Value) :
    (w.setCell ⟨b, o, none⟩ u).heap[b]? = some (.cells (cs.setIfInBounds o u) t fr) := by
  simp [World.setCell, Array.getElem?_modify, h]
theorem heap_lt {w : World} {b : Nat} {o : Obj} (h : w.heap[b]? = some o) : b < w.heap.size := (Array.getElem?_eq_some_iff.1 h).1
theorem own_lt {w : World} {base n : Nat} {e : TypeId} {size : Nat} {v : Value} {xs : List Value} (h : w.ownsRow base e size v n xs) {k : Nat} (hk : v.ownBlock = some k) : k < w.heap.size := (h.lt k hk).2
theorem own_not {w : World} {base n : Nat} {e : TypeId} {size : Nat} {v : Value} {xs : List Value} (h : w.ownsRow base e size v n xs) {k : Nat} (hk : w.heap.size ≤ k) : v.ownBlock ≠ some k := fun e => by
  have := own_lt h e; omega
theorem new_blk {W : World} {o : Obj} {s : Nat} (h : W.heap.size = s) : (W.alloc o).heap[s]? = some o := by subst h; exact heap_alloc_new _ _
theorem retI {k : IntKind} {a b : Int} (h : a = b) : Ending.returned (.int k a) = .returned (.int k b) := by rw [h]
theorem retT {k : IntKind} {a b : Int} {x : Value} (h : a = b) : Ending.returned (.tuple #[.int k a, x]) = .returned (.tuple #[.int k b, x]) := by rw [h]
theorem retB {a b : Bool} (h : a = b) : Ending.returned (.bool a) = .returned (.bool b) := by rw [h]
theorem bdraw {B : Nat} {w W : World} (h : Below B w W) (n : Nat) : Below B w (W.drewN n) := ⟨h.os, h.tape, h.output, h.size, h.block⟩
theorem balloc {w W : World} (h : Below w.heap.size w W) (o : Obj) : Below w.heap.size w (W.alloc o) := h.alloc h.size o
theorem kc {w w1 : World} (h : Below w.heap.size w w1) {a : Addr} {v : Value} (hc : w.cell? a = some v) : w1.cell? a = some v := (h.cell (World.block_lt_of_cell? w a hc)).trans hc
theorem balloc' {w W : World} {B : Nat} (h : Below B w W) (o : Obj) (hB : B ≤ W.heap.size := by omega) : Below B w (W.alloc o) := h.alloc hB o
theorem own_nil' (W : World) (base : Nat) (e : TypeId) (size : Nat) : W.ownsRow base e size (.slice none 0 0) 0 [] := ⟨by simp, .inl ⟨rfl, rfl⟩⟩
theorem bnext {B : Nat} {w w1 w2 : World} (h : Below B w w1) (hB : B ≤ w1.heap.size) (k : Below w1.heap.size w1 w2) : Below B w w2 :=
  h.trans (k.mono hB)
/-- append of one element that was just laid into a block of its own. -/
theorem app1 {P : Program} {ops : Array Oper} {rest : List Oper} {o : Oper} {a : Act} {Q : Exit → Act → World → Prop} {W : World} (hgd : o.guard = none) (s x : Operand) (t : TypeId)
    (ho : o.op = .call { callee := .builtin .append, args := #[s, x], argTypes := #[t, t] })
    (base : Nat) (e te : TypeId) (i : TypeInfo) (z : Value) (size bytes : Nat) (ht : P.underlying t = some (.slice e)) (hi : P.info? e = some i) (hz : i.zero = some z)
    (hsize : i.size = size) (hby : i.bytes = bytes) (hzs : z.cells.size = size) (hsz : 0 < size)
    (v : Value) (n : Nat) (xs : List Value) (hs : a.eval s = v) (hown : W.ownsRow base e size v n xs)
    (cs : List Value) (hx : a.eval x = .slice (some ⟨W.heap.size, 0, none⟩) 1 1) (hl : cs.length = size) (h1 : ∀ u ∈ cs, u.oneCell' = true)
    (h63 : n + 1 ≤ 1000000000) (hb : bytes ≤ 100) (hbase : base ≤ W.heap.size)
    (h : ∀ g cap w', w'.ownsRow base e size (.slice (some ⟨g, 0, none⟩) (n + 1) cap) (n + 1) (xs ++ cs) → (W.alloc (.cells cs.toArray te)).grownBy w' v.ownBlock → (v.ownBlock = some g ∨ g = W.heap.size + 1) → wpList P ops Q rest (a.put o.dst (.slice (some ⟨g, 0, none⟩) (n + 1) cap)) w') :
    wpList P ops Q (o :: rest) a (W.alloc (.cells cs.toArray te)) := by
  refine wpList_append_lies _ hgd s x t ho base e i z size bytes ht hi hz hsize hby hzs hsz v n xs hs (hown.alloc _) ⟨W.heap.size, 0, none⟩ 1 1 cs hx (by simp [hl]) (fun j u hj => ?_) h1 (by omega) (by simp only [maxLen]; omega) ?_ (by simp; omega) (W.heap.size + 1) (by simp) ?_
  · rw [show (⟨W.heap.size, 0, none⟩ : Addr).add j = ⟨W.heap.size, j, none⟩ by unfold Addr.add; split <;> simp_all]
    rw [World.cell?_alloc_new]; simpa using hj
  · calc (n + 1) * bytes ≤ 1000000000 * 100 := Nat.mul_le_mul h63 hb
      _ ≤ _ := by omega
  · intro g cap w' g1 g2 g3 _
    exact h g cap w' g1 g2 g3
/-- append of the m elements of another slice. -/
theorem appN {P : Program} {ops : Array Oper} {rest : List Oper} {o : Oper} {a : Act} {Q : Exit → Act → World → Prop} {W : World} (hgd : o.guard = none) (s x : Operand) (t : TypeId)
    (ho : o.op = .call { callee := .builtin .append, args := #[s, x], argTypes := #[t, t] })
    (base : Nat) (e : TypeId) (i : TypeInfo) (z : Value) (size bytes : Nat) (ht : P.underlying t = some (.slice e)) (hi : P.info? e = some i) (hz : i.zero = some z)
    (hsize : i.size = size) (hby : i.bytes = bytes) (hzs : z.cells.size = size) (hsz : 0 < size)
    (v : Value) (n : Nat) (xs : List Value) (hs : a.eval s = v) (hown : W.ownsRow base e size v n xs)
    (xv : Value) (m : Nat) (us : List Value) (hx : a.eval x = xv) (hrow : Row W xv m us) (hl : us.length = m * size) (h1 : ∀ u ∈ us, u.oneCell' = true)
    (hm : 0 < m) (h63 : n + m ≤ 1000000000) (hb : bytes ≤ 100) (hbase : base ≤ W.heap.size)
    (h : ∀ g cap w', w'.ownsRow base e size (.slice (some ⟨g, 0, none⟩) (n + m) cap) (n + m) (xs ++ us) → W.grownBy w' v.ownBlock → (v.ownBlock = some g ∨ g = W.heap.size) → wpList P ops Q rest (a.put o.dst (.slice (some ⟨g, 0, none⟩) (n + m) cap)) w') :
    wpList P ops Q (o :: rest) a W := by
  rcases hrow.open_ with ⟨h0, _⟩ | ⟨g0, o0, c0, rfl, _, _, hc⟩
  · omega
  refine wpList_append_lies _ hgd s x t ho base e i z size bytes ht hi hz hsize hby hzs hsz v n xs hs hown ⟨g0, o0, none⟩ m c0 us hx hl (fun j u hj => ?_) h1 hm (by simp only [maxLen]; omega) ?_ hbase W.heap.size rfl ?_
  · rw [show (⟨g0, o0, none⟩ : Addr).add j = ⟨g0, o0 + j, none⟩ by unfold Addr.add; split <;> simp_all]
    exact hc j u hj
  · calc (n + m) * bytes ≤ 1000000000 * 100 := Nat.mul_le_mul h63 hb
      _ ≤ _ := by omega
  · intro g cap w' g1 g2 g3 _
    exact h g cap w' g1 g2 g3
theorem u8s_one {l : List Int} : ∀ u ∈ u8s l, u.oneCell' = true := by
  intro u hu
  simp [u8s] at hu
  obtain ⟨x, _, rfl⟩ := hu
  rfl
/-- A block laid just now, as a row. -/
theorem own_blk {w : World} {b : Nat} {cs : Array Value} {e : TypeId} {size n : Nat} (base : Nat) (h : w.heap[b]? = some (.cells cs e (0, 0))) (hb : base ≤ b) (hn : cs.size = n * size) (hm : n ≤ maxLen) :
    w.ownsRow base e size (.slice (some ⟨b, 0, none⟩) n n) n cs.toList :=
  ⟨by simpa using hn, .inr ⟨b, n, cs, rfl, hb, h, Nat.le_refl _, hm, hn, by rw [List.take_of_length_le (by simp [hn])]⟩⟩
/-- The same at a step of a region that draws its order. -/
theorem step1 {P : Program} {ops : Array Oper} {o : Oper} {a : Act} {K : Act → World → Prop} {Q : Exit → Act → World → Prop} {E : Prop} {W : World} (hgd : o.guard = none) (s x : Operand) (t : TypeId)
    (ho : o.op = .call { callee := .builtin .append, args := #[s, x], argTypes := #[t, t] })
    (base : Nat) (e te : TypeId) (i : TypeInfo) (z : Value) (size bytes : Nat) (ht : P.underlying t = some (.slice e)) (hi : P.info? e = some i) (hz : i.zero = some z)
    (hsize : i.size = size) (hby : i.bytes = bytes) (hzs : z.cells.size = size) (hsz : 0 < size)
    (v : Value) (n : Nat) (xs : List Value) (hs : a.eval s = v) (hown : W.ownsRow base e size v n xs)
    (cs : List Value) (hx : a.eval x = .slice (some ⟨W.heap.size, 0, none⟩) 1 1) (hl : cs.length = size) (h1 : ∀ u ∈ cs, u.oneCell' = true)
    (h63 : n + 1 ≤ 1000000000) (hb : bytes ≤ 100) (hbase : base ≤ W.heap.size)
    (h : ∀ g cap w', w'.ownsRow base e size (.slice (some ⟨g, 0, none⟩) (n + 1) cap) (n + 1) (xs ++ cs) → (W.alloc (.cells cs.toArray te)).grownBy w' v.ownBlock → (v.ownBlock = some g ∨ g = W.heap.size + 1) → K (a.put o.dst (.slice (some ⟨g, 0, none⟩) (n + 1) cap)) w') :
    if Region.wanted o (yielded ops a.tmps) = true then Oper.wp P o a (W.alloc (.cells cs.toArray te)).drew K Q else E := by
  refine step_append_lies _ hgd s x t ho base e i z size bytes ht hi hz hsize hby hzs hsz v n xs hs ((hown.alloc _).kept (w' := (W.alloc (.cells cs.toArray te)).drew) (row := none) ⟨rfl, rfl, rfl, Nat.le_refl _, fun _ _ _ => rfl⟩ (by cases v.ownBlock <;> simp)) ⟨W.heap.size, 0, none⟩ 1 1 cs hx (by simp [hl]) (fun j u hj => ?_) h1 (by omega) (by simp only [maxLen]; omega) ?_ (by simp; omega) (W.heap.size + 1) (by simp) ?_
  · rw [show (⟨W.heap.size, 0, none⟩ : Addr).add j = ⟨W.heap.size, j, none⟩ by unfold Addr.add; split <;> simp_all]
    rw [World.cell?_drew, World.cell?_alloc_new]; simpa using hj
  · calc (n + 1) * bytes ≤ 1000000000 * 100 := Nat.mul_le_mul h63 hb
      _ ≤ _ := by omega
  · intro g cap w' g1 g2 g3 _
    exact h g cap w' g1 ⟨g2.os, g2.tape, g2.output, g2.size, g2.block⟩ g3
/-- The same, behind a call that made memory. -/
theorem step1n {P : Program} {ops : Array Oper} {o : Oper} {a : Act} {K : Act → World → Prop} {Q : Exit → Act → World → Prop} {E : Prop} {W : World} (hgd : o.guard = none) (s x : Operand) (t : TypeId)
    (ho : o.op = .call { callee := .builtin .append, args := #[s, x], argTypes := #[t, t] })
    (base : Nat) (e te : TypeId) (i : TypeInfo) (z : Value) (size bytes : Nat) (ht : P.underlying t = some (.slice e)) (hi : P.info? e = some i) (hz : i.zero = some z)
    (hsize : i.size = size) (hby : i.bytes = bytes) (hzs : z.cells.size = size) (hsz : 0 < size)
    (v : Value) (n : Nat) (xs : List Value) (hs : a.eval s = v) (hown : W.ownsRow base e size v n xs)
    (cs : List Value) (hx : a.eval x = .slice (some ⟨W.heap.size, 0, none⟩) 1 1) (hl : cs.length = size) (h1 : ∀ u ∈ cs, u.oneCell' = true)
    (h63 : n + 1 ≤ 1000000000) (hb : bytes ≤ 100) (hbase : base ≤ W.heap.size)
    (h : ∀ g cap w', w'.ownsRow base e size (.slice (some ⟨g, 0, none⟩) (n + 1) cap) (n + 1) (xs ++ cs) → (W.alloc (.cells cs.toArray te)).grownBy w' v.ownBlock → (v.ownBlock = some g ∨ g = W.heap.size + 1) → K (a.put o.dst (.slice (some ⟨g, 0, none⟩) (n + 1) cap)) w') :
    if Region.wanted o (yielded ops a.tmps) = true then Oper.wp P o a (W.alloc (.cells cs.toArray te)) K Q else E := by
  refine step_append_lies _ hgd s x t ho base e i z size bytes ht hi hz hsize hby hzs hsz v n xs hs (hown.alloc _) ⟨W.heap.size, 0, none⟩ 1 1 cs hx (by simp [hl]) (fun j u hj => ?_) h1 (by omega) (by simp only [maxLen]; omega) ?_ (by simp; omega) (W.heap.size + 1) (by simp) ?_
  · rw [show (⟨W.heap.size, 0, none⟩ : Addr).add j = ⟨W.heap.size, j, none⟩ by unfold Addr.add; split <;> simp_all]
    rw [World.cell?_alloc_new]; simpa using hj
  · calc (n + 1) * bytes ≤ 1000000000 * 100 := Nat.mul_le_mul h63 hb
      _ ≤ _ := by omega
  · intro g cap w' g1 g2 g3 _
    exact h g cap w' g1 g2 g3
theorem ne_swap {a b : Option Nat} (h : a = none ∨ a ≠ b) : b = none ∨ b ≠ a := by
  rcases h with e | e
  · rw [e]; cases b <;> simp
  · exact .inr (Ne.symm e)
theorem own_slice {w : World} {base n : Nat} {e : TypeId} {size : Nat} {v : Value} {xs : List Value} (h : w.ownsRow base e size v n xs) : ∃ A c, v = .slice A n c := by
  rcases h.2 with ⟨rfl, rfl⟩ | ⟨g, cap, cur, rfl, _⟩
  · exact ⟨none, 0, rfl⟩
  · exact ⟨_, cap, rfl⟩
theorem addr_add0 (A : Option Addr) (c : Nat) : (if c = 0 then A else A.map (fun x => x.add 0)) = A := by cases A <;> simp [Addr.add]
/-- s[:k], whatever s is. -/
theorem run_cut {P : Program} {t e : TypeId} {i : TypeInfo} (ht : P.underlying t = some (.slice e)) (hi : P.info? e = some i) (A : Option Addr) (n c k : Nat) (h : k ≤ c) (w : World) :
    (Instr.slice t (.slice A n c) none (some (.int .i64 (k : Int))) none).run P w = .ok (.slice A k c) w := by
  have hs : (P.elem t) = e := by simp [Program.elem, ht]
  rw [run_slice_h (P := P) (t := t) (ht := by rw [hs]; exact ht) (h0 := by omega) (h2 := by omega)]
  simp [hs, sizeOf, typeInfo, hi, Result.andThen, sliced, Int.toNat_natCast]
  cases A <;> simp [Addr.add]
theorem own_below {w w1 : World} {base : Nat} {e : TypeId} {size n : Nat} {v : Value} {xs : List Value} (h : w.ownsRow base e size v n xs) (hb : Below w.heap.size w w1) : w1.ownsRow base e size v n xs :=
  h.kept (row := none) ⟨hb.os, hb.tape, hb.output, hb.size, fun k hk _ => hb.block k hk⟩ (by cases v.ownBlock <;> simp)
theorem row_blk {w : World} {b n : Nat} {cs : Array Value} {e : TypeId} {fr : Nat × Nat} (h : w.heap[b]? = some (.cells cs e fr)) (hm : n ≤ maxLen) : Row w (.slice (some ⟨b, 0, none⟩) n n) n cs.toList :=
  ⟨_, n, rfl, Nat.le_refl _, hm, fun _ => ⟨b, 0, rfl, fun j u hu => by rw [cell_of_row w b _ cs e fr h, Nat.zero_add]; simpa using hu⟩⟩
theorem grown_trans {w w1 w2 : World} {r r1 : Option Nat} (h1 : w.grownBy w1 r) (h2 : w1.grownBy w2 r1) (hr : r1 = r ∨ ∀ k, r1 = some k → w.heap.size ≤ k) : w.grownBy w2 r := by
  refine ⟨h2.os.trans h1.os, h2.tape.trans h1.tape, h2.output.trans h1.output, Nat.le_trans h1.size h2.size, fun k hk hne => ?_⟩
  rw [h2.block k (Nat.lt_of_lt_of_le hk h1.size) ?_, h1.block k hk hne]
  intro e
  rcases hr with h | h
  · exact hne (e.trans h)
  · have := h k e.symm; omega
theorem grown_alloc {w w1 : World} {r : Option Nat} (h1 : w.grownBy w1 r) (o : Obj) : w.grownBy (w1.alloc o) r :=
  ⟨h1.os, h1.tape, h1.output, by have := h1.size; simp; omega, fun k hk hne => (heap_alloc_old _ _ (Nat.lt_of_lt_of_le hk h1.size)).trans (h1.block k hk hne)⟩
theorem grown_below {w w1 : World} (h : Below w.heap.size w w1) (r : Option Nat) : w.grownBy w1 r := ⟨h.os, h.tape, h.output, h.size, fun k hk _ => h.block k hk⟩
theorem below_grown {w w0 w1 : World} {B bb : Nat} (h : Below B w w0) (hg : w0.grownBy w1 (some bb)) (hB : B ≤ w0.heap.size) (hb : B ≤ bb) : Below B w w1 := h.grown hg hB (fun k hk => by cases hk; exact hb)
theorem gcell {w0 wr : World} {bb : Nat} (hg : w0.grownBy wr (some bb)) {a : Addr} {v : Value} (h : w0.cell? a = some v) (hne : a.block ≠ bb) : wr.cell? a = some v := hg.cell h (by simpa using hne)
theorem unfrozen {w : World} {b o : Nat} {cs : Array Value} {t : TypeId} (h : w.heap[b]? = some (.cells cs t (0, 0))) : w.frozen? ⟨b, o, none⟩ = false := by simp [World.frozen?, h]
/-- A block that is not the row that was appended to. -/
theorem blk_far {wr w1 : World} {o ob : Obj} {b : Nat} {row : Option Nat} (h : wr.heap[b]? = some ob) (hg : (wr.alloc o).grownBy w1 row) (hne : row ≠ some b) : w1.heap[b]? = some ob := by
  have hlt := heap_lt h
  rw [hg.block b (by simp; omega) (fun e => hne e.symm), heap_alloc_old _ _ hlt]; exact h
end Go.Proofs.Ytldhfdagmaklaaa.B
end
section
set_option maxHeartbeats 8000000
set_option linter.unusedVariables false
set_option linter.unusedSimpArgs false
/- How an argument's reading opens into the words of Base; the end of a row's proof where nothing old has changed. -/
namespace Go.Proofs.Ytldhfdagmaklaaa.B
open Go Go.RowKit Go.WideShapes Go.ChangeShapes Go.Deep

section
variable {H : Type} {enc : TypeId × Value → H} {P : Program}
/-- The cells read as data of the type t. -/
def Rd (enc : TypeId × Value → H) (P : Program) (w : World) (t : TypeId) (cs : List Value) : Prop := ∃ fuel x, DataW.trod enc P w 0 (fun _ => true) true fuel t cs = some x
theorem Rd.of {w : World} {t : TypeId} {v : Value} {d : DataW H} {ps : List MemPlace} (h : DataW.Trod enc P w 0 (fun _ => true) true t v d ps) : Rd enc P w t v.cells.toList := by
  obtain ⟨m, hm⟩ := h
  exact ⟨m, _, hm⟩
theorem Rd.int {w : World} {t : TypeId} {k : IntKind} {cs : List Value} (h : Rd enc P w t cs) (ht : P.underlying t = some (.int k)) : ∃ n, cs = [.int k n] ∧ (Lit.int k n).wf = true := by
  obtain ⟨m, x, hm⟩ := h
  obtain ⟨n, h1, _, h2⟩ := DataW.trod_int ht hm
  exact ⟨n, h1, h2⟩
theorem Rd.bool {w : World} {t : TypeId} {cs : List Value} (h : Rd enc P w t cs) (ht : P.underlying t = some .bool) : ∃ b, cs = [.bool b] := by
  obtain ⟨m, x, hm⟩ := h
  obtain ⟨n, h1, _⟩ := DataW.trod_bool ht hm
  exact ⟨n, h1⟩
theorem Rd.struct1 {w : World} {t : TypeId} {f0 : Field} {cs : List Value} (h : Rd enc P w t cs) (ht : P.underlying t = some (.struct #[f0])) : cs.length = P.cellsOf t ∧ Rd enc P w f0.type ((cs.drop f0.offset).take (P.cellsOf f0.type)) := by
  obtain ⟨m, x, hm⟩ := h
  obtain ⟨y0, n, _, hl, h0⟩ := trod_struct1 ht hm
  exact ⟨hl, ⟨n, _, h0⟩⟩
theorem Rd.struct2 {w : World} {t : TypeId} {f0 f1 : Field} {cs : List Value} (h : Rd enc P w t cs) (ht : P.underlying t = some (.struct #[f0, f1])) :
    cs.length = P.cellsOf t ∧ Rd enc P w f0.type ((cs.drop f0.offset).take (P.cellsOf f0.type)) ∧ Rd enc P w f1.type ((cs.drop f1.offset).take (P.cellsOf f1.type)) := by
  obtain ⟨m, x, hm⟩ := h
  obtain ⟨y0, y1, n, _, hl, h0, h1⟩ := trod_struct2 ht hm
  exact ⟨hl, ⟨n, _, h0⟩, ⟨n, _, h1⟩⟩
theorem mapM_some {α β : Type} (f : α → Option β) : ∀ (l : List α) (r : List β), l.mapM f = some r → r.length = l.length ∧ ∀ i (h : i < l.length), ∃ y, r[i]? = some y ∧ f l[i] = some y
  | [], r, h => by simp at h; subst h; exact ⟨rfl, fun i h => by simp at h⟩
  | a :: l, r, h => by
    rw [List.mapM_cons] at h
    cases ha : f a with
    | none => simp [ha] at h
    | some y =>
      cases hl : l.mapM f with
      | none => simp [ha, hl] at h
      | some s =>
        simp [ha, hl] at h
        subst h
        obtain ⟨h1, h2⟩ := mapM_some f l s hl
        refine ⟨by simp [h1], fun i hi => ?_⟩
        cases i with
        | zero => exact ⟨y, rfl, ha⟩
        | succ i => simpa using h2 i (by simpa using hi)
/-- Cells in a row that are read: each one is there. -/
theorem cells_some {w : World} {a : Addr} {n : Nat} {cs : List Value} (h : w.cells? 0 a n = some cs) : cs.length = n ∧ ∀ i, i < n → ∃ u, cs[i]? = some u ∧ w.cell? (a.add i) = some u := by
  unfold World.cells? at h
  rw [if_pos (Nat.zero_le _)] at h
  obtain ⟨h1, h2⟩ := mapM_some _ _ _ h
  refine ⟨by simpa using h1, fun i hi => ?_⟩
  obtain ⟨y, hy, hc⟩ := h2 i (by simpa using hi)
  exact ⟨y, hy, by simpa using hc⟩
theorem sum_const {α : Type} (k : Nat) (l : List α) : (l.map fun _ => k).sum = l.length * k := by
  induction l with
  | nil => simp
  | cons a l ih => rw [List.map_cons, List.sum_cons, ih, List.length_cons, Nat.add_mul]; omega
theorem spot_none {w : World} {a : Addr} {u : Value} (h : w.cell? a = some u) : a.spot = none := by
  unfold World.cell? at h
  split at h
  · cases hs : a.spot with
    | none => rfl
    | some s => simp [hs] at h
  · cases h
theorem add_none (g o i : Nat) : (⟨g, o, none⟩ : Addr).add i = ⟨g, o + i, none⟩ := by unfold Addr.add; split <;> simp_all
/-- A slice whose elements take k cells each: the row of all its cells, and each element's own reading. -/
theorem Rd.slice {w : World} {t e : TypeId} {cs : List Value} {k : Nat} (h : Rd enc P w t cs) (ht : P.underlying t = some (.slice e)) (hk : P.cellsOf e = k) (hk0 : 0 < k) :
    ∃ v n, ∃ es : List (List Value), cs = [v] ∧ es.length = n ∧ Row w v n es.flatten ∧ ∀ i (h : i < es.length), es[i].length = k ∧ Rd enc P w e es[i] := by
  obtain ⟨m, x, hm⟩ := h
  rcases open_slice ht hm with ⟨rfl, _⟩ | ⟨a, len, cap, mm, n, D, Pl, rfl, hb, hl, hm', hmm, rfl, hx⟩
  · exact ⟨_, 0, [], rfl, rfl, ⟨none, 0, rfl, Nat.le_refl _, Nat.zero_le _, fun h => absurd h (Nat.lt_irrefl 0)⟩, fun i h => by simp at h⟩
  · simp at hmm
    obtain rfl : mm = cap := hmm
    rw [hk] at hx
    have hx' : ∀ i, ∃ cs', i < len → w.cells? 0 (a.add (i * k)) k = some cs' ∧ DataW.trod enc P w 0 (fun _ => true) true n e cs' = some (D i, Pl i) := fun i => by
      by_cases hi : i < len
      · obtain ⟨c, hc⟩ := hx i (by omega); exact ⟨c, fun _ => hc⟩
      · exact ⟨[], fun h => absurd h hi⟩
    obtain ⟨f, hf⟩ := Classical.axiomOfChoice hx'
    have hlen : ∀ i, i < len → (f i).length = k := fun i hi => (cells_some (hf i hi).1).1
    refine ⟨_, len, (List.range len).map f, rfl, by simp, ⟨some a, mm, rfl, hl, hm', fun hn => ?_⟩, fun i hi => ?_⟩
    · have h0 := (cells_some (hf 0 hn).1).2 0 hk0
      obtain ⟨u0, _, hu0⟩ := h0
      have hs := spot_none hu0
      obtain ⟨g, o, sp⟩ := a
      have hs : sp = none := by simpa [Addr.add] using hs
      subst hs
      refine ⟨g, o, rfl, fun j u hj => ?_⟩
      have hfl : ∀ (len : Nat), (∀ i, i < len → (f i).length = k) → ∀ j u, ((List.range len).map f).flatten[j]? = some u → j / k < len ∧ (f (j / k))[j % k]? = some u := by
        intro len
        induction len with
        | zero => intro _ j u h; simp at h
        | succ len ih =>
          intro hL j u h
          have hfl : ((List.range len).map f).flatten.length = len * k := by
            rw [List.length_flatten, List.map_map, show (List.range len).map (List.length ∘ f) = (List.range len).map (fun _ => k) from List.map_congr_left fun x hx => hL x (by simp at hx; omega), sum_const, List.length_range]
          rw [List.range_succ, List.map_append, List.flatten_append, List.getElem?_append] at h
          split at h
          · obtain ⟨h1, h2⟩ := ih (fun i hi => hL i (by omega)) j u h
            exact ⟨by omega, h2⟩
          · rename_i hge
            rw [hfl] at hge h
            simp at h
            have hlt : j - len * k < k := by
              have := (List.getElem?_eq_some_iff.1 h).1
              rw [hL len (by omega)] at this
              exact this
            have e1 : j / k = len := by
              rw [Nat.div_eq_iff hk0]
              constructor
              · omega
              · have : (len + 1) * k = len * k + k := by rw [Nat.add_mul]; omega
                omega
            have e2 : j % k = j - len * k := by
              have := Nat.div_add_mod j k
              rw [e1, Nat.mul_comm] at this
              omega
            rw [e1, e2]
            exact ⟨by omega, h⟩
      obtain ⟨h1, h2⟩ := hfl len hlen j u hj
      obtain ⟨y, hy, hc⟩ := (cells_some (hf (j / k) h1).1).2 (j % k) (Nat.mod_lt _ hk0)
      rw [add_none, add_none] at hc
      rw [h2] at hy
      cases hy
      rw [← hc]
      have := Nat.div_add_mod j k
      rw [Nat.mul_comm] at this
      rw [show o + j = o + j / k * k + j % k by omega]
    · simp only [List.length_map, List.length_range] at hi
      simp only [List.getElem_map, List.getElem_range]
      exact ⟨hlen i hi, ⟨n, _, (hf i hi).2⟩⟩
/-- A slice whose elements take one cell each. -/
theorem Rd.slice1 {w : World} {t e : TypeId} {A : Option Addr} {n c : Nat} (h : Rd enc P w t [.slice A n c]) (ht : P.underlying t = some (.slice e)) (hk : P.cellsOf e = 1) :
    n ≤ c ∧ c ≤ maxLen ∧ (0 < n → ∃ g o, A = some ⟨g, o, none⟩ ∧ g < w.heap.size) ∧ ∃ f : Nat → Value, ∀ i, i < n → (∀ g o, A = some ⟨g, o, none⟩ → w.cell? ⟨g, o + i, none⟩ = some (f i)) ∧ Rd enc P w e [f i] := by
  obtain ⟨m, x, hm⟩ := h
  rcases open_slice1 ht hk hm with ⟨h0, _⟩ | ⟨a, len, cap, mm, n', V, D, Pl, h0, hb, hl, hm', hmm, rfl, hx⟩
  · simp at h0
    obtain ⟨rfl, rfl, rfl⟩ := h0
    exact ⟨Nat.le_refl _, Nat.zero_le _, fun h => absurd h (Nat.lt_irrefl 0), fun _ => undef, fun i hi => absurd hi (Nat.not_lt_zero _)⟩
  · simp at h0
    obtain ⟨rfl, rfl, rfl⟩ := h0
    simp at hmm
    refine ⟨hl, hm', fun hn => ?_, V, fun i hi => ⟨fun g o e => ?_, ⟨n', _, (hx i (by omega)).2⟩⟩⟩
    · have h0 := (hx 0 (by omega)).1
      have hs := spot_none h0
      obtain ⟨g, o, sp⟩ := a
      have hs : sp = none := by simpa [Addr.add] using hs
      subst hs
      exact ⟨g, o, rfl, World.block_lt_of_cell? w _ h0⟩
    · cases e
      have h0 := (hx i (by omega)).1
      rw [add_none] at h0
      exact h0
theorem post_of_below {f : Func} {s : ChangeSpec} {apart fresh handsOn again : Bool} {W W' : World} {args : Array Value} {v : Value} {ds gs : List (DataW H)} {before pa pv : List MemPlace}
    (hW : DataW.Whole enc P f.params.toList s.vars apart W args.toList ds gs before)
    (hres : ∀ (b : Nat) (sp : Nat → Bool) (hd : Bool), DataW.TrodAll enc P W' b sp hd f.resultTypes.toList (v.resultList f.resultTypes.size) (s.fn H (ds ++ gs)).results [])
    (hargs : ∀ sp : Nat → Bool, (∀ p ∈ before, sp p.block = true) → DataW.TrodAll enc P W' 0 sp true f.params.toList args.toList (s.fn H (ds ++ gs)).args pa)
    (hvars : ∀ sp : Nat → Bool, (∀ p ∈ before, sp p.block = true) → DataW.TrodVars enc P W' sp s.vars (s.fn H (ds ++ gs)).vars pv)
    (hps : before = pa ++ pv) (hb : Below W.heap.size W W')
    (hok : ∀ (j : Nat) (t : TypeId) (r : Value), f.resultTypes[j]? = some t → (v.resultList f.resultTypes.size)[j]? = some r → Value.okWide P W' .any 0 t r) :
    s.post enc P f apart fresh handsOn again W args v W' := by
  have hlt : ∀ p ∈ before, p.block < W.heap.size := fun p hp => hW.lt p hp
  have hold : ∀ p ∈ before, (fun b => decide (b < W.heap.size)) p.block = true := fun p hp => by simpa using hlt p hp
  refine ⟨ds, gs, before, [], pa, pv, hW, hres _ _ _, hargs _ hold, hvars _ hold, World.keptBut_mono (fun p hp => ⟨hp, ?_⟩) (hb.frame (· ∈ before)), fun _ => ?_⟩
  · rw [hps, List.mem_append] at hp
    exact Or.inr hp
  · obtain ⟨_, _, _, _, _, hz, hn⟩ := hW
    refine ⟨hok, _, _, ([] ++ pa) ++ pv, ⟨[] ++ pa, pv, trodAll_append (hargs _ (fun _ _ => rfl)) (hres _ _ _), hvars _ (fun _ _ => rfl), rfl, ?_, ?_⟩, ?_⟩
    · intro b off hp
      have hin : MemPlace.cell b off ∈ before := by rw [hps]; simpa using hp
      rw [hb.frozen (hlt _ hin)]
      exact hz b off hin
    · intro ha
      have := hn ha
      rw [hps] at this
      simpa using this
    · intro p hp _
      rw [hps]
      simpa using hp
/-- An argument reads behind the call as it read ahead of it. -/
theorem trod_again {t : TypeId} (hl : laidOutB P = true) (hr : P.readableRec t = true) (hrow : t < P.types.size) {W W' : World} {v : Value} {d : DataW H} {ps : List MemPlace}
    (h : DataW.Trod enc P W 0 (fun _ => true) true t v d ps) (hb : Below W.heap.size W W') (hlt : ∀ x ∈ ps, x.block < W.heap.size) (sp : Nat → Bool) (hs : ∀ p ∈ ps, sp p.block = true) :
    DataW.Trod enc P W' 0 sp true t v d ps :=
  WideElems.Trod_stays hl hr hrow h (fun x hx => hb.same (hlt x hx)) hs
end
end Go.Proofs.Ytldhfdagmaklaaa.B
end
section
set_option maxHeartbeats 8000000
set_option linter.unusedVariables false
set_option linter.unusedSimpArgs false
/- What a law's arguments are for the machine of values: of whatever law. -/
namespace Go.Proofs.Ytldhfdagmaklaaa.VM
open Go Go.Proofs Go.RowKit Go.WideShapes Go.ChangeShapes Go.Deep AM B
section
variable {H : Type} {enc : TypeId × Value → H} {P : Program} {w : World}
theorem rd_nil {t e : TypeId} {cs : List Value} (h : Rd enc P w t cs) (ht : P.underlying t = some (.slice e)) : ∃ v, cs = [v] ∧ (v = .slice none 0 0 ∨ ∃ a n c, v = .slice (some a) n c) := by
  obtain ⟨m, x, hm⟩ := h
  rcases open_slice ht hm with ⟨rfl, _⟩ | ⟨a, len, cap, mm, n, D, Pl, rfl, _⟩
  · exact ⟨_, rfl, .inl rfl⟩
  · exact ⟨_, rfl, .inr ⟨_, _, _, rfl⟩⟩
theorem rd_sliceV {t e : TypeId} {cs : List Value} {k : Nat} (Good : List V → Prop) (h : Rd enc P w t cs) (ht : P.underlying t = some (.slice e)) (hk : P.cellsOf e = k) (hk0 : 0 < k) (hk1 : k ≤ 1048576)
    (f : ∀ es, es.length = k → Rd enc P w e es → ∃ row : List V, row.length = k ∧ CellsV w row es ∧ Good row) : ∃ v kk rows, cs = [v] ∧ CellV w (.fsl kk k rows) v ∧ rows.length ≤ maxLen ∧ ∀ r ∈ rows, Good r := by
  obtain ⟨v0, hv0, hnil⟩ := rd_nil h ht
  obtain ⟨v, n, es, h1, h2, ⟨A, c, h3, h4, h5, h6⟩, h7⟩ := h.slice ht hk hk0
  have hvv : v0 = v := by rw [hv0] at h1; cases h1; rfl
  subst hvv
  have rows : ∀ es : List (List Value), (∀ i (h : i < es.length), es[i].length = k ∧ Rd enc P w e es[i]) → ∃ rows : List (List V), RowsV w k rows es.flatten ∧ rows.length = es.length ∧ ∀ r ∈ rows, Good r := by
    intro es
    induction es with
    | nil => exact fun _ => ⟨[], rfl, rfl, fun r hr => by simp at hr⟩
    | cons a es ih =>
      intro h
      obtain ⟨rows, r1, r2, r3⟩ := ih fun i hi => h (i + 1) (by simpa using hi)
      obtain ⟨row, q1, q2, q3⟩ := f a (h 0 (by simp)).1 (h 0 (by simp)).2
      refine ⟨row :: rows, ⟨a, es.flatten, by simp, q1, q2, r1⟩, by simp [r2], fun r hr => ?_⟩
      rcases List.mem_cons.1 hr with rfl | hr
      · exact q3
      · exact r3 r hr
  obtain ⟨rows, r1, r2, r3⟩ := rows es h7
  obtain ⟨kk, hc⟩ := CellV.slice (A := A) (n := n) (c := c) hk0 hk1 (fun hA => by
    rcases hnil with hq | ⟨a, n', c', hq⟩
    · rw [h3] at hq; cases hq; exact ⟨rfl, rfl⟩
    · rw [h3, hA] at hq; cases hq) h4 h5 (by omega) r1 h6
  exact ⟨v0, kk, rows, h1, by rw [h3]; exact hc, by omega, r3⟩
theorem rd_two {t : TypeId} {f0 f1 : Field} {cs : List Value} (h : Rd enc P w t cs) (ht : P.underlying t = some (.struct #[f0, f1])) {a b : Nat} (o0 : f0.offset = 0) (c0 : P.cellsOf f0.type = a) (o1 : f1.offset = a) (c1 : P.cellsOf f1.type = b) (hc : P.cellsOf t = a + b) :
    ∃ x y, cs = x ++ y ∧ x.length = a ∧ y.length = b ∧ Rd enc P w f0.type x ∧ Rd enc P w f1.type y := by
  obtain ⟨hl, h0, h1⟩ := h.struct2 ht
  rw [o0, c0, List.drop_zero] at h0
  rw [o1, c1] at h1
  have e1 : (cs.drop a).take b = cs.drop a := List.take_of_length_le (by simp; omega)
  rw [e1] at h1
  exact ⟨cs.take a, cs.drop a, (List.take_append_drop a cs).symm, by simp; omega, by simp; omega, h0, h1⟩
end
end Go.Proofs.Ytldhfdagmaklaaa.VM
end
section
set_option maxHeartbeats 8000000
set_option linter.unusedVariables false
set_option linter.unusedSimpArgs false
/- Numbers as bytes, seven bits a byte: plain. -/
namespace Go.Proofs.Ytldhfdagmaklaaa
open B
def vencF : Nat → Nat → List Int
  | 0, _ => []
  | k + 1, n => if n < 128 then [(n : Int)] else ((n % 128 + 128 : Nat) : Int) :: vencF k (n / 128)
/-- A number's bytes. -/
def venc (n : Nat) : List Int := vencF 10 n
theorem vencF_more : ∀ (k n : Nat), n < 128 ^ k → 0 < k → vencF (k + 1) n = vencF k n := by
  intro k
  induction k with
  | zero => intro n _ h; omega
  | succ k ih =>
    intro n hn _
    by_cases h : n < 128
    · simp [vencF, h]
    · have e1 : ∀ j, vencF (j + 1) n = ((n % 128 + 128 : Nat) : Int) :: vencF j (n / 128) := fun j => by rw [vencF, if_neg h]
      rw [e1, e1]
      congr 1
      rcases Nat.eq_zero_or_pos k with h0 | h0
      · subst h0; omega
      · exact ih (n / 128) (by rw [Nat.pow_succ] at hn; omega) h0
theorem venc_lt (n : Nat) (h : n < 128) : venc n = [(n : Int)] := by simp [venc, vencF, h]
theorem venc_ge (n : Nat) (h : 128 ≤ n) (h2 : n < 18446744073709551616) : venc n = ((n % 128 + 128 : Nat) : Int) :: venc (n / 128) := by
  have e : vencF 10 n = ((n % 128 + 128 : Nat) : Int) :: vencF 9 (n / 128) := by rw [vencF, if_neg (by omega)]
  unfold venc
  rw [e, vencF_more 9 (n / 128) (by omega) (by omega)]
theorem vencF_length : ∀ k n, (vencF k n).length ≤ k := by
  intro k
  induction k with
  | zero => intro n; simp [vencF]
  | succ k ih => intro n; unfold vencF; split <;> simp [ih]
theorem venc_length (n : Nat) : (venc n).length ≤ 10 := vencF_length 10 n
theorem venc_pos (n : Nat) : 0 < (venc n).length := by unfold venc vencF; split <;> simp
theorem vencF_byte : ∀ k n x, x ∈ vencF k n → 0 ≤ x ∧ x ≤ 255 := by
  intro k
  induction k with
  | zero => intro n x h; simp [vencF] at h
  | succ k ih =>
    intro n x h
    unfold vencF at h
    split at h
    · simp at h; omega
    · rcases List.mem_cons.1 h with rfl | h
      · omega
      · exact ih _ x h
theorem venc_byte (n : Nat) (x : Int) (h : x ∈ venc n) : 0 ≤ x ∧ x ≤ 255 := vencF_byte 10 n x h
/-- Numbers' bytes, one behind the other. -/
def vencs (l : List Int) : List Int := l.flatMap fun n => venc n.toNat
theorem vencs_append (a b : List Int) : vencs (a ++ b) = vencs a ++ vencs b := by simp [vencs]
theorem vencs_length (l : List Int) : (vencs l).length ≤ 10 * l.length := by
  induction l with
  | nil => simp [vencs]
  | cons a l ih =>
    have := venc_length a.toNat
    simp only [vencs, List.flatMap_cons, List.length_append, List.length_cons] at *
    omega
theorem vencs_pos (l : List Int) : l.length ≤ (vencs l).length := by
  induction l with
  | nil => simp [vencs]
  | cons a l ih =>
    have := venc_pos a.toNat
    simp only [vencs, List.flatMap_cons, List.length_append, List.length_cons] at *
    omega
end Go.Proofs.Ytldhfdagmaklaaa
end
section
set_option maxHeartbeats 8000000
set_option linter.unusedVariables false
set_option linter.unusedSimpArgs false
/- varint: put and Put. -/
namespace Go.Proofs.Ytldhfdagmaklaaa.VM
open Go Go.Proofs AM
/-- A byte, in a row. -/
def bc (b : Int) : List V := [.lit (.int .u8 b)]
/-- A slice of bytes; of whole numbers. -/
def BS (k : Bool) (l : List Int) : V := .fsl k 1 (l.map bc)
def ic (n : Int) : List V := [i6 n]
def IS (k : Bool) (l : List Int) : V := .fsl k 1 (l.map ic)
attribute [simp] BS bc IS ic
set_option maxRecDepth 100000
theorem bits_or (r : Nat) (h : r < 256) : bits BinOp.or IntKind.u8 (r : Int) 128 = ((r % 128 + 128 : Nat) : Int) := by
  have : ∀ r : Fin 256, bits BinOp.or IntKind.u8 ((r : Nat) : Int) 128 = (((r : Nat) % 128 + 128 : Nat) : Int) := by decide +kernel
  exact this ⟨r, h⟩
theorem bits_or' (q : Nat) : bits BinOp.or IntKind.u8 ((q : Int) % 256) 128 = ((q % 128 + 128 : Nat) : Int) := by
  have := bits_or (q % 256) (by omega)
  rw [show ((q % 256 : Nat) : Int) = (q : Int) % 256 by omega] at this
  rw [this]
  congr 1
  omega
theorem v_put {H : Hp} {g w : Nat} {rows : List (List V)} {t : Bool} {n : Nat} (hg : H[g]? = some (.vec w rows 1 true t)) (hp : PureR rows) (hl : rows.length ≤ 1000000) (hn : n < 18446744073709551616) :
    VC Try.prog prims 106 [.own g w, .lit (.int .u64 n)] H fun u T => ∃ w', u = .own g w' ∧ T = H.set g (.vec w' (rows ++ (venc n).map bc) 1 true t) := by
  refine v_enter hC [] (fun _ _ => kn_none rfl) Try.func106 rfl ok106 (Nat.le_of_ble_eq_true rfl) fun hcl hbl => ?_
  simp
  refine v_loopX hC (fun (X : Nat × List Int) e T => ∃ w', T = H.set g (.vec w' (rows ++ X.2.map bc) 1 true t) ∧ e 0 = .own g w' ∧ e 1 = .lit (.int .u64 X.1) ∧ X.1 < 18446744073709551616 ∧ venc n = X.2 ++ venc X.1 ∧ X.2.length ≤ 10) (fun X => X.1) (n, []) (G.refl ?_) ?_
  · refine ⟨w, ?_, by simp, by simp, hn, by simp, by simp⟩
    rw [List.map_nil, List.append_nil]
    exact (set_self hg).symm
  · rintro ⟨m, done⟩ e T ⟨w', rfl, h0, h1, hm, hv, hd⟩
    have hgl := get_lt hg
    have hset : ∀ y, (H.set g y)[g]? = some y := fun y => List.getElem?_set_self hgl
    simp [h0, h1, hset]
    simp only at h1 hm hv hd
    have hw8 : IntKind.u8.wrap (m : Int) = (m : Int) % 256 := by simp [IntKind.wrap, IntKind.bits, IntKind.signed]
    have hlen : done.length + (venc m).length ≤ 10 := by have := venc_length n; rw [hv, List.length_append] at this; exact this
    have hpos := venc_pos m
    refine CondV.dec (fun hge => ?_) (fun hlt => ?_)
    · have hge : 128 ≤ m := by omega
      have hfd : ((m : Int)).fdiv (2 ^ min 7 IntKind.u64.bits) = ((m / 128 : Nat) : Int) := by
        rw [show min 7 IntKind.u64.bits = 7 from rfl, Int.fdiv_eq_ediv_of_nonneg _ (by decide)]; omega
      have hvm := venc_ge m hge hm
      simp [h0, h1, hset, hw8, bits_or', hfd]
      refine ⟨by omega, GH.refl ⟨(m / 128, done ++ [((m % 128 + 128 : Nat) : Int)]), ⟨w' + 1, ?_, ?_, ?_, ?_, ?_, ?_⟩, ?_⟩⟩
      · simp
      · simp
      · simp
      · simp only; omega
      · simp only; rw [hv, hvm]; simp
      · simp only [List.length_append, List.length_singleton]; omega
      · simp only; omega
    · have hlt : m < 128 := by omega
      simp [h0, h1, hset, hw8, Try.results106]
      refine ⟨by omega, GV.refl ⟨w' + 1, rfl, ?_⟩⟩
      rw [hv, venc_lt m hlt]
      simp [show (m : Int) % 256 = m by omega]
/-- Numbers' bytes, or none. -/
def putB (l : List Int) : List Int := if l.all (fun n => decide (0 ≤ n)) then vencs l else []
theorem v_Put {kk : Bool} {l : List Int} (hl : l.length ≤ 10000) (hr : ∀ n ∈ l, n < 9223372036854775808) : A 70 [IS kk l] (BS true (putB l)) := by
  intro H
  refine v_enter hC [] (fun _ _ => kn_none rfl) Try.func70 rfl ok70 (Nat.le_of_ble_eq_true rfl) fun hcl hbl => ?_
  simp
  have get : ∀ {k : Nat} (h : k < l.length), l[k]? = some l[k] := fun h => List.getElem?_eq_getElem h
  refine v_loopX hC (fun (k : Nat) e T => ∃ w t, T = H ++ [.vec w ((vencs (l.take k)).map bc) 1 true t] ∧ e 3 = .own H.length w ∧ e 6 = IS kk l ∧ e 7 = i6 l.length ∧ e 8 = i6 k ∧ k ≤ l.length ∧ ∀ n ∈ l.take k, 0 ≤ n) (fun k => l.length - k) 0 ?_ ?_
  · refine G.nilT0 (s := 1) 3 hcl (Nat.le_refl _) (by omega) (by simp) ?_
    exact ⟨0, true, by simp [vencs], by simp, by simp, by simp, by simp, by simp, by simp⟩
  · rintro k e T ⟨w, t, rfl, h3, h6, h7, h8, hk, hpos⟩
    simp [h3, h6, h7, h8]
    refine CondV.dec (fun hlt => ?_) (fun hge => ?_)
    · simp [h3, h6, h7, h8, get hlt]
      have hrk := hr l[k] (List.getElem_mem hlt)
      refine CondV.dec (fun hneg => ?_) (fun hnn => ?_)
      · have hm : putB l = [] := by
          unfold putB
          rw [if_neg]
          intro h
          have := List.all_eq_true.1 h l[k] (List.getElem_mem hlt)
          simp at this
          omega
        simp [Try.results70]
        first | (refine GV.ans hcl ?_; simp [hm]; done) | (refine GV.ans0 ?_; simp [hm]; done)
      · obtain ⟨n, hln⟩ : ∃ n : Nat, l[k] = n := ⟨l[k].toNat, by omega⟩
        have hw : IntKind.u64.wrap l[k] = (n : Int) := by simp [IntKind.wrap, IntKind.bits, IntKind.signed]; omega
        have hlen : (vencs (l.take k)).length ≤ 100000 := by
          have := vencs_length (l.take k)
          rw [List.length_take] at this
          omega
        simp [h3, hw]
        refine CALLv.at (v_put (n := n) (rows := (vencs (l.take k)).map bc) (List.getElem?_concat_length ..) (by simp) (by simp; omega) (by omega)) fun u T' hu => ?_
        obtain ⟨w2, e1, e2⟩ := hu
        subst e1; subst e2
        simp [h3, h6, h7, h8, w64 (n := (k : Int) + 1) (by omega)]
        refine GH.refl ⟨k + 1, ⟨w2, t, ?_, ?_, ?_, ?_, ?_, hlt, ?_⟩, by omega⟩ <;> (try simp [h6, h7])
        · rw [List.take_succ_eq_append_getElem hlt, vencs_append]
          simp [vencs, hln]
        · rw [List.take_succ_eq_append_getElem hlt]
          intro n hn
          rcases List.mem_append.1 hn with hn | hn
          · exact hpos n hn
          · simp at hn; subst hn; omega
    · have hm : putB l = vencs l := by
        unfold putB
        rw [if_pos]
        rw [List.all_eq_true]
        intro n hn
        rw [List.take_of_length_le (by omega)] at hpos
        simpa using hpos n hn
      have ht : l.take k = l := List.take_of_length_le (by omega)
      simp [h3, Try.results70]
      first | (refine GV.ans hcl ?_; simp [hm, ht]; done) | (refine GV.ans0 ?_; simp [hm, ht]; done)
end Go.Proofs.Ytldhfdagmaklaaa.VM
end
section
set_option maxHeartbeats 8000000
set_option linter.unusedVariables false
set_option linter.unusedSimpArgs false
/- Bytes as a law's argument. -/
namespace Go.Proofs.Ytldhfdagmaklaaa.VM
open Go Go.Proofs Go.RowKit AM B
theorem rows_bc : ∀ {rows : List (List V)}, (∀ r ∈ rows, ∃ x : Int, (0 ≤ x ∧ x ≤ 255) ∧ r = bc x) → ∃ l : List Int, rows = l.map bc ∧ ∀ x ∈ l, 0 ≤ x ∧ x ≤ 255
  | [], _ => ⟨[], rfl, by simp⟩
  | r :: rs, h => by
    obtain ⟨e, he1, he2⟩ := h r (by simp)
    obtain ⟨l, hl, hb⟩ := rows_bc (rows := rs) fun x hx => h x (by simp [hx])
    refine ⟨e :: l, by rw [he2, hl]; rfl, fun x hx => ?_⟩
    rcases List.mem_cons.1 hx with rfl | hx
    · exact he1
    · exact hb x hx
/-- Bytes. -/
theorem rd_bytes {H : Type} {enc : TypeId × Value → H} {w : World} {cs : List Value} (h : Rd enc Try.prog w 48 cs) : ∃ v kk, ∃ l : List Int, cs = [v] ∧ l.length < 2 ^ 63 ∧ (∀ x ∈ l, 0 ≤ x ∧ x ≤ 255) ∧ CellV w (BS kk l) v := by
  obtain ⟨v, kk, rows, e, hc, hl, hg⟩ := rd_sliceV (fun r => ∃ x : Int, (0 ≤ x ∧ x ≤ 255) ∧ r = bc x) h Try.underlying48 (by kernel_rfl : Try.prog.cellsOf 5 = 1) (by omega) (by omega) (fun es h1 h2 => by
    obtain ⟨x, rfl, hw⟩ := h2.int Try.underlying5
    refine ⟨bc x, rfl, ⟨_, _, rfl, .lit rfl, rfl⟩, x, ?_, rfl⟩
    simp [Lit.wf, IntKind.min, IntKind.max, IntKind.signed, IntKind.bits] at hw
    omega)
  obtain ⟨l, rfl, hb⟩ := rows_bc hg
  exact ⟨v, kk, l, e, by simp only [List.length_map, maxLen] at hl; omega, hb, hc⟩
theorem arg_bytes {H : Type} {enc : TypeId × Value → H} {w : World} {v : Value} (h : Rd enc Try.prog w 48 [v]) : ∃ kk, ∃ l : List Int, l.length < 2 ^ 63 ∧ (∀ x ∈ l, 0 ≤ x ∧ x ≤ 255) ∧ ArgV w (BS kk l) v := by
  obtain ⟨u, kk, l, e, h1, h2, h3⟩ := rd_bytes h
  cases e
  exact ⟨kk, l, h1, h2, h3.arg⟩
theorem rows_ic : ∀ {rows : List (List V)}, (∀ r ∈ rows, ∃ x : Int, r = ic x) → ∃ l : List Int, rows = l.map ic
  | [], _ => ⟨[], rfl⟩
  | r :: rs, h => by
    obtain ⟨e, he⟩ := h r (by simp)
    obtain ⟨l, hl⟩ := rows_ic (rows := rs) fun x hx => h x (by simp [hx])
    exact ⟨e :: l, by rw [he, hl]; rfl⟩
/-- Whole numbers. -/
theorem rd_ints {H : Type} {enc : TypeId × Value → H} {w : World} {cs : List Value} (h : Rd enc Try.prog w 22 cs) : ∃ v kk, ∃ l : List Int, cs = [v] ∧ l.length < 2 ^ 63 ∧ CellV w (IS kk l) v := by
  obtain ⟨v, kk, rows, e, hc, hl, hg⟩ := rd_sliceV (fun r => ∃ x : Int, r = ic x) h Try.underlying22 (by kernel_rfl : Try.prog.cellsOf 3 = 1) (by omega) (by omega) (fun es h1 h2 => by
    obtain ⟨x, rfl, hw⟩ := h2.int Try.underlying3
    exact ⟨ic x, rfl, ⟨_, _, rfl, .lit rfl, rfl⟩, x, rfl⟩)
  obtain ⟨l, rfl⟩ := rows_ic hg
  exact ⟨v, kk, l, e, by simp only [List.length_map, maxLen] at hl; omega, hc⟩
theorem arg_ints {H : Type} {enc : TypeId × Value → H} {w : World} {v : Value} (h : Rd enc Try.prog w 22 [v]) : ∃ kk, ∃ l : List Int, l.length < 2 ^ 63 ∧ ArgV w (IS kk l) v := by
  obtain ⟨u, kk, l, e, h1, h3⟩ := rd_ints h
  cases e
  exact ⟨kk, l, h1, h3.arg⟩
end Go.Proofs.Ytldhfdagmaklaaa.VM
end
section
set_option maxHeartbeats 8000000
set_option linter.unusedVariables false
set_option linter.unusedSimpArgs false
/- Bytes, one behind the other (as in VX, for seats without nodes). -/
namespace Go.Proofs.Ytldhfdagmaklaaa.VM
open Go Go.Proofs AM B
set_option maxRecDepth 100000
theorem parts {ls : List (Bool × List (List V))} {M : Nat} (hn : ∀ p ∈ ls, p.2.length ≤ M) : ∃ (S : Nat → Nat) (F : Nat → List (List V)), S 0 = 0 ∧ F 0 = [] ∧ (∀ k (h : k < ls.length), S (k + 1) = S k + ls[k].2.length ∧ F (k + 1) = F k ++ ls[k].2) ∧ (∀ k, k ≤ ls.length → S k ≤ M * k ∧ (F k).length = S k) ∧ F ls.length = (ls.map (·.2)).flatten := by
  have h1 : ∀ k (h : k < ls.length), (((ls.take (k + 1)).map (·.2)).flatten).length = (((ls.take k).map (·.2)).flatten).length + ls[k].2.length ∧ ((ls.take (k + 1)).map (·.2)).flatten = ((ls.take k).map (·.2)).flatten ++ ls[k].2 := fun k h => by
    rw [List.take_succ_eq_append_getElem h, List.map_append, List.flatten_append]
    simp only [List.map_cons, List.map_nil, List.flatten_cons, List.flatten_nil, List.append_nil, List.length_append, and_self]
  refine ⟨fun k => (((ls.take k).map (·.2)).flatten).length, fun k => ((ls.take k).map (·.2)).flatten, by simp, by simp, h1, fun k => ?_, by simp⟩
  refine fun hk => ⟨?_, rfl⟩
  induction k with
  | zero => simp
  | succ k ih =>
    have h2 := (h1 k hk).1
    have h3 := hn ls[k] (List.getElem_mem hk)
    have h4 := ih (by omega)
    dsimp only at h2 h4 ⊢
    rw [h2, Nat.mul_add]
    omega
theorem v_bGrow {n : Nat} (hn : n ≤ 100000000) : AO 105 [.lit (.slice none 0 0), i6 n] 1 [] := by
  intro H
  refine v_enter hC [] (fun _ _ => kn_none rfl) Try.func105 rfl ok105 (Nat.le_of_ble_eq_true rfl) fun hcl hbl => ?_
  simp
  refine CondV.dec (fun h => by omega) (fun h => ?_)
  simp [w64 (n := (n : Int)) (by omega), w64 (n := (0 : Int)) (by omega)]
  refine CondV.dec (fun h => ?_) (fun h => ?_)
  · simp [bounds, h, Try.results105]
    exact ⟨by omega, GV.own hcl (List.getElem?_concat_length ..) (Nat.le_refl _) (by simp) (by simp) ⟨_, _, rfl, rfl⟩⟩
  · simp [Try.results105]
    exact GV.nil0 hcl (by omega) (by omega) ⟨_, _, rfl, rfl⟩
theorem v_bConcat {kk : Bool} {ls : List (Bool × List (List V))} (hs : ∀ p ∈ ls, RowsOk 1 p.2) (hp : ∀ p ∈ ls, PureR p.2) (hl : ls.length ≤ 1000) (hn : ∀ p ∈ ls, p.2.length ≤ 100000) : AO 69 [.fsl kk 1 (ls.map fun p => [.fsl p.1 1 p.2])] 1 (ls.map (·.2)).flatten := by
  intro H
  refine v_enter hC [] (fun _ _ => kn_none rfl) Try.func69 rfl ok69 (Nat.le_of_ble_eq_true rfl) fun hcl hbl => ?_
  simp
  obtain ⟨S, F, s0, f0, hk1, hk2, hF⟩ := parts hn
  rw [← hF]
  have get : ∀ {k : Nat} (h : k < ls.length), ls[k]? = some ls[k] := fun h => List.getElem?_eq_getElem h
  refine v_loopX hC (fun (k : Nat) e T => T = H ∧ e 0 = .fsl kk 1 (ls.map fun p => [.fsl p.1 1 p.2]) ∧ e 3 = i6 (S k) ∧ e 9 = e 0 ∧ e 10 = i6 ls.length ∧ e 11 = i6 k ∧ k ≤ ls.length) (fun k => ls.length - k) 0 (G.refl ?_) ?_
  · simp [s0]
  · rintro k e T ⟨rfl, h0, h3, h9, h10, h11, hk⟩
    have b1 := hk2 k hk
    simp [h0, h3, h9, h10, h11]
    refine CondV.dec (fun hlt => ?_) (fun hge => ?_)
    · have b2 := hk1 k hlt
      have b3 := hn ls[k] (List.getElem_mem hlt)
      simp [h0, h3, h9, h10, h11, get hlt, w64 (n := (S k : Int) + ls[k].2.length) (by omega)]
      refine CondV.dec (fun h => by omega) (fun h => ?_)
      simp [h0, h3, h9, h10, h11, w64 (n := (k : Int) + 1) (by omega)]
      refine GH.refl ⟨k + 1, ⟨rfl, ?_, ?_, ?_, ?_, ?_, hlt⟩, by omega⟩ <;> simp [h0, h9, h10, b2.1]
    · have hke : k = ls.length := by omega
      subst hke
      simp [h3]
      refine (v_bGrow (by omega)).call fun w t => ?_
      simp [h0]
      refine v_loopX hC (fun (k : Nat) e U => ∃ w t, U = T ++ [.vec w (F k) 1 true t] ∧ e 6 = .own T.length w ∧ e 25 = .fsl kk 1 (ls.map fun p => [.fsl p.1 1 p.2]) ∧ e 26 = i6 ls.length ∧ e 27 = i6 k ∧ k ≤ ls.length) (fun k => ls.length - k) 0 (G.refl ?_) ?_
      · exact ⟨w, t, by simp [f0]⟩
      · rintro k e U ⟨w, t, rfl, h6, h25, h26, h27, hk⟩
        have b1 := hk2 k hk
        simp [h6, h25, h26, h27]
        refine CondV.dec (fun hlt => ?_) (fun hge => ?_)
        · have b2 := hk1 k hlt
          have b3 := hn ls[k] (List.getElem_mem hlt)
          simp [h6, h25, h26, h27, get hlt, hs ls[k] (List.getElem_mem hlt)]
          refine ⟨by omega, ?_⟩
          simp [h6, h25, h26, h27, w64 (n := (k : Int) + 1) (by omega)]
          refine GH.refl ⟨k + 1, ⟨w + 1, t, ?_, ?_, ?_, ?_, ?_, hlt⟩, by omega⟩ <;> simp [h25, h26, b2.2]
        · have hke : k = ls.length := by omega
          subst hke
          simp [h6, Try.results69]
          refine GV.own hcl (List.getElem?_concat_length ..) (Nat.le_refl _) ?_ ?_ ⟨_, _, rfl, rfl⟩
          · rw [hF]; intro r hr
            obtain ⟨l, hl, hr⟩ := List.mem_flatten.1 hr
            obtain ⟨p, hp, rfl⟩ := List.mem_map.1 hl
            exact hs p hp r hr
          · rw [hF]; intro r hr
            obtain ⟨l, hl, hr⟩ := List.mem_flatten.1 hr
            obtain ⟨p, hp', rfl⟩ := List.mem_map.1 hl
            exact hp p hp' r hr
/-- Bytes, one behind the other. -/
theorem v_bCat {kk : Bool} {ls : List (Bool × List Int)} (hl : ls.length ≤ 1000) (hn : ∀ p ∈ ls, p.2.length ≤ 100000) : A 69 [.fsl kk 1 (ls.map fun p => [BS p.1 p.2])] (BS true (ls.map (·.2)).flatten) := by
  have h := (v_bConcat (kk := kk) (ls := ls.map fun p => (p.1, p.2.map bc)) (fun p hp => by
    obtain ⟨q, _, rfl⟩ := List.mem_map.1 hp
    intro r hr
    obtain ⟨x, _, rfl⟩ := List.mem_map.1 hr
    exact ⟨rfl, rfl⟩) (fun p hp => by
    obtain ⟨q, _, rfl⟩ := List.mem_map.1 hp
    exact PureR_map.2 (by simp)) (by simpa using hl) (fun p hp => by
    obtain ⟨q, hq, rfl⟩ := List.mem_map.1 hp
    simpa using hn q hq)).fro (by
    intro r hr
    obtain ⟨l, hl, hr⟩ := List.mem_flatten.1 hr
    obtain ⟨p, hp, rfl⟩ := List.mem_map.1 hl
    obtain ⟨q, _, rfl⟩ := List.mem_map.1 hp
    obtain ⟨x, _, rfl⟩ := List.mem_map.1 hr
    rfl) true
  have e1 : (List.map (fun p : Bool × List (List V) => [V.fsl p.1 1 p.2]) (ls.map fun p => (p.1, p.2.map bc))) = ls.map fun p => [BS p.1 p.2] := by rw [List.map_map]; rfl
  have e2 : ((ls.map fun p => (p.1, p.2.map bc)).map (·.2)).flatten = ((ls.map (·.2)).flatten).map bc := by
    rw [List.map_map, List.map_flatten, List.map_map]; rfl
  rw [e1, e2] at h
  exact h
theorem v_PutO {kk : Bool} {l : List Int} (hl : l.length ≤ 10000) (hr : ∀ n ∈ l, n < 9223372036854775808) (hnn0 : ∀ n ∈ l, 0 ≤ n) : AO 70 [IS kk l] 1 ((vencs l).map bc) := by
  intro H
  refine v_enter hC [] (fun _ _ => kn_none rfl) Try.func70 rfl ok70 (Nat.le_of_ble_eq_true rfl) fun hcl hbl => ?_
  simp
  have get : ∀ {k : Nat} (h : k < l.length), l[k]? = some l[k] := fun h => List.getElem?_eq_getElem h
  refine v_loopX hC (fun (k : Nat) e T => ∃ w t, T = H ++ [.vec w ((vencs (l.take k)).map bc) 1 true t] ∧ e 3 = .own H.length w ∧ e 6 = IS kk l ∧ e 7 = i6 l.length ∧ e 8 = i6 k ∧ k ≤ l.length ∧ ∀ n ∈ l.take k, 0 ≤ n) (fun k => l.length - k) 0 ?_ ?_
  · refine G.nilT0 (s := 1) 3 hcl (Nat.le_refl _) (by omega) (by simp) ?_
    exact ⟨0, true, by simp [vencs], by simp, by simp, by simp, by simp, by simp, by simp⟩
  · rintro k e T ⟨w, t, rfl, h3, h6, h7, h8, hk, hpos⟩
    simp [h3, h6, h7, h8]
    refine CondV.dec (fun hlt => ?_) (fun hge => ?_)
    · simp [h3, h6, h7, h8, get hlt]
      have hrk := hr l[k] (List.getElem_mem hlt)
      refine CondV.dec (fun hneg => ?_) (fun hnn => ?_)
      · have := hnn0 l[k] (List.getElem_mem hlt); omega
      · obtain ⟨n, hln⟩ : ∃ n : Nat, l[k] = n := ⟨l[k].toNat, by omega⟩
        have hw : IntKind.u64.wrap l[k] = (n : Int) := by simp [IntKind.wrap, IntKind.bits, IntKind.signed]; omega
        have hlen : (vencs (l.take k)).length ≤ 100000 := by
          have := vencs_length (l.take k)
          rw [List.length_take] at this
          omega
        simp [h3, hw]
        refine CALLv.at (v_put (n := n) (rows := (vencs (l.take k)).map bc) (List.getElem?_concat_length ..) (by simp) (by simp; omega) (by omega)) fun u T' hu => ?_
        obtain ⟨w2, e1, e2⟩ := hu
        subst e1; subst e2
        simp [h3, h6, h7, h8, w64 (n := (k : Int) + 1) (by omega)]
        refine GH.refl ⟨k + 1, ⟨w2, t, ?_, ?_, ?_, ?_, ?_, hlt, ?_⟩, by omega⟩ <;> (try simp [h6, h7])
        · rw [List.take_succ_eq_append_getElem hlt, vencs_append]
          simp [vencs, hln]
        · rw [List.take_succ_eq_append_getElem hlt]
          intro n hn
          rcases List.mem_append.1 hn with hn | hn
          · exact hpos n hn
          · simp at hn; subst hn; omega
    · have ht : l.take k = l := List.take_of_length_le (by omega)
      rw [ht]
      simp [h3, Try.results70]
      exact GV.own hcl (List.getElem?_concat_length ..) (Nat.le_refl _) (fun r hr => by obtain ⟨x, _, rfl⟩ := List.mem_map.1 hr; exact ⟨rfl, rfl⟩) (PureR_map.2 (by simp)) ⟨_, _, rfl, rfl⟩
end Go.Proofs.Ytldhfdagmaklaaa.VM
end
section
set_option maxHeartbeats 8000000
set_option linter.unusedVariables false
set_option linter.unusedSimpArgs false
/- crc: steps, told, Add, Sum, low, Mark. -/
namespace Go.Proofs.Ytldhfdagmaklaaa.VM
open Go Go.Proofs AM B
set_option maxRecDepth 100000
def u4 (n : Nat) : V := .lit (.int .u32 n)
attribute [simp] u4
/-- The table, so far. -/
def tabC (k : Nat) : List V := (List.range 256).map fun i => u4 (if i < k then crI 8 i else 0)
@[simp] theorem tabC_len (k : Nat) : (tabC k).length = 256 := by simp [tabC]
def z256 : List Value := (List.range 256).map fun _ => .int .u32 0
theorem lc256 : litCells z256 = some (tabC 0) := by kernel_rfl
theorem tabC_set {k : Nat} (h : k < 256) : (tabC k).set k (u4 (crI 8 k)) = tabC (k + 1) := by
  apply List.ext_getElem (by simp [tabC])
  intro i h1 h2
  rw [List.getElem_set]
  simp only [tabC, List.getElem_map, List.getElem_range]
  by_cases hi : k = i
  · subst hi; simp
  · rw [if_neg hi]
    by_cases h3 : i < k
    · simp [h3, show i < k + 1 by omega]
    · simp [h3, show ¬ i < k + 1 by omega]
theorem tabC_put {k : Nat} (h : k < 256) : List.take k (tabC k) ++ V.lit (.int .u32 (crI 8 k)) :: List.drop (k + 1) (tabC k) = tabC (k + 1) := by
  rw [← tabC_set h, List.set_eq_take_append_cons_drop, if_pos (by simp; omega)]
  rfl
@[simp] theorem tabC_take {k : Nat} : List.take 256 (tabC k) = tabC k := List.take_of_length_le (by simp)
theorem tabC_cell {k : Nat} : ∀ x ∈ tabC k, x.isCell = true := by
  intro x hx
  simp only [tabC, List.mem_map] at hx
  obtain ⟨i, _, rfl⟩ := hx
  rfl
theorem tabC_pure {k : Nat} : pureVs (tabC k) = true := by
  unfold tabC
  generalize List.range 256 = l
  induction l with
  | nil => rfl
  | cons a l ih => rw [List.map_cons]; simpa [pureVs, pureV] using ih
theorem tabC_at {i : Nat} (h : i < 256) : (tabC 256)[i]? = some (u4 (crI 8 i)) := by simp [tabC, h]
theorem ze256 : zerosOf Try.prog 198 1 = some z256 := by kernel_rfl
@[simp ↓] theorem al256 {H : Hp} {n : Nat} : ((zerosOf Try.prog 198 1).bind fun zs => (litCells zs).map fun cs => (V.ptr n 0, H ++ [Ob.mem cs true])) = some (V.ptr n 0, H ++ [Ob.mem (tabC 0) true]) := by
  rw [ze256, Option.bind_some, lc256, Option.map_some]
theorem v_steps : A 135 [] (.agg (tabC 256)) := by
  intro H
  refine v_enter hC [] (fun _ _ => kn_none rfl) Try.func135 rfl ok135 (Nat.le_of_ble_eq_true rfl) fun hcl hbl => ?_
  simp

  refine v_loopX hC (fun (k : Nat) e T => T = H ++ [.mem (tabC 0) true, .mem (tabC k) true] ∧ e 0 = .ptr H.length 0 ∧ e 1 = .ptr (H.length + 1) 0 ∧ e 5 = i6 k ∧ k ≤ 256) (fun k => 256 - k) 0 (G.refl ?_) ?_
  · simp
  · rintro k e T ⟨rfl, h0, h1, h5, hk⟩
    simp [h5]
    refine CondV.dec (fun hlt => ?_) (fun hge => ?_)
    · have hlt : k < 256 := by omega
      have hw := wrap32 (n := k) (by omega)
      simp [h0, h1, h5, hw]
      refine v_loopX hC (fun (j : Nat) e T => T = H ++ [.mem (tabC 0) true, .mem (tabC k) true] ∧ e 0 = .ptr H.length 0 ∧ e 1 = .ptr (H.length + 1) 0 ∧ e 5 = i6 k ∧ e 2 = i6 k ∧ e 3 = u4 (crI j k) ∧ e 10 = i6 j ∧ j ≤ 8) (fun j => 8 - j) 0 (G.refl ?_) ?_
      · simp [crI, h0, h1, h5]
      · rintro j e T ⟨rfl, h0, h1, h5, h2, h3, h10, hj⟩
        have hr := crI_lt (r := k) (by omega) j
        simp [h10]
        refine CondV.dec (fun hlt2 => ?_) (fun hge2 => ?_)
        · have hl := u32_low hr
          have hp : bits BinOp.xor IntKind.u32 ((crI j k : Int) / 2) 2197175160 = ((crI j k / 2 ^^^ 2197175160 : Nat) : Int) := by rw [show ((crI j k : Int) / 2) = ((crI j k / 2 : Nat) : Int) by omega]; exact u32_pol (by omega)
          have hf : ((crI j k : Nat) : Int).fdiv (2 ^ min 1 IntKind.u32.bits) = ((crI j k / 2 : Nat) : Int) := u32_sh _ 1
          simp [h0, h1, h2, h3, h5, h10, hl, hf]
          have h2e : crI j k % 2 = 0 ∨ crI j k % 2 = 1 := by omega
          refine CondV.dec (fun h => ?_) (fun h => ?_)
          · have h : crI j k % 2 = 1 := by omega
            have hc : crI (j + 1) k = crI j k / 2 ^^^ 2197175160 := by simp only [crI]; unfold cr1; rw [if_pos h]
            simp [h0, h1, h2, h5, h10, hp, w64 (n := (j : Int) + 1) (by omega)]
            refine GH.refl ⟨j + 1, ⟨rfl, ?_, ?_, ?_, ?_, ?_, ?_, by omega⟩, by omega⟩ <;> simp [h0, h1, h2, h5, hc]
          · have h : ¬ crI j k % 2 = 1 := by omega
            have hc : crI (j + 1) k = crI j k / 2 := by simp only [crI]; unfold cr1; rw [if_neg h]
            simp [h0, h1, h2, h5, h10, hp, w64 (n := (j : Int) + 1) (by omega)]
            refine GH.refl ⟨j + 1, ⟨rfl, ?_, ?_, ?_, ?_, ?_, ?_, by omega⟩, by omega⟩ <;> simp [h0, h1, h2, h5, hc]
        · have hj8 : j = 8 := by omega
          subst hj8
          have hst := tabC_set hlt
          simp [h0, h1, h2, h3, h5, hlt, w64 (n := (k : Int) + 1) (by omega)]
          refine ⟨by omega, GH.refl ⟨k + 1, ⟨?_, ?_, ?_, ?_, by omega⟩, by omega⟩⟩
          · rw [tabC_put hlt]
          · simp [h0]
          · simp [h1]
          · simp
    · have hk6 : k = 256 := by omega
      subst hk6
      simp [h0, h1, Try.results135]
      refine ⟨tabC_cell, ?_⟩
      refine GV.ans hcl ?_
      simp
      exact Ups.self (pures_bel tabC_pure)
/-- The table at a place. -/
theorem tabV_at {x : Nat} (h : x < 256) : (tabC 256)[x]? = some (u4 (crI 8 x)) := tabC_at h
theorem xor_ones {r : Nat} (h : r < 4294967296) : 4294967295 ^^^ r = 4294967295 - r := by
  apply Nat.eq_of_testBit_eq
  intro i
  rw [Nat.testBit_xor, show (4294967295 : Nat) = 2 ^ 32 - 1 from rfl, Nat.testBit_two_pow_sub_one, show 2 ^ 32 - 1 - r = 2 ^ 32 - (r + 1) by omega, Nat.testBit_two_pow_sub_succ h]
  by_cases hi : i < 32
  · simp [hi]
  · simp [hi]
    exact Nat.testBit_lt_two_pow (Nat.lt_of_lt_of_le h (show 4294967296 ≤ 2 ^ i from Nat.pow_le_pow_right (n := 2) (by decide) (show 32 ≤ i by omega)))
theorem u32_not {r : Nat} (h : r < 4294967296) : bits BinOp.xor IntKind.u32 (if IntKind.u32.signed = true then -1 else IntKind.u32.max) (r : Int) = ((4294967295 - r : Nat) : Int) := by
  have := u32_xor (a := 4294967295) (by decide) h
  rw [xor_ones h] at this
  exact this
theorem u8_at {q : Nat} {c : Int} (hc : 0 ≤ c ∧ c ≤ 255) : bits BinOp.xor IntKind.u8 (IntKind.u8.wrap (q : Int)) c = ((q % 256 ^^^ c.toNat : Nat) : Int) := by
  have h := u8_xor (a := q % 256) (b := c.toNat) (by omega) (by omega)
  rw [show ((c.toNat : Nat) : Int) = c by omega] at h
  rw [← h]
  congr 1
theorem v_told {H : Hp} {g r : Nat} {ra kk kb : Bool} {l : List Int} (hg : H[g]? = some (.mem (tabC 256) ra)) (hr : r < 4294967296) (hl : l.length < 2 ^ 48) (hb : ∀ x ∈ l, 0 ≤ x ∧ x ≤ 255) :
    VC Try.prog prims 136 [u4 r, .ptr g 0, .fsl kk 1 [[BS kb l]]] H fun u T => u = u4 (4294967295 - crF (4294967295 - r) l) ∧ T = H := by
  refine v_enter hC [] (fun _ _ => kn_none rfl) Try.func136 rfl ok136 (Nat.le_of_ble_eq_true rfl) fun hcl hbl => ?_
  have hn := u32_not hr
  obtain ⟨r0, hr0⟩ : ∃ r0, 4294967295 - r = r0 := ⟨_, rfl⟩
  have hr0l : r0 < 4294967296 := by omega
  rw [hr0] at hn ⊢
  simp [hn]
  refine v_loopX hC (fun (k : Nat) e T => T = H ∧ e 1 = .ptr g 0 ∧ e 14 = .fsl kk 1 [[BS kb l]] ∧ e 15 = i6 1 ∧ e 16 = i6 k ∧ k ≤ 1 ∧ e 7 = u4 (if k = 0 then r0 else crF r0 l)) (fun k => 1 - k) 0 (G.refl ?_) ?_
  · simp
  · rintro k e T ⟨rfl, h1, h14, h15, h16, hk, h7⟩
    simp [h15, h16]
    refine CondV.dec (fun hlt => ?_) (fun hge => ?_)
    · have hk0 : k = 0 := by omega
      subst hk0
      simp [h1, h14, h15, h16] at h7 ⊢
      refine v_loopX hC (fun (j : Nat) e U => U = T ∧ e 1 = .ptr g 0 ∧ e 14 = .fsl kk 1 [[BS kb l]] ∧ e 15 = i6 1 ∧ e 16 = i6 0 ∧ e 20 = BS kb l ∧ e 21 = i6 l.length ∧ e 22 = i6 j ∧ j ≤ l.length ∧ e 7 = u4 (crF r0 (l.take j))) (fun j => l.length - j) 0 (G.refl ?_) ?_
      · simp [h1, h14, h15, h16, h7, crF]
      · rintro j e U ⟨rfl, h1, h14, h15, h16, h20, h21, h22, hj, h7⟩
        simp [h21, h22]
        refine CondV.dec (fun hlt => ?_) (fun hge => ?_)
        · have hlt : j < l.length := by omega
          obtain ⟨c, hc⟩ : ∃ c, l[j] = c := ⟨_, rfl⟩
          have hget : l[j]? = some c := by rw [List.getElem?_eq_getElem hlt, hc]
          have hcb := hb c (hc ▸ List.getElem_mem hlt)
          have htk : crF r0 (l.take (j + 1)) = crB (crF r0 (l.take j)) c := by rw [List.take_succ_eq_append_getElem hlt, hc, crF_snoc]
          have hql := crF_lt (l := l.take j) hr0l (fun x hx => hb x (List.mem_of_mem_take hx))
          generalize crF r0 (l.take j) = q at *
          have hu := u8_at (q := q) hcb
          have hx := xor8 (a := q % 256) (b := c.toNat) (by omega) (by omega)
          have hcr : crB q c = crI 8 (q % 256 ^^^ c.toNat) ^^^ (q / 256) := rfl
          generalize q % 256 ^^^ c.toNat = x at hu hx hcr
          have hxl := crI_lt (r := x) (by omega) 8
          have hf : (q : Int).fdiv (2 ^ min 8 IntKind.u32.bits) = ((q / 256 : Nat) : Int) := u32_sh q 8
          have hxx := u32_xor hxl (b := q / 256) (by omega)
          rw [← hcr] at hxx
          have hxl2 : x < (tabC 256).length := by simp; omega
          have hat : (tabC 256)[x] = u4 (crI 8 x) := by have := tabV_at hx; rw [List.getElem?_eq_getElem hxl2] at this; simpa using this
          have hxx : bits BinOp.xor IntKind.u32 (crI 8 x : Nat) ((q : Int) / 256) = (crB q c : Nat) := by rw [← hxx]; congr 1
          simp [h1, h7, h20, h21, h22, hget, hu, hx, hg, hat, hf, show x ≤ 256 by omega, hxx, w64 (n := (j : Int) + 1) (by omega)]
          refine GH.refl ⟨j + 1, ⟨rfl, ?_, ?_, ?_, ?_, ?_, ?_, ?_, by omega, ?_⟩, by omega⟩ <;> simp [h1, h14, h15, h16, h20, h21, htk]
        · have hjl : l.take j = l := List.take_of_length_le (by omega)
          rw [hjl] at h7
          simp [h16]
          refine GH.refl ⟨1, ⟨rfl, ?_, ?_, ?_, ?_, by omega, ?_⟩, by omega⟩
          · simp [h1]
          · simp [h14]
          · simp [h15]
          · rfl
          · simp [h7]
    · have hk1 : k = 1 := by omega
      subst hk1
      have hq := crF_lt (l := l) hr0l hb
      have hn2 := u32_not hq
      simp [h7, hn2, Try.results136]
      first | (refine GV.ans hcl ?_; simp []; done) | (refine GV.ans0 ?_; simp []; done)
end Go.Proofs.Ytldhfdagmaklaaa.VM
end
section
set_option maxHeartbeats 8000000
set_option linter.unusedVariables false
set_option linter.unusedSimpArgs false
/- crc: Add, Sum, low, Mark. -/
namespace Go.Proofs.Ytldhfdagmaklaaa.VM
open Go Go.Proofs AM B
set_option maxRecDepth 100000
@[simp] theorem tabC_drop {k : Nat} : List.drop 256 (tabC k) = [] := List.drop_of_length_le (by simp)
@[simp] theorem tabC_all {k : Nat} : (tabC k).all V.isCell = true := List.all_eq_true.2 tabC_cell
theorem v_crAdd {H : Hp} {g a n : Nat} {kk kb : Bool} {l : List Int} (hg : H[g]? = some (.mem [u4 a, i6 n] true)) (ha : a < 4294967296) (hl : l.length < 2 ^ 40) (hn : n < 2 ^ 40) (hb : ∀ x ∈ l, 0 ≤ x ∧ x ≤ 255) :
    VC Try.prog prims 125 [.ptr g 0, .fsl kk 1 [[BS kb l]]] H fun u T => u = .ptr g 0 ∧ T = H.set g (.mem [u4 (4294967295 - crF (4294967295 - a) l), i6 ((n + l.length : Nat) : Int)] true) := by
  refine v_enter hC [] (fun _ _ => kn_none rfl) Try.func125 rfl ok125 (Nat.le_of_ble_eq_true rfl) fun hcl hbl => ?_
  have hgl := get_lt hg
  simp
  refine v_steps.call ?_
  have hgX : ∀ X, (H ++ X)[g]? = some (.mem [u4 a, i6 n] true) := fun X => by rw [List.getElem?_append_left hgl, hg]
  have hst : ∀ X y, (H ++ X).set g y = H.set g y ++ X := fun X y => List.set_append_left _ _ hgl
  have hsg : ∀ X y, (H.set g y ++ X)[g]? = some y := fun X y => by rw [List.getElem?_append_left (by simpa using hgl), List.getElem?_set_self hgl]
  simp [hgX]
  refine CALLv.at (v_told (g := H.length) (kk := kk) (kb := kb) (l := l) (List.getElem?_concat_length ..) ha (by omega) hb) fun u T hu => ?_
  obtain ⟨e1, e2⟩ := hu
  subst e1; subst e2
  have hs2 : ∀ X y z, (H.set g y ++ X).set g z = H.set g z ++ X := fun X y z => by rw [List.set_append_left _ _ (by simpa using hgl), List.set_set]
  simp [hgX, hst, hsg]
  refine v_once hC ?_
  simp [hgX, hst, hsg, hs2, w64 (n := (n : Int) + l.length) (by omega)]
  refine v_once hC ?_
  simp [hgX, hst, hsg, show IntKind.i64.wrap 1 = 1 from rfl, Try.results125]
  have h := GV.ret (H := H.set g (.mem [u4 (4294967295 - crF (4294967295 - a) l), i6 ((n + l.length : Nat) : Int)] true)) (X := [.mem (tabC 256) true]) (x := .ptr g 0) (R := fun u T => u = .ptr g 0 ∧ T = H.set g (.mem [u4 (4294967295 - crF (4294967295 - a) l), i6 ((n + l.length : Nat) : Int)] true)) (.ptr g 0) (Cl.set hcl (by simp [Ob.bel, Bels, Bel])) (by simp [hgl]) ⟨rfl, rfl⟩
  rw [List.length_set] at h
  simp at h
  exact h
theorem v_low {n : Nat} (hn : n < 4294967296) : A 114 [u4 n] (BS true (low4 n)) := by
  intro H
  refine v_enter hC [] (fun _ _ => kn_none rfl) Try.func114 rfl ok114 (Nat.le_of_ble_eq_true rfl) fun hcl hbl => ?_
  have h1 : (n : Int).fdiv (2 ^ min 8 IntKind.u32.bits) = ((n / 256 : Nat) : Int) := u32_sh n 8
  have h2 : (n : Int).fdiv (2 ^ min 16 IntKind.u32.bits) = ((n / 65536 : Nat) : Int) := u32_sh n 16
  have h3 : (n : Int).fdiv (2 ^ min 24 IntKind.u32.bits) = ((n / 16777216 : Nat) : Int) := u32_sh n 24
  have hw : ∀ m : Int, IntKind.u8.wrap m = m % 256 := fun m => by simp [IntKind.wrap, IntKind.bits, IntKind.signed]
  simp [h1, h2, h3, hw, Try.results114]
  first | (refine GV.ans hcl ?_; simp [low4]; done) | (refine GV.ans0 ?_; simp [low4]; done)
theorem v_value {n : Nat} : A 137 [u4 n] (u4 n) := by
  intro H
  refine v_enter hC [] (fun _ _ => kn_none rfl) Try.func137 rfl ok137 (Nat.le_of_ble_eq_true rfl) fun hcl hbl => ?_
  simp [Try.results137]
  first | (refine GV.ans hcl ?_; simp []; done) | (refine GV.ans0 ?_; simp []; done)
theorem v_regSum {H : Hp} {g n : Nat} {x : V} {ra : Bool} (hg : H[g]? = some (.mem [u4 n, x] ra)) : VC Try.prog prims 126 [.ptr g 0] H fun u T => u = u4 n ∧ T = H := by
  refine v_enter hC [] (fun _ _ => kn_none rfl) Try.func126 rfl ok126 (Nat.le_of_ble_eq_true rfl) fun hcl hbl => ?_
  simp [hg]
  refine v_value.call ?_
  simp [Try.results126]
  exact GV.refl ⟨rfl, rfl⟩
theorem v_crSum {kk kb : Bool} {l : List Int} (hl : l.length < 2 ^ 40) (hb : ∀ x ∈ l, 0 ≤ x ∧ x ≤ 255) : A 115 [.fsl kk 1 [[BS kb l]]] (u4 (crcS l)) := by
  intro H
  refine v_enter hC [] (fun _ _ => kn_none rfl) Try.func115 rfl ok115 (Nat.le_of_ble_eq_true rfl) fun hcl hbl => ?_
  simp
  refine CALLv.at (v_crAdd (g := H.length) (a := 0) (n := 0) (kk := kk) (kb := kb) (l := l) (List.getElem?_concat_length ..) (by omega) hl (by omega) hb) fun u T hu => ?_
  obtain ⟨e1, e2⟩ := hu
  subst e1; subst e2
  simp
  refine CALLv.at (v_regSum (g := H.length) (n := crcS l) (x := i6 l.length) (ra := true) (by simp [crcS])) fun u T hu => ?_
  obtain ⟨e1, e2⟩ := hu
  subst e1; subst e2
  simp [Try.results115]
  first | (refine GV.ans hcl ?_; simp []; done) | (refine GV.ans0 ?_; simp []; done)
theorem v_Mark {kb : Bool} {l : List Int} (hl : l.length ≤ 90000) (hb : ∀ x ∈ l, 0 ≤ x ∧ x ≤ 255) : A 94 [BS kb l] (BS true (markB l)) := by
  intro H
  refine v_enter hC [] (fun _ _ => kn_none rfl) Try.func94 rfl ok94 (Nat.le_of_ble_eq_true rfl) fun hcl hbl => ?_
  simp
  refine (v_crSum (kk := true) (kb := kb) (l := l) (by omega) hb).callU [.fsl true 1 [[BS kb l]]] (by simp) ?_
  simp
  refine (v_low (crcS_lt l)).call ?_
  simp
  refine (v_bCat (kk := true) (ls := [(kb, l), (true, low4 (crcS l))]) (by simp) (by simp [low4]; omega)).callU [.fsl true 1 [[BS kb l], [BS true (low4 (crcS l))]]] (by simp) ?_
  simp [Try.results94]
  first | (refine GV.ans hcl ?_; simp [markB]; done) | (refine GV.ans0 ?_; simp [markB]; done)
end Go.Proofs.Ytldhfdagmaklaaa.VM
end
section
set_option maxHeartbeats 8000000
set_option linter.unusedVariables false
set_option linter.unusedSimpArgs false
/- batch: documents, operations, Record; what a nil batch answers. -/
namespace Go.Proofs.Ytldhfdagmaklaaa.VM
open Go Go.Proofs AM B
set_option maxRecDepth 100000
structure Dc where
  id : Int
  b : List Int
deriving DecidableEq, Inhabited
def dcK (k : Bool) (d : Dc) : List V := [i6 d.id, BS k d.b]
abbrev dc (d : Dc) : List V := dcK true d
attribute [simp] dcK
/-- A slice of documents. -/
def DS (k : Bool) (l : List Dc) : V := .fsl k 2 (l.map dc)
attribute [simp] DS
def docAt (l : List Dc) (j : Nat) : Dc := l.getD j ⟨0, []⟩
theorem docAt_eq (l : List Dc) (j : Nat) (h : j < l.length) : docAt l j = l[j] := by simp [docAt, h]
theorem getD_ {l : List Dc} {k : Nat} (h : k < l.length) : l[k]? = some (docAt l k) := by rw [List.getElem?_eq_getElem h, docAt_eq l k h]
/-- What Check says of a document. -/
def dchk (d : Dc) : Int := if d.id < 1 ∨ 65535 < d.id then 1 else if 1024 < d.b.length then 2 else 0
theorem v_dCheck {kk : Bool} {d : Dc} : A 83 [.agg (dcK kk d)] (i6 (dchk d)) := by
  intro H
  refine v_enter hC [] (fun _ _ => kn_none rfl) Try.func83 rfl ok83 (Nat.le_of_ble_eq_true rfl) fun hcl hbl => ?_
  by_cases h1 : d.id < 1
  · simp [h1, Try.results83]
    first | (refine GV.ans hcl ?_; simp [dchk, h1]; done) | (refine GV.ans0 ?_; simp [dchk, h1]; done)
  · by_cases h2 : 65535 < d.id
    · simp [h1, h2, Try.results83]
      first | (refine GV.ans hcl ?_; simp [dchk, h1, h2]; done) | (refine GV.ans0 ?_; simp [dchk, h1, h2]; done)
    · simp [h1, h2]
      refine CondV.dec (fun h3 => ?_) (fun h3 => ?_)
      · have h3 : 1024 < d.b.length := by omega
        simp [Try.results83]
        first | (refine GV.ans hcl ?_; simp [dchk, h1, h2, h3]; done) | (refine GV.ans0 ?_; simp [dchk, h1, h2, h3]; done)
      · have h3 : ¬ 1024 < d.b.length := by omega
        simp [Try.results83]
        first | (refine GV.ans hcl ?_; simp [dchk, h1, h2, h3]; done) | (refine GV.ans0 ?_; simp [dchk, h1, h2, h3]; done)
theorem UpR.app {n : Nat} {L E : List Nat} {H1 : Hp} : ∀ {a a' b b' : List (List V)}, UpR n L E H1 a a' → UpR n L E H1 b b' → UpR n L E H1 (a ++ b) (a' ++ b')
  | [], _, _, _, h, h' => by simp only [UpR] at h; subst h; exact h'
  | r :: rs, _, _, _, h, h' => by
    simp only [UpR] at h
    obtain ⟨u, us, rfl, h1, h2⟩ := h
    exact ⟨u, us ++ _, rfl, h1, UpR.app h2 h'⟩
theorem bounds_hi {n L : Nat} (h : n ≤ L) : bounds L L none (some (n : Int)) none = some (0, n, L) := by
  simp [bounds]; omega
/-- An operation. -/
structure Oc where
  del : Bool
  id : Int
  b : List Int
deriving DecidableEq, Inhabited
def ocK (k : Bool) (o : Oc) : List V := [bo o.del, i6 o.id, BS k o.b]
abbrev oc (o : Oc) : List V := ocK true o
attribute [simp] ocK
def OS (k : Bool) (l : List Oc) : V := .fsl k 3 (l.map oc)
def OSf (k : Bool) (l : List (Bool × Oc)) : V := .fsl k 3 (l.map fun p => ocK p.1 p.2)
attribute [simp] OS OSf
def cutO (o : Oc) : Oc := ⟨o.del, o.id, o.b.take 1100⟩
theorem v_oTo {kk : Bool} {l : List (Bool × Oc)} {most : Nat} (hm : most ≤ 1000) (hl : l.length < 2 ^ 63) (hb : ∀ p ∈ l, p.2.b.length < 2 ^ 63) : A 15 [OSf kk l, i6 most] (OS true ((l.take most).map fun p => cutO p.2)) := by
  intro H
  refine v_enter hC [] (fun _ _ => kn_none rfl) Try.func15 rfl ok15 (Nat.le_of_ble_eq_true rfl) fun hcl hbl => ?_
  simp
  refine v_loopX hC (fun (k : Nat) e T => ∃ w t, T = H ++ [.vec w ((((l.take k).map fun p => cutO p.2)).map oc) 3 true t] ∧ e 0 = OSf kk l ∧ e 5 = .own H.length w ∧ e 6 = i6 k ∧ e 1 = i6 most ∧ k ≤ l.length ∧ k ≤ most) (fun k => l.length - k) 0 ?_ ?_
  · refine G.nilT0 (s := 3) 5 hcl (Nat.le_refl _) (by omega) (by simp) ?_
    exact ⟨0, true, by simp, by simp, by simp, by simp, by simp, by simp, by simp⟩
  · rintro k e T ⟨w, t, rfl, h0, h5, h6, h1, hk, hk3⟩
    simp [h0, h6, h1]
    have done : (¬ (k : Int) < l.length ∨ ¬ (k : Int) < most) → l.take most = l.take k := fun h => by
      rcases h with h | h
      · rw [List.take_of_length_le (by omega), List.take_of_length_le (by omega)]
      · rw [show k = most by omega]
    refine GuardR.dec (fun hlt => ?_) (fun hge => ?_)
    · simp [h6, h1, hlt]
      have hlt : k < l.length := by omega
      refine CondV.dec (fun h3k => ?_) (fun h3k => ?_)
      · obtain ⟨p, hp⟩ : ∃ p, l[k] = p := ⟨_, rfl⟩
        have hget : l[k]? = some p := by rw [List.getElem?_eq_getElem hlt, hp]
        have hpb := hb p (hp ▸ List.getElem_mem hlt)
        have hbd : bounds p.2.b.length p.2.b.length none (some (if 1100 < (p.2.b.length : Int) then 1100 else (p.2.b.length : Int))) none = some (0, min p.2.b.length 1100, p.2.b.length) := by
          rw [show (if 1100 < (p.2.b.length : Int) then 1100 else (p.2.b.length : Int)) = ((min p.2.b.length 1100 : Nat) : Int) by split <;> omega]
          exact bounds_hi (by omega)
        have htb : p.2.b.take (min p.2.b.length 1100) = p.2.b.take 1100 := by
          rcases Nat.le_total p.2.b.length 1100 with h | h
          · rw [Nat.min_eq_left h, List.take_of_length_le (Nat.le_refl _), List.take_of_length_le h]
          · rw [Nat.min_eq_right h]
        simp
        refine v_draw (ord := [11, 12, 13, 14, 15, 16, 17, 18, 19, 20, 21, 22, 23, 24, 25, 0, 1, 2, 3, 4, 5, 6, 7, 8, 9, 10, 26, 27, 28, 29]) (m := 26) (by decide +kernel) (by decide +kernel) ?_
        simp [h0, h5, h6, h1, hget, hbd]
        have htk : ((l.take (k + 1)).map fun p => cutO p.2).map oc = List.take k (List.map (oc ∘ fun p => cutO p.2) l) ++ [oc (cutO p.2)] := by
          rw [List.take_succ_eq_append_getElem hlt, hp]; simp
        have hpu : PureR (List.take k (List.map (oc ∘ fun p : Bool × Oc => cutO p.2) l)) := .take (PureR_map.2 fun a _ => by simp) k
        refine ⟨⟨fun r hr => ?_, by omega⟩, by omega, GH.of (G.clip (Z := [_]) (X := [_, _]) (Z' := [.vec (w + 1) (((l.take (k + 1)).map fun p => cutO p.2).map oc) 3 true t]) hcl (by simp) ?_ ⟨k + 1, ⟨w + 1, t, rfl, ?_, ?_, ?_, ?_, hlt, by omega⟩, by omega⟩)⟩
        · obtain ⟨x, _, rfl⟩ := List.mem_map.1 (List.mem_of_mem_take hr)
          exact ⟨rfl, rfl⟩
        · simp only [UpOs_cons, UpOs_nil, and_true]
          rw [htk]
          refine ⟨rfl, rfl, rfl, rfl, fun r hr => ?_, UpR.app (UpR.self hpu) ?_⟩
          · rcases List.mem_append.1 hr with hr | hr
            · obtain ⟨x, _, rfl⟩ := List.mem_map.1 (List.mem_of_mem_take hr)
              exact ⟨rfl, rfl⟩
            · simp at hr; subst hr; exact ⟨rfl, rfl⟩
          · simp [UpFz, cutO, ← htb]
        · simp [h0]
        · simp
        · simp [w64 (n := (k : Int) + 1) (by omega)]
        · simp [h1]
      · have hd := done (.inr (by omega))
        simp [h5, Try.results15]
        first | (refine GV.ans hcl ?_; simp [hd]; done) | (refine GV.ans0 ?_; simp [hd]; done)
    · have hd := done (.inl (by omega))
      simp [hge, h5, Try.results15]
      first | (refine GV.ans hcl ?_; simp [hd]; done) | (refine GV.ans0 ?_; simp [hd]; done)
theorem v_doc {kk : Bool} {o : Oc} : A 84 [.agg (ocK kk o)] (.agg (dcK kk ⟨o.id, o.b⟩)) := by
  intro H
  refine v_enter hC [] (fun _ _ => kn_none rfl) Try.func84 rfl ok84 (Nat.le_of_ble_eq_true rfl) fun hcl hbl => ?_
  simp [Try.results84]
  first | (refine GV.ans hcl ?_; simp []; done) | (refine GV.ans0 ?_; simp []; done)
/-- What check says of an operation. -/
def ochk (o : Oc) : Int := if dchk ⟨o.id, []⟩ ≠ 0 ∨ o.del = false then dchk ⟨o.id, o.b⟩ else if 0 < o.b.length then 3 else 0
theorem v_ocheck {kk : Bool} {o : Oc} : A 48 [.agg (ocK kk o)] (i6 (ochk o)) := by
  intro H
  refine v_enter hC [] (fun _ _ => kn_none rfl) Try.func48 rfl ok48 (Nat.le_of_ble_eq_true rfl) fun hcl hbl => ?_
  simp
  refine (v_dCheck (kk := true) (d := ⟨o.id, []⟩)).callU [.agg (dcK true ⟨o.id, []⟩)] (by simp) ?_
  simp
  refine GuardR.dec (fun h => ?_) (fun h => ?_)
  · simp [h]
    refine CondV.on (fun h2 => ?_) (fun h2 => ?_)
    · have hd : o.del = false := by simpa using h2
      have hv : ochk o = dchk ⟨o.id, o.b⟩ := by unfold ochk; rw [if_pos (.inr hd)]
      simp
      refine (v_doc (kk := kk) (o := o)).call ?_
      simp
      refine (v_dCheck (kk := kk) (d := ⟨o.id, o.b⟩)).call ?_
      simp [Try.results48]
      first | (refine GV.ans hcl ?_; simp [hv]; done) | (refine GV.ans0 ?_; simp [hv]; done)
    · have hd : o.del = true := by simpa using h2
      have hv : ochk o = if 0 < o.b.length then 3 else 0 := by unfold ochk; rw [if_neg (by simp [h, hd])]
      simp
      refine CondV.dec (fun h3 => ?_) (fun h3 => ?_)
      · have h3 : 0 < o.b.length := by omega
        rw [if_pos h3] at hv
        simp [Try.results48]
        first | (refine GV.ans hcl ?_; simp [hv]; done) | (refine GV.ans0 ?_; simp [hv]; done)
      · have h3 : ¬ 0 < o.b.length := by omega
        rw [if_neg h3] at hv
        simp [Try.results48]
        first | (refine GV.ans hcl ?_; simp [hv]; done) | (refine GV.ans0 ?_; simp [hv]; done)
  · simp [h]
    have hv : ochk o = dchk ⟨o.id, o.b⟩ := by unfold ochk; rw [if_pos (.inl h)]
    refine (v_doc (kk := kk) (o := o)).call ?_
    simp
    refine (v_dCheck (kk := kk) (d := ⟨o.id, o.b⟩)).call ?_
    simp [Try.results48]
    first | (refine GV.ans hcl ?_; simp [hv]; done) | (refine GV.ans0 ?_; simp [hv]; done)
theorem v_plainD {kk : Bool} {id : Int} {b : List Int} (h0 : 0 ≤ id) (h1 : id < 9223372036854775808) : A 95 [.agg (ocK kk ⟨true, id, b⟩)] (BS true (2 :: venc id.toNat)) := by
  intro H
  refine v_enter hC [5] (fun _ _ => kn_none rfl) Try.func95 rfl ok95 (Nat.le_of_ble_eq_true rfl) fun hcl hbl => ?_
  have hp : putB [id] = venc id.toNat := by simp [putB, vencs, h0]
  have hv := venc_length id.toNat
  simp
  refine (v_Put (kk := true) (l := [id]) (by simp) (by simpa using h1)).callU [IS true [id]] (by simp) ?_
  rw [hp]
  simp [Try.results95]
  refine ⟨by omega, ?_⟩
  first | (refine GV.ans hcl ?_; simp []; done) | (refine GV.ans0 ?_; simp []; done)
theorem ochk_del {o : Oc} (hd : o.del = true) (h : ochk o = 0) : 1 ≤ o.id ∧ o.id ≤ 65535 := by
  unfold ochk at h
  by_cases hc : dchk ⟨o.id, []⟩ = 0
  · unfold dchk at hc
    split at hc
    · cases hc
    · dsimp only at *; omega
  · rw [if_pos (.inl hc)] at h
    unfold dchk at h
    split at h
    · cases h
    · dsimp only at *; omega
theorem v_RecordD {kk : Bool} {o : Oc} (hd : o.del = true) (hz : ochk o = 0) : A 55 [.agg (ocK kk o)] (.tup [BS true (markB (2 :: venc o.id.toNat)), i6 0]) := by
  intro H
  refine v_enter hC [] (fun _ _ => kn_none rfl) Try.func55 rfl ok55 (Nat.le_of_ble_eq_true rfl) fun hcl hbl => ?_
  simp
  refine (v_ocheck (kk := kk) (o := o)).call ?_
  simp [hz]
  have hid := ochk_del hd hz
  have hv := venc_length o.id.toNat
  refine (v_plainD (kk := kk) (id := o.id) (b := o.b) (by omega) (by omega)).callU [.agg (ocK kk ⟨true, o.id, o.b⟩)] (by simp [hd]) ?_
  simp
  refine (v_Mark (kb := true) (l := 2 :: venc o.id.toNat) (by simp; omega) (fun x hx => ?_)).call ?_
  · rcases List.mem_cons.1 hx with rfl | hx
    · omega
    · exact venc_byte _ _ hx
  · simp [Try.results55]
    first | (refine GV.ans hcl ?_; simp []; done) | (refine GV.ans0 ?_; simp []; done)
theorem v_known26 : A 21 [] (bo true) := by
  intro H
  refine v_enter hC [] (fun _ _ => kn_none rfl) Try.func21 rfl ok21 (Nat.le_of_ble_eq_true rfl) fun hcl hbl => ?_
  simp
  refine (v_RecordD (kk := true) (o := ⟨true, 5, []⟩) rfl (by decide)).callU [.agg (ocK true ⟨true, 5, []⟩)] (by simp) ?_
  have hm : markB (2 :: venc 5) = 2 :: 5 :: low4 (crcS [2, 5]) := by
    rw [venc_lt 5 (by decide)]; rfl
  simp [hm, low4, Try.results21]
  first | (refine GV.ans hcl ?_; simp []; done) | (refine GV.ans0 ?_; simp []; done)
end Go.Proofs.Ytldhfdagmaklaaa.VM
end
section
set_option maxHeartbeats 8000000
set_option linter.unusedVariables false
set_option linter.unusedSimpArgs false
/- BatchNil: what a nil batch answers, and the law. -/
namespace Go.Proofs.Ytldhfdagmaklaaa.VM
open Go Go.Proofs AM B
set_option maxRecDepth 100000
theorem v_bNew0 : A 14 [.lit (.pointer none)] (.tup [.lit (.pointer none), i6 11]) := by
  intro H
  refine v_enter hC [] (fun _ _ => kn_none rfl) Try.func14 rfl ok14 (Nat.le_of_ble_eq_true rfl) fun hcl hbl => ?_
  simp [Try.results14]
  first | (refine GV.ans hcl ?_; simp []; done) | (refine GV.ans0 ?_; simp []; done)
theorem v_Do0 {kk : Bool} {rows : List (List V)} : A 18 [.lit (.pointer none), .fsl kk 3 rows] (i6 11) := by
  intro H
  refine v_enter hC [] (fun _ _ => kn_none rfl) Try.func18 rfl ok18 (Nat.le_of_ble_eq_true rfl) fun hcl hbl => ?_
  simp [Try.results18]
  first | (refine GV.ans hcl ?_; simp []; done) | (refine GV.ans0 ?_; simp []; done)
theorem v_bLen0 : A 23 [.lit (.pointer none)] (i6 0) := by
  intro H
  refine v_enter hC [] (fun _ _ => kn_none rfl) Try.func23 rfl ok23 (Nat.le_of_ble_eq_true rfl) fun hcl hbl => ?_
  simp [Try.results23]
  first | (refine GV.ans hcl ?_; simp []; done) | (refine GV.ans0 ?_; simp []; done)
theorem v_bTarget0 : A 26 [.lit (.pointer none)] (.lit (.pointer none)) := by
  intro H
  refine v_enter hC [] (fun _ _ => kn_none rfl) Try.func26 rfl ok26 (Nat.le_of_ble_eq_true rfl) fun hcl hbl => ?_
  simp [Try.results26]
  first | (refine GV.ans hcl ?_; simp []; done) | (refine GV.ans0 ?_; simp []; done)
theorem v_bBase0 : A 27 [.lit (.pointer none)] (.lit (.pointer none)) := by
  intro H
  refine v_enter hC [] (fun _ _ => kn_none rfl) Try.func27 rfl ok27 (Nat.le_of_ble_eq_true rfl) fun hcl hbl => ?_
  simp [Try.results27]
  first | (refine GV.ans hcl ?_; simp []; done) | (refine GV.ans0 ?_; simp []; done)
theorem v_bPrefix0 {n : Int} : A 20 [.lit (.pointer none), i6 n] (.tup [.lit (.pointer none), i6 11]) := by
  intro H
  refine v_enter hC [] (fun _ _ => kn_none rfl) Try.func20 rfl ok20 (Nat.le_of_ble_eq_true rfl) fun hcl hbl => ?_
  simp [Try.results20]
  first | (refine GV.ans hcl ?_; simp []; done) | (refine GV.ans0 ?_; simp []; done)
theorem v_bOps0 : A 24 [.lit (.pointer none)] (.lit (.slice none 0 0)) := by
  intro H
  refine v_enter hC [] (fun _ _ => kn_none rfl) Try.func24 rfl ok24 (Nat.le_of_ble_eq_true rfl) fun hcl hbl => ?_
  simp
  refine v_bLen0.call ?_
  simp
  refine v_once hC ?_
  simp [Try.results24]
  first | (refine GV.ans hcl ?_; simp []; done) | (refine GV.ans0 ?_; simp []; done)
theorem v_bBytes0 : A 25 [.lit (.pointer none)] (.lit (.slice none 0 0)) := by
  intro H
  refine v_enter hC [] (fun _ _ => kn_none rfl) Try.func25 rfl ok25 (Nat.le_of_ble_eq_true rfl) fun hcl hbl => ?_
  simp
  refine v_bOps0.call ?_
  simp
  refine v_once hC ?_
  simp [Try.results25]
  first | (refine GV.ans hcl ?_; simp []; done) | (refine GV.ans0 ?_; simp []; done)
theorem v_bRead0 {kk : Bool} {rows : List (List V)} : A 22 [.lit (.pointer none), .fsl kk 1 rows] (.tup [.lit (.pointer none), i6 0, i6 11]) := by
  intro H
  refine v_enter hC [] (fun _ _ => kn_none rfl) Try.func22 rfl ok22 (Nat.le_of_ble_eq_true rfl) fun hcl hbl => ?_
  simp
  refine v_bNew0.call ?_
  simp [Try.results22]
  first | (refine GV.ans hcl ?_; simp []; done) | (refine GV.ans0 ?_; simp []; done)
set_option maxHeartbeats 8000000 in
theorem v_BatchNil {kk : Bool} {o : Oc} (ho : o.b.length < 2 ^ 63) : A 5 [.agg (ocK kk o)] (bo true) := by
  intro H
  refine v_enter hC [] (fun _ _ => kn_none rfl) Try.func5 rfl ok5 (Nat.le_of_ble_eq_true rfl) fun hcl hbl => ?_
  simp
  refine v_bNew0.call ?_
  simp
  refine (v_bRead0 (kk := true) (rows := [bc 1])).call ?_
  simp
  refine v_bPrefix0.call ?_
  simp
  refine v_known26.call ?_
  simp
  refine (v_oTo (kk := true) (l := [(kk, o)]) (most := 1) (by omega) (by simp) (by simpa using ho)).callU [OSf true [(kk, o)], i6 1] (by simp) ?_
  simp
  refine v_Do0.call ?_
  simp
  refine v_bLen0.call ?_
  simp
  refine v_bOps0.call ?_
  simp
  refine v_bBytes0.call ?_
  simp
  refine v_bTarget0.call ?_
  simp
  refine v_bBase0.call ?_
  simp [Try.results5]
  first | (refine GV.ans hcl ?_; simp []; done) | (refine GV.ans0 ?_; simp []; done)
end Go.Proofs.Ytldhfdagmaklaaa.VM
end
section
set_option maxHeartbeats 8000000
set_option linter.unusedVariables false
set_option linter.unusedSimpArgs false
/- BatchNil at the arguments as they read. -/
namespace Go.Proofs.Ytldhfdagmaklaaa
open Go Go.RowKit AM VM B
namespace VM
theorem wf64 {x : Int} (h : (Lit.int .i64 x).wf = true) : -9223372036854775808 ≤ x ∧ x ≤ 9223372036854775807 := by
  simp [Lit.wf, IntKind.min, IntKind.max, IntKind.signed, IntKind.bits] at h
  omega
theorem rd_three {H : Type} {enc : TypeId × Value → H} {P : Program} {w : World} {t : TypeId} {f0 f1 f2 : Field} {cs : List Value} (h : Rd enc P w t cs) (ht : P.underlying t = some (.struct #[f0, f1, f2])) {a b c : Nat} (o0 : f0.offset = 0) (c0 : P.cellsOf f0.type = a) (o1 : f1.offset = a) (c1 : P.cellsOf f1.type = b) (o2 : f2.offset = a + b) (c2 : P.cellsOf f2.type = c) (hc : P.cellsOf t = a + b + c) :
    ∃ x y z, cs = x ++ (y ++ z) ∧ x.length = a ∧ y.length = b ∧ z.length = c ∧ Rd enc P w f0.type x ∧ Rd enc P w f1.type y ∧ Rd enc P w f2.type z := by
  obtain ⟨m, x, hm⟩ := h
  obtain ⟨y0, y1, y2, n, _, hl, h0, h1, h2⟩ := Go.Deep.trod_struct3 ht hm
  rw [o0, c0, List.drop_zero] at h0
  rw [o1, c1] at h1
  rw [o2, c2] at h2
  have e1 : (cs.drop (a + b)).take c = cs.drop (a + b) := List.take_of_length_le (by simp; omega)
  rw [e1] at h2
  refine ⟨cs.take a, (cs.drop a).take b, cs.drop (a + b), ?_, by simp; omega, by simp; omega, by simp; omega, ⟨n, _, h0⟩, ⟨n, _, h1⟩, ⟨n, _, h2⟩⟩
  rw [← List.drop_drop, List.take_append_drop, List.take_append_drop]
/-- An operation's cells. -/
theorem rd_op {H : Type} {enc : TypeId × Value → H} {w : World} {cs : List Value} (h : Rd enc Try.prog w 50 cs) : ∃ k, ∃ o : Oc, o.b.length < 2 ^ 63 ∧ (∀ x ∈ o.b, 0 ≤ x ∧ x ≤ 255) ∧ (-9223372036854775808 ≤ o.id ∧ o.id ≤ 9223372036854775807) ∧ CellsV w (ocK k o) cs := by
  obtain ⟨x, y, z, e, _, _, _, hx, hy, hz⟩ := rd_three h Try.underlying50 (a := 1) (b := 1) (c := 1) rfl (by kernel_rfl) rfl (by kernel_rfl) rfl (by kernel_rfl) (by kernel_rfl)
  obtain ⟨d, rfl⟩ := hx.bool Try.underlying4
  obtain ⟨s, rfl, hw⟩ := hy.int Try.underlying3
  obtain ⟨v, k, l, rfl, h1, h2, h3⟩ := rd_bytes hz
  exact ⟨k, ⟨d, s, l⟩, h1, h2, wf64 hw, by rw [e]; exact ⟨_, _, rfl, .lit rfl, _, _, rfl, .lit rfl, _, _, rfl, h3, rfl⟩⟩
theorem arg_op {H : Type} {enc : TypeId × Value → H} {w : World} {cs : Array Value} (h : Rd enc Try.prog w 50 cs.toList) : ∃ k, ∃ o : Oc, o.b.length < 2 ^ 63 ∧ (∀ x ∈ o.b, 0 ≤ x ∧ x ≤ 255) ∧ (-9223372036854775808 ≤ o.id ∧ o.id ≤ 9223372036854775807) ∧ ArgV w (.agg (ocK k o)) (.agg cs) := by
  obtain ⟨k, o, h1, h2, h3, h4⟩ := rd_op h
  exact ⟨k, o, h1, h2, h3, CellsV.arg h4⟩
end VM
theorem batchNil_row {H : Type} {enc : TypeId × Value → H} (cs0 : Array Value) (w : World) (h0 : Rd enc Try.prog w 50 cs0.toList) :
    Calls Try.prog 5 #[.agg cs0] w fun e w' => e = .returned (.bool true) ∧ Below w.heap.size w w' := by
  obtain ⟨k, o, ho, _, _, ha⟩ := arg_op h0
  exact (v_BatchNil ho).law mixed prims_ok ⟨_, _, Try.func5, rfl, by decide +kernel⟩ ⟨_, _, rfl, ha, rfl⟩
end Go.Proofs.Ytldhfdagmaklaaa
end
