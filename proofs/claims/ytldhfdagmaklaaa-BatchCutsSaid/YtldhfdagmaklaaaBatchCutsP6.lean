/- What the proof of BatchCuts rests on, part 6 of 7. -/
import Derived.Test.YtldhfdagmaklaaaBatchCutsP5
import Derived.BigQuiet
import Derived.Carry
import Derived.ChangeSame
import Derived.Deep.AppendLies
import Derived.Deep.DeepFit
import Derived.Deep.Draws
import Derived.Deep.LoopGhost
import Derived.Deep.QuietTactic
import Derived.Deep.RegionHeld3
import Derived.Deep.Slices
import Derived.KernelRfl
import Derived.Lib.Hide
import Derived.Maps.AppendAt
import Derived.OpenShut
import Derived.ProofKit
import Derived.RowKit3
import Derived.Shelf.Abstract
import Derived.WalkKit
import Derived.WalkSpells
section
set_option maxHeartbeats 8000000
set_option linter.unusedVariables false
set_option linter.unusedSimpArgs false

/- Words of this seat: a slice that reads as a list of cells; what stays readable when memory grows. No program is named here. -/
namespace Go.Proofs.Ytldhfdagmaklaaa.B
open Go.RowKit

/-- A fact that the walk's simp does not look into. -/
structure Keep (p : Prop) : Prop where
  out : p

/-- The slice v has n elements; its cells are xs (as many as the element's size a piece). -/
def Row (w : World) (v : Value) (n : Nat) (xs : List Value) : Prop :=
  ∃ A c, v = .slice A n c ∧ n ≤ c ∧ c ≤ maxLen ∧ (0 < n → ∃ g o, A = some ⟨g, o, none⟩ ∧ ∀ j u, xs[j]? = some u → w.cell? ⟨g, o + j, none⟩ = some u)

def ints (l : List Int) : List Value := l.map (Value.int .i64)
def u8s (l : List Int) : List Value := l.map (Value.int .u8)
@[simp] theorem ints_length (l : List Int) : (ints l).length = l.length := by simp [ints]
@[simp] theorem u8s_length (l : List Int) : (u8s l).length = l.length := by simp [u8s]
/-- Element j of a list (closed to simp). -/
def el (l : List Int) (j : Nat) : Int := l.getD j 0
theorem el_eq (l : List Int) (j : Nat) (h : j < l.length) : el l j = l[j] := by simp [el, h]
theorem ints_get (l : List Int) (j : Nat) (h : j < l.length) : (ints l)[j]? = some (.int .i64 (el l j)) := by simp [ints, el, h]
theorem u8s_get (l : List Int) (j : Nat) (h : j < l.length) : (u8s l)[j]? = some (.int .u8 (el l j)) := by simp [u8s, el, h]
theorem ints_append (a b : List Int) : ints (a ++ b) = ints a ++ ints b := by simp [ints]
theorem u8s_append (a b : List Int) : u8s (a ++ b) = u8s a ++ u8s b := by simp [u8s]

theorem Row.below {w w' : World} {v : Value} {n : Nat} {xs : List Value} (h : Row w v n xs) (hb : Below w.heap.size w w') : Row w' v n xs := by
  obtain ⟨A, c, rfl, h1, h2, h3⟩ := h
  refine ⟨A, c, rfl, h1, h2, fun hn => ?_⟩
  obtain ⟨g, o, e, hc⟩ := h3 hn
  refine ⟨g, o, e, fun j u hu => ?_⟩
  have hc := hc j u hu
  rw [hb.cell (World.block_lt_of_cell? w _ hc)]
  exact hc
theorem Row.of_own {w : World} {base n : Nat} {e : TypeId} {size : Nat} {v : Value} {xs : List Value} (h : w.ownsRow base e size v n xs) : Row w v n xs := by
  rcases h.2 with ⟨rfl, rfl⟩ | ⟨g, cap, cur, rfl, hb, hh, h1, h2, h3, h4⟩
  · exact ⟨none, 0, rfl, Nat.le_refl _, Nat.zero_le _, fun h => absurd h (Nat.lt_irrefl 0)⟩
  · refine ⟨_, cap, rfl, h1, h2, fun _ => ⟨g, 0, rfl, fun j u hu => ?_⟩⟩
    rw [cell_of_row w g (0 + j) cur e (0, 0) hh, Nat.zero_add]
    rw [← h4, List.getElem?_take] at hu
    split at hu
    · simpa using hu
    · cases hu
/-- A slice that reads has no element, or lies somewhere. -/
theorem Row.open_ {w : World} {v : Value} {n : Nat} {xs : List Value} (h : Row w v n xs) :
    (n = 0 ∧ ∃ A c, v = .slice A 0 c ∧ c ≤ maxLen) ∨ ∃ g o c, v = .slice (some ⟨g, o, none⟩) n c ∧ n ≤ c ∧ c ≤ maxLen ∧ ∀ j u, xs[j]? = some u → w.cell? ⟨g, o + j, none⟩ = some u := by
  obtain ⟨A, c, rfl, h1, h2, h3⟩ := h
  rcases Nat.eq_zero_or_pos n with h0 | h0
  · subst h0; exact .inl ⟨rfl, A, c, rfl, h2⟩
  · obtain ⟨g, o, rfl, hc⟩ := h3 h0
    exact .inr ⟨g, o, c, rfl, h1, h2, hc⟩
theorem bcell {W w1 : World} (hb : Below W.heap.size W w1) :
    (∀ b o, b < W.heap.size → w1.cell? ⟨b, o, none⟩ = W.cell? ⟨b, o, none⟩) ∧ (∀ b o, b < W.heap.size → w1.frozen? ⟨b, o, none⟩ = W.frozen? ⟨b, o, none⟩) :=
  ⟨fun b o h => hb.cell (p := ⟨b, o, none⟩) h, fun b o h => hb.frozen (p := ⟨b, o, none⟩) h⟩
theorem grown_set (w : World) (a : Addr) (u : Value) : w.grownBy (w.setCell a u) (some a.block) :=
  ⟨rfl, rfl, rfl, by simp [World.setCell], fun k _ hk => Below.heap_setCell _ _ _ _ (fun e => hk (by rw [e]))⟩
theorem own_set {w : World} {base n : Nat} {e : TypeId} {size : Nat} {v : Value} {xs : List Value} (h : w.ownsRow base e size v n xs) (a : Addr) (u : Value) (hne : v.ownBlock ≠ some a.block) : (w.setCell a u).ownsRow base e size v n xs :=
  h.kept (grown_set w a u) (.inr hne)
theorem heap_set_same {w : World} {b o : Nat} {cs : Array Value} {t : TypeId} {fr : Nat × Nat} (h : w.heap[b]? = some (.cells cs t fr)) (u : Value) :
    (w.setCell ⟨b, o, none⟩ u).heap[b]? = some (.cells (cs.setIfInBounds o u) t fr) := by
  simp [World.setCell, Array.getElem?_modify, h]
theorem heap_lt {w : World} {b : Nat} {o : Obj} (h : w.heap[b]? = some o) : b < w.heap.size := (Array.getElem?_eq_some_iff.1 h).1
theorem own_lt {w : World} {base n : Nat} {e : TypeId} {size : Nat} {v : Value} {xs : List Value} (h : w.ownsRow base e size v n xs) {k : Nat} (hk : v.ownBlock = some k) : k < w.heap.size := (h.lt k hk).2
theorem own_not {w : World} {base n : Nat} {e : TypeId} {size : Nat} {v : Value} {xs : List Value} (h : w.ownsRow base e size v n xs) {k : Nat} (hk : w.heap.size ≤ k) : v.ownBlock ≠ some k := fun e => by
  have := own_lt h e; omega
theorem new_blk {W : World} {o : Obj} {s : Nat} (h : W.heap.size = s) : (W.alloc o).heap[s]? = some o := by subst h; exact heap_alloc_new _ _
theorem retI {k : IntKind} {a b : Int} (h : a = b) : Ending.returned (.int k a) = .returned (.int k b) := by rw [h]
theorem retT {k : IntKind} {a b : Int} {x : Value} (h : a = b) : Ending.returned (.tuple #[.int k a, x]) = .returned (.tuple #[.int k b, x]) := by rw [h]
theorem retB {a b : Bool} (h : a = b) : Ending.returned (.bool a) = .returned (.bool b) := by rw [h]
theorem bdraw {B : Nat} {w W : World} (h : Below B w W) (n : Nat) : Below B w (W.drewN n) := ⟨h.os, h.tape, h.output, h.size, h.block⟩
theorem balloc {w W : World} (h : Below w.heap.size w W) (o : Obj) : Below w.heap.size w (W.alloc o) := h.alloc h.size o
theorem kc {w w1 : World} (h : Below w.heap.size w w1) {a : Addr} {v : Value} (hc : w.cell? a = some v) : w1.cell? a = some v := (h.cell (World.block_lt_of_cell? w a hc)).trans hc
theorem balloc' {w W : World} {B : Nat} (h : Below B w W) (o : Obj) (hB : B ≤ W.heap.size := by omega) : Below B w (W.alloc o) := h.alloc hB o
theorem own_nil' (W : World) (base : Nat) (e : TypeId) (size : Nat) : W.ownsRow base e size (.slice none 0 0) 0 [] := ⟨by simp, .inl ⟨rfl, rfl⟩⟩
theorem bnext {B : Nat} {w w1 w2 : World} (h : Below B w w1) (hB : B ≤ w1.heap.size) (k : Below w1.heap.size w1 w2) : Below B w w2 :=
  h.trans (k.mono hB)
/-- append of one element that was just laid into a block of its own. -/
theorem app1 {P : Program} {ops : Array Oper} {rest : List Oper} {o : Oper} {a : Act} {Q : Exit → Act → World → Prop} {W : World} (hgd : o.guard = none) (s x : Operand) (t : TypeId)
    (ho : o.op = .call { callee := .builtin .append, args := #[s, x], argTypes := #[t, t] })
    (base : Nat) (e te : TypeId) (i : TypeInfo) (z : Value) (size bytes : Nat) (ht : P.underlying t = some (.slice e)) (hi : P.info? e = some i) (hz : i.zero = some z)
    (hsize : i.size = size) (hby : i.bytes = bytes) (hzs : z.cells.size = size) (hsz : 0 < size)
    (v : Value) (n : Nat) (xs : List Value) (hs : a.eval s = v) (hown : W.ownsRow base e size v n xs)
    (cs : List Value) (hx : a.eval x = .slice (some ⟨W.heap.size, 0, none⟩) 1 1) (hl : cs.length = size) (h1 : ∀ u ∈ cs, u.oneCell' = true)
    (h63 : n + 1 ≤ 1000000000) (hb : bytes ≤ 100) (hbase : base ≤ W.heap.size)
    (h : ∀ g cap w', w'.ownsRow base e size (.slice (some ⟨g, 0, none⟩) (n + 1) cap) (n + 1) (xs ++ cs) → (W.alloc (.cells cs.toArray te)).grownBy w' v.ownBlock → (v.ownBlock = some g ∨ g = W.heap.size + 1) → wpList P ops Q rest (a.put o.dst (.slice (some ⟨g, 0, none⟩) (n + 1) cap)) w') :
    wpList P ops Q (o :: rest) a (W.alloc (.cells cs.toArray te)) := by
  refine wpList_append_lies _ hgd s x t ho base e i z size bytes ht hi hz hsize hby hzs hsz v n xs hs (hown.alloc _) ⟨W.heap.size, 0, none⟩ 1 1 cs hx (by simp [hl]) (fun j u hj => ?_) h1 (by omega) (by simp only [maxLen]; omega) ?_ (by simp; omega) (W.heap.size + 1) (by simp) ?_
  · rw [show (⟨W.heap.size, 0, none⟩ : Addr).add j = ⟨W.heap.size, j, none⟩ by unfold Addr.add; split <;> simp_all]
    rw [World.cell?_alloc_new]; simpa using hj
  · calc (n + 1) * bytes ≤ 1000000000 * 100 := Nat.mul_le_mul h63 hb
      _ ≤ _ := by omega
  · intro g cap w' g1 g2 g3 _
    exact h g cap w' g1 g2 g3
/-- append of the m elements of another slice. -/
theorem appN {P : Program} {ops : Array Oper} {rest : List Oper} {o : Oper} {a : Act} {Q : Exit → Act → World → Prop} {W : World} (hgd : o.guard = none) (s x : Operand) (t : TypeId)
    (ho : o.op = .call { callee := .builtin .append, args := #[s, x], argTypes := #[t, t] })
    (base : Nat) (e : TypeId) (i : TypeInfo) (z : Value) (size bytes : Nat) (ht : P.underlying t = some (.slice e)) (hi : P.info? e = some i) (hz : i.zero = some z)
    (hsize : i.size = size) (hby : i.bytes = bytes) (hzs : z.cells.size = size) (hsz : 0 < size)
    (v : Value) (n : Nat) (xs : List Value) (hs : a.eval s = v) (hown : W.ownsRow base e size v n xs)
    (xv : Value) (m : Nat) (us : List Value) (hx : a.eval x = xv) (hrow : Row W xv m us) (hl : us.length = m * size) (h1 : ∀ u ∈ us, u.oneCell' = true)
    (hm : 0 < m) (h63 : n + m ≤ 1000000000) (hb : bytes ≤ 100) (hbase : base ≤ W.heap.size)
    (h : ∀ g cap w', w'.ownsRow base e size (.slice (some ⟨g, 0, none⟩) (n + m) cap) (n + m) (xs ++ us) → W.grownBy w' v.ownBlock → (v.ownBlock = some g ∨ g = W.heap.size) → wpList P ops Q rest (a.put o.dst (.slice (some ⟨g, 0, none⟩) (n + m) cap)) w') :
    wpList P ops Q (o :: rest) a W := by
  rcases hrow.open_ with ⟨h0, _⟩ | ⟨g0, o0, c0, rfl, _, _, hc⟩
  · omega
  refine wpList_append_lies _ hgd s x t ho base e i z size bytes ht hi hz hsize hby hzs hsz v n xs hs hown ⟨g0, o0, none⟩ m c0 us hx hl (fun j u hj => ?_) h1 hm (by simp only [maxLen]; omega) ?_ hbase W.heap.size rfl ?_
  · rw [show (⟨g0, o0, none⟩ : Addr).add j = ⟨g0, o0 + j, none⟩ by unfold Addr.add; split <;> simp_all]
    exact hc j u hj
  · calc (n + m) * bytes ≤ 1000000000 * 100 := Nat.mul_le_mul h63 hb
      _ ≤ _ := by omega
  · intro g cap w' g1 g2 g3 _
    exact h g cap w' g1 g2 g3
theorem u8s_one {l : List Int} : ∀ u ∈ u8s l, u.oneCell' = true := by
  intro u hu
  simp [u8s] at hu
  obtain ⟨x, _, rfl⟩ := hu
  rfl
/-- A block laid just now, as a row. -/
theorem own_blk {w : World} {b : Nat} {cs : Array Value} {e : TypeId} {size n : Nat} (base : Nat) (h : w.heap[b]? = some (.cells cs e (0, 0))) (hb : base ≤ b) (hn : cs.size = n * size) (hm : n ≤ maxLen) :
    w.ownsRow base e size (.slice (some ⟨b, 0, none⟩) n n) n cs.toList :=
  ⟨by simpa using hn, .inr ⟨b, n, cs, rfl, hb, h, Nat.le_refl _, hm, hn, by rw [List.take_of_length_le (by simp [hn])]⟩⟩
/-- The same at a step of a region that draws its order. -/
theorem step1 {P : Program} {ops : Array Oper} {o : Oper} {a : Act} {K : Act → World → Prop} {Q : Exit → Act → World → Prop} {E : Prop} {W : World} (hgd : o.guard = none) (s x : Operand) (t : TypeId)
    (ho : o.op = .call { callee := .builtin .append, args := #[s, x], argTypes := #[t, t] })
    (base : Nat) (e te : TypeId) (i : TypeInfo) (z : Value) (size bytes : Nat) (ht : P.underlying t = some (.slice e)) (hi : P.info? e = some i) (hz : i.zero = some z)
    (hsize : i.size = size) (hby : i.bytes = bytes) (hzs : z.cells.size = size) (hsz : 0 < size)
    (v : Value) (n : Nat) (xs : List Value) (hs : a.eval s = v) (hown : W.ownsRow base e size v n xs)
    (cs : List Value) (hx : a.eval x = .slice (some ⟨W.heap.size, 0, none⟩) 1 1) (hl : cs.length = size) (h1 : ∀ u ∈ cs, u.oneCell' = true)
    (h63 : n + 1 ≤ 1000000000) (hb : bytes ≤ 100) (hbase : base ≤ W.heap.size)
    (h : ∀ g cap w', w'.ownsRow base e size (.slice (some ⟨g, 0, none⟩) (n + 1) cap) (n + 1) (xs ++ cs) → (W.alloc (.cells cs.toArray te)).grownBy w' v.ownBlock → (v.ownBlock = some g ∨ g = W.heap.size + 1) → K (a.put o.dst (.slice (some ⟨g, 0, none⟩) (n + 1) cap)) w') :
    if Region.wanted o (yielded ops a.tmps) = true then Oper.wp P o a (W.alloc (.cells cs.toArray te)).drew K Q else E := by
  refine step_append_lies _ hgd s x t ho base e i z size bytes ht hi hz hsize hby hzs hsz v n xs hs ((hown.alloc _).kept (w' := (W.alloc (.cells cs.toArray te)).drew) (row := none) ⟨rfl, rfl, rfl, Nat.le_refl _, fun _ _ _ => rfl⟩ (by cases v.ownBlock <;> simp)) ⟨W.heap.size, 0, none⟩ 1 1 cs hx (by simp [hl]) (fun j u hj => ?_) h1 (by omega) (by simp only [maxLen]; omega) ?_ (by simp; omega) (W.heap.size + 1) (by simp) ?_
  · rw [show (⟨W.heap.size, 0, none⟩ : Addr).add j = ⟨W.heap.size, j, none⟩ by unfold Addr.add; split <;> simp_all]
    rw [World.cell?_drew, World.cell?_alloc_new]; simpa using hj
  · calc (n + 1) * bytes ≤ 1000000000 * 100 := Nat.mul_le_mul h63 hb
      _ ≤ _ := by omega
  · intro g cap w' g1 g2 g3 _
    exact h g cap w' g1 ⟨g2.os, g2.tape, g2.output, g2.size, g2.block⟩ g3
/-- The same, behind a call that made memory. -/
theorem step1n {P : Program} {ops : Array Oper} {o : Oper} {a : Act} {K : Act → World → Prop} {Q : Exit → Act → World → Prop} {E : Prop} {W : World} (hgd : o.guard = none) (s x : Operand) (t : TypeId)
    (ho : o.op = .call { callee := .builtin .append, args := #[s, x], argTypes := #[t, t] })
    (base : Nat) (e te : TypeId) (i : TypeInfo) (z : Value) (size bytes : Nat) (ht : P.underlying t = some (.slice e)) (hi : P.info? e = some i) (hz : i.zero = some z)
    (hsize : i.size = size) (hby : i.bytes = bytes) (hzs : z.cells.size = size) (hsz : 0 < size)
    (v : Value) (n : Nat) (xs : List Value) (hs : a.eval s = v) (hown : W.ownsRow base e size v n xs)
    (cs : List Value) (hx : a.eval x = .slice (some ⟨W.heap.size, 0, none⟩) 1 1) (hl : cs.length = size) (h1 : ∀ u ∈ cs, u.oneCell' = true)
    (h63 : n + 1 ≤ 1000000000) (hb : bytes ≤ 100) (hbase : base ≤ W.heap.size)
    (h : ∀ g cap w', w'.ownsRow base e size (.slice (some ⟨g, 0, none⟩) (n + 1) cap) (n + 1) (xs ++ cs) → (W.alloc (.cells cs.toArray te)).grownBy w' v.ownBlock → (v.ownBlock = some g ∨ g = W.heap.size + 1) → K (a.put o.dst (.slice (some ⟨g, 0, none⟩) (n + 1) cap)) w') :
    if Region.wanted o (yielded ops a.tmps) = true then Oper.wp P o a (W.alloc (.cells cs.toArray te)) K Q else E := by
  refine step_append_lies _ hgd s x t ho base e i z size bytes ht hi hz hsize hby hzs hsz v n xs hs (hown.alloc _) ⟨W.heap.size, 0, none⟩ 1 1 cs hx (by simp [hl]) (fun j u hj => ?_) h1 (by omega) (by simp only [maxLen]; omega) ?_ (by simp; omega) (W.heap.size + 1) (by simp) ?_
  · rw [show (⟨W.heap.size, 0, none⟩ : Addr).add j = ⟨W.heap.size, j, none⟩ by unfold Addr.add; split <;> simp_all]
    rw [World.cell?_alloc_new]; simpa using hj
  · calc (n + 1) * bytes ≤ 1000000000 * 100 := Nat.mul_le_mul h63 hb
      _ ≤ _ := by omega
  · intro g cap w' g1 g2 g3 _
    exact h g cap w' g1 g2 g3
theorem ne_swap {a b : Option Nat} (h : a = none ∨ a ≠ b) : b = none ∨ b ≠ a := by
  rcases h with e | e
  · rw [e]; cases b <;> simp
  · exact .inr (Ne.symm e)
theorem own_slice {w : World} {base n : Nat} {e : TypeId} {size : Nat} {v : Value} {xs : List Value} (h : w.ownsRow base e size v n xs) : ∃ A c, v = .slice A n c := by
  rcases h.2 with ⟨rfl, rfl⟩ | ⟨g, cap, cur, rfl, _⟩
  · exact ⟨none, 0, rfl⟩
  · exact ⟨_, cap, rfl⟩
theorem addr_add0 (A : Option Addr) (c : Nat) : (if c = 0 then A else A.map (fun x => x.add 0)) = A := by cases A <;> simp [Addr.add]
/-- s[:k], whatever s is. -/
theorem run_cut {P : Program} {t e : TypeId} {i : TypeInfo} (ht : P.underlying t = some (.slice e)) (hi : P.info? e = some i) (A : Option Addr) (n c k : Nat) (h : k ≤ c) (w : World) :
    (Instr.slice t (.slice A n c) none (some (.int .i64 (k : Int))) none).run P w = .ok (.slice A k c) w := by
  have hs : (P.elem t) = e := by simp [Program.elem, ht]
  rw [run_slice_h (P := P) (t := t) (ht := by rw [hs]; exact ht) (h0 := by omega) (h2 := by omega)]
  simp [hs, sizeOf, typeInfo, hi, Result.andThen, sliced, Int.toNat_natCast]
  cases A <;> simp [Addr.add]
theorem own_below {w w1 : World} {base : Nat} {e : TypeId} {size n : Nat} {v : Value} {xs : List Value} (h : w.ownsRow base e size v n xs) (hb : Below w.heap.size w w1) : w1.ownsRow base e size v n xs :=
  h.kept (row := none) ⟨hb.os, hb.tape, hb.output, hb.size, fun k hk _ => hb.block k hk⟩ (by cases v.ownBlock <;> simp)
theorem row_blk {w : World} {b n : Nat} {cs : Array Value} {e : TypeId} {fr : Nat × Nat} (h : w.heap[b]? = some (.cells cs e fr)) (hm : n ≤ maxLen) : Row w (.slice (some ⟨b, 0, none⟩) n n) n cs.toList :=
  ⟨_, n, rfl, Nat.le_refl _, hm, fun _ => ⟨b, 0, rfl, fun j u hu => by rw [cell_of_row w b _ cs e fr h, Nat.zero_add]; simpa using hu⟩⟩
theorem grown_trans {w w1 w2 : World} {r r1 : Option Nat} (h1 : w.grownBy w1 r) (h2 : w1.grownBy w2 r1) (hr : r1 = r ∨ ∀ k, r1 = some k → w.heap.size ≤ k) : w.grownBy w2 r := by
  refine ⟨h2.os.trans h1.os, h2.tape.trans h1.tape, h2.output.trans h1.output, Nat.le_trans h1.size h2.size, fun k hk hne => ?_⟩
  rw [h2.block k (Nat.lt_of_lt_of_le hk h1.size) ?_, h1.block k hk hne]
  intro e
  rcases hr with h | h
  · exact hne (e.trans h)
  · have := h k e.symm; omega
theorem grown_alloc {w w1 : World} {r : Option Nat} (h1 : w.grownBy w1 r) (o : Obj) : w.grownBy (w1.alloc o) r :=
  ⟨h1.os, h1.tape, h1.output, by have := h1.size; simp; omega, fun k hk hne => (heap_alloc_old _ _ (Nat.lt_of_lt_of_le hk h1.size)).trans (h1.block k hk hne)⟩
theorem grown_below {w w1 : World} (h : Below w.heap.size w w1) (r : Option Nat) : w.grownBy w1 r := ⟨h.os, h.tape, h.output, h.size, fun k hk _ => h.block k hk⟩
theorem below_grown {w w0 w1 : World} {B bb : Nat} (h : Below B w w0) (hg : w0.grownBy w1 (some bb)) (hB : B ≤ w0.heap.size) (hb : B ≤ bb) : Below B w w1 := h.grown hg hB (fun k hk => by cases hk; exact hb)
theorem gcell {w0 wr : World} {bb : Nat} (hg : w0.grownBy wr (some bb)) {a : Addr} {v : Value} (h : w0.cell? a = some v) (hne : a.block ≠ bb) : wr.cell? a = some v := hg.cell h (by simpa using hne)
theorem unfrozen {w : World} {b o : Nat} {cs : Array Value} {t : TypeId} (h : w.heap[b]? = some (.cells cs t (0, 0))) : w.frozen? ⟨b, o, none⟩ = false := by simp [World.frozen?, h]
/-- A block that is not the row that was appended to. -/
theorem blk_far {wr w1 : World} {o ob : Obj} {b : Nat} {row : Option Nat} (h : wr.heap[b]? = some ob) (hg : (wr.alloc o).grownBy w1 row) (hne : row ≠ some b) : w1.heap[b]? = some ob := by
  have hlt := heap_lt h
  rw [hg.block b (by simp; omega) (fun e => hne e.symm), heap_alloc_old _ _ hlt]; exact h
end Go.Proofs.Ytldhfdagmaklaaa.B
end
section
set_option maxHeartbeats 8000000
set_option linter.unusedVariables false
set_option linter.unusedSimpArgs false

/- How an argument's reading opens into the words of Base; the end of a row's proof where nothing old has changed. -/
namespace Go.Proofs.Ytldhfdagmaklaaa.B
open Go Go.RowKit Go.WideShapes Go.ChangeShapes Go.Deep

section
variable {H : Type} {enc : TypeId × Value → H} {P : Program}
/-- The cells read as data of the type t. -/
def Rd (enc : TypeId × Value → H) (P : Program) (w : World) (t : TypeId) (cs : List Value) : Prop := ∃ fuel x, DataW.trod enc P w 0 (fun _ => true) true fuel t cs = some x
theorem Rd.of {w : World} {t : TypeId} {v : Value} {d : DataW H} {ps : List MemPlace} (h : DataW.Trod enc P w 0 (fun _ => true) true t v d ps) : Rd enc P w t v.cells.toList := by
  obtain ⟨m, hm⟩ := h
  exact ⟨m, _, hm⟩
theorem Rd.int {w : World} {t : TypeId} {k : IntKind} {cs : List Value} (h : Rd enc P w t cs) (ht : P.underlying t = some (.int k)) : ∃ n, cs = [.int k n] ∧ (Lit.int k n).wf = true := by
  obtain ⟨m, x, hm⟩ := h
  obtain ⟨n, h1, _, h2⟩ := DataW.trod_int ht hm
  exact ⟨n, h1, h2⟩
theorem Rd.bool {w : World} {t : TypeId} {cs : List Value} (h : Rd enc P w t cs) (ht : P.underlying t = some .bool) : ∃ b, cs = [.bool b] := by
  obtain ⟨m, x, hm⟩ := h
  obtain ⟨n, h1, _⟩ := DataW.trod_bool ht hm
  exact ⟨n, h1⟩
theorem Rd.struct1 {w : World} {t : TypeId} {f0 : Field} {cs : List Value} (h : Rd enc P w t cs) (ht : P.underlying t = some (.struct #[f0])) : cs.length = P.cellsOf t ∧ Rd enc P w f0.type ((cs.drop f0.offset).take (P.cellsOf f0.type)) := by
  obtain ⟨m, x, hm⟩ := h
  obtain ⟨y0, n, _, hl, h0⟩ := trod_struct1 ht hm
  exact ⟨hl, ⟨n, _, h0⟩⟩
theorem Rd.struct2 {w : World} {t : TypeId} {f0 f1 : Field} {cs : List Value} (h : Rd enc P w t cs) (ht : P.underlying t = some (.struct #[f0, f1])) :
    cs.length = P.cellsOf t ∧ Rd enc P w f0.type ((cs.drop f0.offset).take (P.cellsOf f0.type)) ∧ Rd enc P w f1.type ((cs.drop f1.offset).take (P.cellsOf f1.type)) := by
  obtain ⟨m, x, hm⟩ := h
  obtain ⟨y0, y1, n, _, hl, h0, h1⟩ := trod_struct2 ht hm
  exact ⟨hl, ⟨n, _, h0⟩, ⟨n, _, h1⟩⟩
theorem mapM_some {α β : Type} (f : α → Option β) : ∀ (l : List α) (r : List β), l.mapM f = some r → r.length = l.length ∧ ∀ i (h : i < l.length), ∃ y, r[i]? = some y ∧ f l[i] = some y
  | [], r, h => by simp at h; subst h; exact ⟨rfl, fun i h => by simp at h⟩
  | a :: l, r, h => by
    rw [List.mapM_cons] at h
    cases ha : f a with
    | none => simp [ha] at h
    | some y =>
      cases hl : l.mapM f with
      | none => simp [ha, hl] at h
      | some s =>
        simp [ha, hl] at h
        subst h
        obtain ⟨h1, h2⟩ := mapM_some f l s hl
        refine ⟨by simp [h1], fun i hi => ?_⟩
        cases i with
        | zero => exact ⟨y, rfl, ha⟩
        | succ i => simpa using h2 i (by simpa using hi)
/-- Cells in a row that are read: each one is there. -/
theorem cells_some {w : World} {a : Addr} {n : Nat} {cs : List Value} (h : w.cells? 0 a n = some cs) : cs.length = n ∧ ∀ i, i < n → ∃ u, cs[i]? = some u ∧ w.cell? (a.add i) = some u := by
  unfold World.cells? at h
  rw [if_pos (Nat.zero_le _)] at h
  obtain ⟨h1, h2⟩ := mapM_some _ _ _ h
  refine ⟨by simpa using h1, fun i hi => ?_⟩
  obtain ⟨y, hy, hc⟩ := h2 i (by simpa using hi)
  exact ⟨y, hy, by simpa using hc⟩
theorem sum_const {α : Type} (k : Nat) (l : List α) : (l.map fun _ => k).sum = l.length * k := by
  induction l with
  | nil => simp
  | cons a l ih => rw [List.map_cons, List.sum_cons, ih, List.length_cons, Nat.add_mul]; omega
theorem spot_none {w : World} {a : Addr} {u : Value} (h : w.cell? a = some u) : a.spot = none := by
  unfold World.cell? at h
  split at h
  · cases hs : a.spot with
    | none => rfl
    | some s => simp [hs] at h
  · cases h
theorem add_none (g o i : Nat) : (⟨g, o, none⟩ : Addr).add i = ⟨g, o + i, none⟩ := by unfold Addr.add; split <;> simp_all
/-- A slice whose elements take k cells each: the row of all its cells, and each element's own reading. -/
theorem Rd.slice {w : World} {t e : TypeId} {cs : List Value} {k : Nat} (h : Rd enc P w t cs) (ht : P.underlying t = some (.slice e)) (hk : P.cellsOf e = k) (hk0 : 0 < k) :
    ∃ v n, ∃ es : List (List Value), cs = [v] ∧ es.length = n ∧ Row w v n es.flatten ∧ ∀ i (h : i < es.length), es[i].length = k ∧ Rd enc P w e es[i] := by
  obtain ⟨m, x, hm⟩ := h
  rcases open_slice ht hm with ⟨rfl, _⟩ | ⟨a, len, cap, mm, n, D, Pl, rfl, hb, hl, hm', hmm, rfl, hx⟩
  · exact ⟨_, 0, [], rfl, rfl, ⟨none, 0, rfl, Nat.le_refl _, Nat.zero_le _, fun h => absurd h (Nat.lt_irrefl 0)⟩, fun i h => by simp at h⟩
  · simp at hmm
    obtain rfl : mm = cap := hmm
    rw [hk] at hx
    have hx' : ∀ i, ∃ cs', i < len → w.cells? 0 (a.add (i * k)) k = some cs' ∧ DataW.trod enc P w 0 (fun _ => true) true n e cs' = some (D i, Pl i) := fun i => by
      by_cases hi : i < len
      · obtain ⟨c, hc⟩ := hx i (by omega); exact ⟨c, fun _ => hc⟩
      · exact ⟨[], fun h => absurd h hi⟩
    obtain ⟨f, hf⟩ := Classical.axiomOfChoice hx'
    have hlen : ∀ i, i < len → (f i).length = k := fun i hi => (cells_some (hf i hi).1).1
    refine ⟨_, len, (List.range len).map f, rfl, by simp, ⟨some a, mm, rfl, hl, hm', fun hn => ?_⟩, fun i hi => ?_⟩
    · have h0 := (cells_some (hf 0 hn).1).2 0 hk0
      obtain ⟨u0, _, hu0⟩ := h0
      have hs := spot_none hu0
      obtain ⟨g, o, sp⟩ := a
      have hs : sp = none := by simpa [Addr.add] using hs
      subst hs
      refine ⟨g, o, rfl, fun j u hj => ?_⟩
      have hfl : ∀ (len : Nat), (∀ i, i < len → (f i).length = k) → ∀ j u, ((List.range len).map f).flatten[j]? = some u → j / k < len ∧ (f (j / k))[j % k]? = some u := by
        intro len
        induction len with
        | zero => intro _ j u h; simp at h
        | succ len ih =>
          intro hL j u h
          have hfl : ((List.range len).map f).flatten.length = len * k := by
            rw [List.length_flatten, List.map_map, show (List.range len).map (List.length ∘ f) = (List.range len).map (fun _ => k) from List.map_congr_left fun x hx => hL x (by simp at hx; omega), sum_const, List.length_range]
          rw [List.range_succ, List.map_append, List.flatten_append, List.getElem?_append] at h
          split at h
          · obtain ⟨h1, h2⟩ := ih (fun i hi => hL i (by omega)) j u h
            exact ⟨by omega, h2⟩
          · rename_i hge
            rw [hfl] at hge h
            simp at h
            have hlt : j - len * k < k := by
              have := (List.getElem?_eq_some_iff.1 h).1
              rw [hL len (by omega)] at this
              exact this
            have e1 : j / k = len := by
              rw [Nat.div_eq_iff hk0]
              constructor
              · omega
              · have : (len + 1) * k = len * k + k := by rw [Nat.add_mul]; omega
                omega
            have e2 : j % k = j - len * k := by
              have := Nat.div_add_mod j k
              rw [e1, Nat.mul_comm] at this
              omega
            rw [e1, e2]
            exact ⟨by omega, h⟩
      obtain ⟨h1, h2⟩ := hfl len hlen j u hj
      obtain ⟨y, hy, hc⟩ := (cells_some (hf (j / k) h1).1).2 (j % k) (Nat.mod_lt _ hk0)
      rw [add_none, add_none] at hc
      rw [h2] at hy
      cases hy
      rw [← hc]
      have := Nat.div_add_mod j k
      rw [Nat.mul_comm] at this
      rw [show o + j = o + j / k * k + j % k by omega]
    · simp only [List.length_map, List.length_range] at hi
      simp only [List.getElem_map, List.getElem_range]
      exact ⟨hlen i hi, ⟨n, _, (hf i hi).2⟩⟩
/-- A slice whose elements take one cell each. -/
theorem Rd.slice1 {w : World} {t e : TypeId} {A : Option Addr} {n c : Nat} (h : Rd enc P w t [.slice A n c]) (ht : P.underlying t = some (.slice e)) (hk : P.cellsOf e = 1) :
    n ≤ c ∧ c ≤ maxLen ∧ (0 < n → ∃ g o, A = some ⟨g, o, none⟩ ∧ g < w.heap.size) ∧ ∃ f : Nat → Value, ∀ i, i < n → (∀ g o, A = some ⟨g, o, none⟩ → w.cell? ⟨g, o + i, none⟩ = some (f i)) ∧ Rd enc P w e [f i] := by
  obtain ⟨m, x, hm⟩ := h
  rcases open_slice1 ht hk hm with ⟨h0, _⟩ | ⟨a, len, cap, mm, n', V, D, Pl, h0, hb, hl, hm', hmm, rfl, hx⟩
  · simp at h0
    obtain ⟨rfl, rfl, rfl⟩ := h0
    exact ⟨Nat.le_refl _, Nat.zero_le _, fun h => absurd h (Nat.lt_irrefl 0), fun _ => undef, fun i hi => absurd hi (Nat.not_lt_zero _)⟩
  · simp at h0
    obtain ⟨rfl, rfl, rfl⟩ := h0
    simp at hmm
    refine ⟨hl, hm', fun hn => ?_, V, fun i hi => ⟨fun g o e => ?_, ⟨n', _, (hx i (by omega)).2⟩⟩⟩
    · have h0 := (hx 0 (by omega)).1
      have hs := spot_none h0
      obtain ⟨g, o, sp⟩ := a
      have hs : sp = none := by simpa [Addr.add] using hs
      subst hs
      exact ⟨g, o, rfl, World.block_lt_of_cell? w _ h0⟩
    · cases e
      have h0 := (hx i (by omega)).1
      rw [add_none] at h0
      exact h0
theorem post_of_below {f : Func} {s : ChangeSpec} {apart fresh handsOn again : Bool} {W W' : World} {args : Array Value} {v : Value} {ds gs : List (DataW H)} {before pa pv : List MemPlace}
    (hW : DataW.Whole enc P f.params.toList s.vars apart W args.toList ds gs before)
    (hres : ∀ (b : Nat) (sp : Nat → Bool) (hd : Bool), DataW.TrodAll enc P W' b sp hd f.resultTypes.toList (v.resultList f.resultTypes.size) (s.fn H (ds ++ gs)).results [])
    (hargs : ∀ sp : Nat → Bool, (∀ p ∈ before, sp p.block = true) → DataW.TrodAll enc P W' 0 sp true f.params.toList args.toList (s.fn H (ds ++ gs)).args pa)
    (hvars : ∀ sp : Nat → Bool, (∀ p ∈ before, sp p.block = true) → DataW.TrodVars enc P W' sp s.vars (s.fn H (ds ++ gs)).vars pv)
    (hps : before = pa ++ pv) (hb : Below W.heap.size W W')
    (hok : ∀ (j : Nat) (t : TypeId) (r : Value), f.resultTypes[j]? = some t → (v.resultList f.resultTypes.size)[j]? = some r → Value.okWide P W' .any 0 t r) :
    s.post enc P f apart fresh handsOn again W args v W' := by
  have hlt : ∀ p ∈ before, p.block < W.heap.size := fun p hp => hW.lt p hp
  have hold : ∀ p ∈ before, (fun b => decide (b < W.heap.size)) p.block = true := fun p hp => by simpa using hlt p hp
  refine ⟨ds, gs, before, [], pa, pv, hW, hres _ _ _, hargs _ hold, hvars _ hold, World.keptBut_mono (fun p hp => ⟨hp, ?_⟩) (hb.frame (· ∈ before)), fun _ => ?_⟩
  · rw [hps, List.mem_append] at hp
    exact Or.inr hp
  · obtain ⟨_, _, _, _, _, hz, hn⟩ := hW
    refine ⟨hok, _, _, ([] ++ pa) ++ pv, ⟨[] ++ pa, pv, trodAll_append (hargs _ (fun _ _ => rfl)) (hres _ _ _), hvars _ (fun _ _ => rfl), rfl, ?_, ?_⟩, ?_⟩
    · intro b off hp
      have hin : MemPlace.cell b off ∈ before := by rw [hps]; simpa using hp
      rw [hb.frozen (hlt _ hin)]
      exact hz b off hin
    · intro ha
      have := hn ha
      rw [hps] at this
      simpa using this
    · intro p hp _
      rw [hps]
      simpa using hp
/-- An argument reads behind the call as it read ahead of it. -/
theorem trod_again {t : TypeId} (hl : laidOutB P = true) (hr : P.readableRec t = true) (hrow : t < P.types.size) {W W' : World} {v : Value} {d : DataW H} {ps : List MemPlace}
    (h : DataW.Trod enc P W 0 (fun _ => true) true t v d ps) (hb : Below W.heap.size W W') (hlt : ∀ x ∈ ps, x.block < W.heap.size) (sp : Nat → Bool) (hs : ∀ p ∈ ps, sp p.block = true) :
    DataW.Trod enc P W' 0 sp true t v d ps :=
  WideElems.Trod_stays hl hr hrow h (fun x hx => hb.same (hlt x hx)) hs
end
end Go.Proofs.Ytldhfdagmaklaaa.B
end
section
set_option maxHeartbeats 8000000
set_option linter.unusedVariables false
set_option linter.unusedSimpArgs false

/- What a law's arguments are for the machine of values: of whatever law. -/
namespace Go.Proofs.Ytldhfdagmaklaaa.VM
open Go Go.Proofs Go.RowKit Go.WideShapes Go.ChangeShapes Go.Deep AM B
section
variable {H : Type} {enc : TypeId × Value → H} {P : Program} {w : World}
theorem rd_nil {t e : TypeId} {cs : List Value} (h : Rd enc P w t cs) (ht : P.underlying t = some (.slice e)) : ∃ v, cs = [v] ∧ (v = .slice none 0 0 ∨ ∃ a n c, v = .slice (some a) n c) := by
  obtain ⟨m, x, hm⟩ := h
  rcases open_slice ht hm with ⟨rfl, _⟩ | ⟨a, len, cap, mm, n, D, Pl, rfl, _⟩
  · exact ⟨_, rfl, .inl rfl⟩
  · exact ⟨_, rfl, .inr ⟨_, _, _, rfl⟩⟩
theorem rd_sliceV {t e : TypeId} {cs : List Value} {k : Nat} (Good : List V → Prop) (h : Rd enc P w t cs) (ht : P.underlying t = some (.slice e)) (hk : P.cellsOf e = k) (hk0 : 0 < k) (hk1 : k ≤ 1048576)
    (f : ∀ es, es.length = k → Rd enc P w e es → ∃ row : List V, row.length = k ∧ CellsV w row es ∧ Good row) : ∃ v kk rows, cs = [v] ∧ CellV w (.fsl kk k rows) v ∧ rows.length ≤ maxLen ∧ ∀ r ∈ rows, Good r := by
  obtain ⟨v0, hv0, hnil⟩ := rd_nil h ht
  obtain ⟨v, n, es, h1, h2, ⟨A, c, h3, h4, h5, h6⟩, h7⟩ := h.slice ht hk hk0
  have hvv : v0 = v := by rw [hv0] at h1; cases h1; rfl
  subst hvv
  have rows : ∀ es : List (List Value), (∀ i (h : i < es.length), es[i].length = k ∧ Rd enc P w e es[i]) → ∃ rows : List (List V), RowsV w k rows es.flatten ∧ rows.length = es.length ∧ ∀ r ∈ rows, Good r := by
    intro es
    induction es with
    | nil => exact fun _ => ⟨[], rfl, rfl, fun r hr => by simp at hr⟩
    | cons a es ih =>
      intro h
      obtain ⟨rows, r1, r2, r3⟩ := ih fun i hi => h (i + 1) (by simpa using hi)
      obtain ⟨row, q1, q2, q3⟩ := f a (h 0 (by simp)).1 (h 0 (by simp)).2
      refine ⟨row :: rows, ⟨a, es.flatten, by simp, q1, q2, r1⟩, by simp [r2], fun r hr => ?_⟩
      rcases List.mem_cons.1 hr with rfl | hr
      · exact q3
      · exact r3 r hr
  obtain ⟨rows, r1, r2, r3⟩ := rows es h7
  obtain ⟨kk, hc⟩ := CellV.slice (A := A) (n := n) (c := c) hk0 hk1 (fun hA => by
    rcases hnil with hq | ⟨a, n', c', hq⟩
    · rw [h3] at hq; cases hq; exact ⟨rfl, rfl⟩
    · rw [h3, hA] at hq; cases hq) h4 h5 (by omega) r1 h6
  exact ⟨v0, kk, rows, h1, by rw [h3]; exact hc, by omega, r3⟩
theorem rd_two {t : TypeId} {f0 f1 : Field} {cs : List Value} (h : Rd enc P w t cs) (ht : P.underlying t = some (.struct #[f0, f1])) {a b : Nat} (o0 : f0.offset = 0) (c0 : P.cellsOf f0.type = a) (o1 : f1.offset = a) (c1 : P.cellsOf f1.type = b) (hc : P.cellsOf t = a + b) :
    ∃ x y, cs = x ++ y ∧ x.length = a ∧ y.length = b ∧ Rd enc P w f0.type x ∧ Rd enc P w f1.type y := by
  obtain ⟨hl, h0, h1⟩ := h.struct2 ht
  rw [o0, c0, List.drop_zero] at h0
  rw [o1, c1] at h1
  have e1 : (cs.drop a).take b = cs.drop a := List.take_of_length_le (by simp; omega)
  rw [e1] at h1
  exact ⟨cs.take a, cs.drop a, (List.take_append_drop a cs).symm, by simp; omega, by simp; omega, h0, h1⟩
end
end Go.Proofs.Ytldhfdagmaklaaa.VM
end
section
set_option maxHeartbeats 8000000
set_option linter.unusedVariables false
set_option linter.unusedSimpArgs false

/- Numbers as bytes, seven bits a byte: plain. -/
namespace Go.Proofs.Ytldhfdagmaklaaa
open B
def vencF : Nat → Nat → List Int
  | 0, _ => []
  | k + 1, n => if n < 128 then [(n : Int)] else ((n % 128 + 128 : Nat) : Int) :: vencF k (n / 128)
/-- A number's bytes. -/
def venc (n : Nat) : List Int := vencF 10 n
theorem vencF_more : ∀ (k n : Nat), n < 128 ^ k → 0 < k → vencF (k + 1) n = vencF k n := by
  intro k
  induction k with
  | zero => intro n _ h; omega
  | succ k ih =>
    intro n hn _
    by_cases h : n < 128
    · simp [vencF, h]
    · have e1 : ∀ j, vencF (j + 1) n = ((n % 128 + 128 : Nat) : Int) :: vencF j (n / 128) := fun j => by rw [vencF, if_neg h]
      rw [e1, e1]
      congr 1
      rcases Nat.eq_zero_or_pos k with h0 | h0
      · subst h0; omega
      · exact ih (n / 128) (by rw [Nat.pow_succ] at hn; omega) h0
theorem venc_lt (n : Nat) (h : n < 128) : venc n = [(n : Int)] := by simp [venc, vencF, h]
theorem venc_ge (n : Nat) (h : 128 ≤ n) (h2 : n < 18446744073709551616) : venc n = ((n % 128 + 128 : Nat) : Int) :: venc (n / 128) := by
  have e : vencF 10 n = ((n % 128 + 128 : Nat) : Int) :: vencF 9 (n / 128) := by rw [vencF, if_neg (by omega)]
  unfold venc
  rw [e, vencF_more 9 (n / 128) (by omega) (by omega)]
theorem vencF_length : ∀ k n, (vencF k n).length ≤ k := by
  intro k
  induction k with
  | zero => intro n; simp [vencF]
  | succ k ih => intro n; unfold vencF; split <;> simp [ih]
theorem venc_length (n : Nat) : (venc n).length ≤ 10 := vencF_length 10 n
theorem venc_pos (n : Nat) : 0 < (venc n).length := by unfold venc vencF; split <;> simp
theorem vencF_byte : ∀ k n x, x ∈ vencF k n → 0 ≤ x ∧ x ≤ 255 := by
  intro k
  induction k with
  | zero => intro n x h; simp [vencF] at h
  | succ k ih =>
    intro n x h
    unfold vencF at h
    split at h
    · simp at h; omega
    · rcases List.mem_cons.1 h with rfl | h
      · omega
      · exact ih _ x h
theorem venc_byte (n : Nat) (x : Int) (h : x ∈ venc n) : 0 ≤ x ∧ x ≤ 255 := vencF_byte 10 n x h
/-- Numbers' bytes, one behind the other. -/
def vencs (l : List Int) : List Int := l.flatMap fun n => venc n.toNat
theorem vencs_append (a b : List Int) : vencs (a ++ b) = vencs a ++ vencs b := by simp [vencs]
theorem vencs_length (l : List Int) : (vencs l).length ≤ 10 * l.length := by
  induction l with
  | nil => simp [vencs]
  | cons a l ih =>
    have := venc_length a.toNat
    simp only [vencs, List.flatMap_cons, List.length_append, List.length_cons] at *
    omega
theorem vencs_pos (l : List Int) : l.length ≤ (vencs l).length := by
  induction l with
  | nil => simp [vencs]
  | cons a l ih =>
    have := venc_pos a.toNat
    simp only [vencs, List.flatMap_cons, List.length_append, List.length_cons] at *
    omega
end Go.Proofs.Ytldhfdagmaklaaa
end
section
set_option maxHeartbeats 8000000
set_option linter.unusedVariables false
set_option linter.unusedSimpArgs false

/- varint: put and Put. -/
namespace Go.Proofs.Ytldhfdagmaklaaa.VM
open Go Go.Proofs AM
/-- A byte, in a row. -/
def bc (b : Int) : List V := [.lit (.int .u8 b)]
/-- A slice of bytes; of whole numbers. -/
def BS (k : Bool) (l : List Int) : V := .fsl k 1 (l.map bc)
def ic (n : Int) : List V := [i6 n]
def IS (k : Bool) (l : List Int) : V := .fsl k 1 (l.map ic)
attribute [simp] BS bc IS ic
set_option maxRecDepth 100000
theorem bits_or (r : Nat) (h : r < 256) : bits BinOp.or IntKind.u8 (r : Int) 128 = ((r % 128 + 128 : Nat) : Int) := by
  have : ∀ r : Fin 256, bits BinOp.or IntKind.u8 ((r : Nat) : Int) 128 = (((r : Nat) % 128 + 128 : Nat) : Int) := by decide +kernel
  exact this ⟨r, h⟩
theorem bits_or' (q : Nat) : bits BinOp.or IntKind.u8 ((q : Int) % 256) 128 = ((q % 128 + 128 : Nat) : Int) := by
  have := bits_or (q % 256) (by omega)
  rw [show ((q % 256 : Nat) : Int) = (q : Int) % 256 by omega] at this
  rw [this]
  congr 1
  omega
theorem v_put {H : Hp} {g w : Nat} {rows : List (List V)} {t : Bool} {n : Nat} (hg : H[g]? = some (.vec w rows 1 true t)) (hp : PureR rows) (hl : rows.length ≤ 1000000) (hn : n < 18446744073709551616) :
    VC Try.prog prims 106 [.own g w, .lit (.int .u64 n)] H fun u T => ∃ w', u = .own g w' ∧ T = H.set g (.vec w' (rows ++ (venc n).map bc) 1 true t) := by
  refine v_enter hC [] (fun _ _ => kn_none rfl) Try.func106 rfl ok106 (Nat.le_of_ble_eq_true rfl) fun hcl hbl => ?_
  simp
  refine v_loopX hC (fun (X : Nat × List Int) e T => ∃ w', T = H.set g (.vec w' (rows ++ X.2.map bc) 1 true t) ∧ e 0 = .own g w' ∧ e 1 = .lit (.int .u64 X.1) ∧ X.1 < 18446744073709551616 ∧ venc n = X.2 ++ venc X.1 ∧ X.2.length ≤ 10) (fun X => X.1) (n, []) (G.refl ?_) ?_
  · refine ⟨w, ?_, by simp, by simp, hn, by simp, by simp⟩
    rw [List.map_nil, List.append_nil]
    exact (set_self hg).symm
  · rintro ⟨m, done⟩ e T ⟨w', rfl, h0, h1, hm, hv, hd⟩
    have hgl := get_lt hg
    have hset : ∀ y, (H.set g y)[g]? = some y := fun y => List.getElem?_set_self hgl
    simp [h0, h1, hset]
    simp only at h1 hm hv hd
    have hw8 : IntKind.u8.wrap (m : Int) = (m : Int) % 256 := by simp [IntKind.wrap, IntKind.bits, IntKind.signed]
    have hlen : done.length + (venc m).length ≤ 10 := by have := venc_length n; rw [hv, List.length_append] at this; exact this
    have hpos := venc_pos m
    refine CondV.dec (fun hge => ?_) (fun hlt => ?_)
    · have hge : 128 ≤ m := by omega
      have hfd : ((m : Int)).fdiv (2 ^ min 7 IntKind.u64.bits) = ((m / 128 : Nat) : Int) := by
        rw [show min 7 IntKind.u64.bits = 7 from rfl, Int.fdiv_eq_ediv_of_nonneg _ (by decide)]; omega
      have hvm := venc_ge m hge hm
      simp [h0, h1, hset, hw8, bits_or', hfd]
      refine ⟨by omega, GH.refl ⟨(m / 128, done ++ [((m % 128 + 128 : Nat) : Int)]), ⟨w' + 1, ?_, ?_, ?_, ?_, ?_, ?_⟩, ?_⟩⟩
      · simp
      · simp
      · simp
      · simp only; omega
      · simp only; rw [hv, hvm]; simp
      · simp only [List.length_append, List.length_singleton]; omega
      · simp only; omega
    · have hlt : m < 128 := by omega
      simp [h0, h1, hset, hw8, Try.results106]
      refine ⟨by omega, GV.refl ⟨w' + 1, rfl, ?_⟩⟩
      rw [hv, venc_lt m hlt]
      simp [show (m : Int) % 256 = m by omega]
/-- Numbers' bytes, or none. -/
def putB (l : List Int) : List Int := if l.all (fun n => decide (0 ≤ n)) then vencs l else []
theorem v_Put {kk : Bool} {l : List Int} (hl : l.length ≤ 10000) (hr : ∀ n ∈ l, n < 9223372036854775808) : A 70 [IS kk l] (BS true (putB l)) := by
  intro H
  refine v_enter hC [] (fun _ _ => kn_none rfl) Try.func70 rfl ok70 (Nat.le_of_ble_eq_true rfl) fun hcl hbl => ?_
  simp
  have get : ∀ {k : Nat} (h : k < l.length), l[k]? = some l[k] := fun h => List.getElem?_eq_getElem h
  refine v_loopX hC (fun (k : Nat) e T => ∃ w t, T = H ++ [.vec w ((vencs (l.take k)).map bc) 1 true t] ∧ e 3 = .own H.length w ∧ e 6 = IS kk l ∧ e 7 = i6 l.length ∧ e 8 = i6 k ∧ k ≤ l.length ∧ ∀ n ∈ l.take k, 0 ≤ n) (fun k => l.length - k) 0 ?_ ?_
  · refine G.nilT0 (s := 1) 3 hcl (Nat.le_refl _) (by omega) (by simp) ?_
    exact ⟨0, true, by simp [vencs], by simp, by simp, by simp, by simp, by simp, by simp⟩
  · rintro k e T ⟨w, t, rfl, h3, h6, h7, h8, hk, hpos⟩
    simp [h3, h6, h7, h8]
    refine CondV.dec (fun hlt => ?_) (fun hge => ?_)
    · simp [h3, h6, h7, h8, get hlt]
      have hrk := hr l[k] (List.getElem_mem hlt)
      refine CondV.dec (fun hneg => ?_) (fun hnn => ?_)
      · have hm : putB l = [] := by
          unfold putB
          rw [if_neg]
          intro h
          have := List.all_eq_true.1 h l[k] (List.getElem_mem hlt)
          simp at this
          omega
        simp [Try.results70]
        first | (refine GV.ans hcl ?_; simp [hm]; done) | (refine GV.ans0 ?_; simp [hm]; done)
      · obtain ⟨n, hln⟩ : ∃ n : Nat, l[k] = n := ⟨l[k].toNat, by omega⟩
        have hw : IntKind.u64.wrap l[k] = (n : Int) := by simp [IntKind.wrap, IntKind.bits, IntKind.signed]; omega
        have hlen : (vencs (l.take k)).length ≤ 100000 := by
          have := vencs_length (l.take k)
          rw [List.length_take] at this
          omega
        simp [h3, hw]
        refine CALLv.at (v_put (n := n) (rows := (vencs (l.take k)).map bc) (List.getElem?_concat_length ..) (by simp) (by simp; omega) (by omega)) fun u T' hu => ?_
        obtain ⟨w2, e1, e2⟩ := hu
        subst e1; subst e2
        simp [h3, h6, h7, h8, w64 (n := (k : Int) + 1) (by omega)]
        refine GH.refl ⟨k + 1, ⟨w2, t, ?_, ?_, ?_, ?_, ?_, hlt, ?_⟩, by omega⟩ <;> (try simp [h6, h7])
        · rw [List.take_succ_eq_append_getElem hlt, vencs_append]
          simp [vencs, hln]
        · rw [List.take_succ_eq_append_getElem hlt]
          intro n hn
          rcases List.mem_append.1 hn with hn | hn
          · exact hpos n hn
          · simp at hn; subst hn; omega
    · have hm : putB l = vencs l := by
        unfold putB
        rw [if_pos]
        rw [List.all_eq_true]
        intro n hn
        rw [List.take_of_length_le (by omega)] at hpos
        simpa using hpos n hn
      have ht : l.take k = l := List.take_of_length_le (by omega)
      simp [h3, Try.results70]
      first | (refine GV.ans hcl ?_; simp [hm, ht]; done) | (refine GV.ans0 ?_; simp [hm, ht]; done)
end Go.Proofs.Ytldhfdagmaklaaa.VM
end
section
set_option maxHeartbeats 8000000
set_option linter.unusedVariables false
set_option linter.unusedSimpArgs false

/- Bytes as a law's argument. -/
namespace Go.Proofs.Ytldhfdagmaklaaa.VM
open Go Go.Proofs Go.RowKit AM B
theorem rows_bc : ∀ {rows : List (List V)}, (∀ r ∈ rows, ∃ x : Int, (0 ≤ x ∧ x ≤ 255) ∧ r = bc x) → ∃ l : List Int, rows = l.map bc ∧ ∀ x ∈ l, 0 ≤ x ∧ x ≤ 255
  | [], _ => ⟨[], rfl, by simp⟩
  | r :: rs, h => by
    obtain ⟨e, he1, he2⟩ := h r (by simp)
    obtain ⟨l, hl, hb⟩ := rows_bc (rows := rs) fun x hx => h x (by simp [hx])
    refine ⟨e :: l, by rw [he2, hl]; rfl, fun x hx => ?_⟩
    rcases List.mem_cons.1 hx with rfl | hx
    · exact he1
    · exact hb x hx
/-- Bytes. -/
theorem rd_bytes {H : Type} {enc : TypeId × Value → H} {w : World} {cs : List Value} (h : Rd enc Try.prog w 48 cs) : ∃ v kk, ∃ l : List Int, cs = [v] ∧ l.length < 2 ^ 63 ∧ (∀ x ∈ l, 0 ≤ x ∧ x ≤ 255) ∧ CellV w (BS kk l) v := by
  obtain ⟨v, kk, rows, e, hc, hl, hg⟩ := rd_sliceV (fun r => ∃ x : Int, (0 ≤ x ∧ x ≤ 255) ∧ r = bc x) h Try.underlying48 (by kernel_rfl : Try.prog.cellsOf 5 = 1) (by omega) (by omega) (fun es h1 h2 => by
    obtain ⟨x, rfl, hw⟩ := h2.int Try.underlying5
    refine ⟨bc x, rfl, ⟨_, _, rfl, .lit rfl, rfl⟩, x, ?_, rfl⟩
    simp [Lit.wf, IntKind.min, IntKind.max, IntKind.signed, IntKind.bits] at hw
    omega)
  obtain ⟨l, rfl, hb⟩ := rows_bc hg
  exact ⟨v, kk, l, e, by simp only [List.length_map, maxLen] at hl; omega, hb, hc⟩
theorem arg_bytes {H : Type} {enc : TypeId × Value → H} {w : World} {v : Value} (h : Rd enc Try.prog w 48 [v]) : ∃ kk, ∃ l : List Int, l.length < 2 ^ 63 ∧ (∀ x ∈ l, 0 ≤ x ∧ x ≤ 255) ∧ ArgV w (BS kk l) v := by
  obtain ⟨u, kk, l, e, h1, h2, h3⟩ := rd_bytes h
  cases e
  exact ⟨kk, l, h1, h2, h3.arg⟩
theorem rows_ic : ∀ {rows : List (List V)}, (∀ r ∈ rows, ∃ x : Int, r = ic x) → ∃ l : List Int, rows = l.map ic
  | [], _ => ⟨[], rfl⟩
  | r :: rs, h => by
    obtain ⟨e, he⟩ := h r (by simp)
    obtain ⟨l, hl⟩ := rows_ic (rows := rs) fun x hx => h x (by simp [hx])
    exact ⟨e :: l, by rw [he, hl]; rfl⟩
/-- Whole numbers. -/
theorem rd_ints {H : Type} {enc : TypeId × Value → H} {w : World} {cs : List Value} (h : Rd enc Try.prog w 22 cs) : ∃ v kk, ∃ l : List Int, cs = [v] ∧ l.length < 2 ^ 63 ∧ CellV w (IS kk l) v := by
  obtain ⟨v, kk, rows, e, hc, hl, hg⟩ := rd_sliceV (fun r => ∃ x : Int, r = ic x) h Try.underlying22 (by kernel_rfl : Try.prog.cellsOf 3 = 1) (by omega) (by omega) (fun es h1 h2 => by
    obtain ⟨x, rfl, hw⟩ := h2.int Try.underlying3
    exact ⟨ic x, rfl, ⟨_, _, rfl, .lit rfl, rfl⟩, x, rfl⟩)
  obtain ⟨l, rfl⟩ := rows_ic hg
  exact ⟨v, kk, l, e, by simp only [List.length_map, maxLen] at hl; omega, hc⟩
theorem arg_ints {H : Type} {enc : TypeId × Value → H} {w : World} {v : Value} (h : Rd enc Try.prog w 22 [v]) : ∃ kk, ∃ l : List Int, l.length < 2 ^ 63 ∧ ArgV w (IS kk l) v := by
  obtain ⟨u, kk, l, e, h1, h3⟩ := rd_ints h
  cases e
  exact ⟨kk, l, h1, h3.arg⟩
end Go.Proofs.Ytldhfdagmaklaaa.VM
end
section
set_option maxHeartbeats 8000000
set_option linter.unusedVariables false
set_option linter.unusedSimpArgs false

/- Bytes, one behind the other (as in VX, for seats without nodes). -/
namespace Go.Proofs.Ytldhfdagmaklaaa.VM
open Go Go.Proofs AM B
set_option maxRecDepth 100000
theorem parts {ls : List (Bool × List (List V))} {M : Nat} (hn : ∀ p ∈ ls, p.2.length ≤ M) : ∃ (S : Nat → Nat) (F : Nat → List (List V)), S 0 = 0 ∧ F 0 = [] ∧ (∀ k (h : k < ls.length), S (k + 1) = S k + ls[k].2.length ∧ F (k + 1) = F k ++ ls[k].2) ∧ (∀ k, k ≤ ls.length → S k ≤ M * k ∧ (F k).length = S k) ∧ F ls.length = (ls.map (·.2)).flatten := by
  have h1 : ∀ k (h : k < ls.length), (((ls.take (k + 1)).map (·.2)).flatten).length = (((ls.take k).map (·.2)).flatten).length + ls[k].2.length ∧ ((ls.take (k + 1)).map (·.2)).flatten = ((ls.take k).map (·.2)).flatten ++ ls[k].2 := fun k h => by
    rw [List.take_succ_eq_append_getElem h, List.map_append, List.flatten_append]
    simp only [List.map_cons, List.map_nil, List.flatten_cons, List.flatten_nil, List.append_nil, List.length_append, and_self]
  refine ⟨fun k => (((ls.take k).map (·.2)).flatten).length, fun k => ((ls.take k).map (·.2)).flatten, by simp, by simp, h1, fun k => ?_, by simp⟩
  refine fun hk => ⟨?_, rfl⟩
  induction k with
  | zero => simp
  | succ k ih =>
    have h2 := (h1 k hk).1
    have h3 := hn ls[k] (List.getElem_mem hk)
    have h4 := ih (by omega)
    dsimp only at h2 h4 ⊢
    rw [h2, Nat.mul_add]
    omega
theorem v_bGrow {n : Nat} (hn : n ≤ 100000000) : AO 105 [.lit (.slice none 0 0), i6 n] 1 [] := by
  intro H
  refine v_enter hC [] (fun _ _ => kn_none rfl) Try.func105 rfl ok105 (Nat.le_of_ble_eq_true rfl) fun hcl hbl => ?_
  simp
  refine CondV.dec (fun h => by omega) (fun h => ?_)
  simp [w64 (n := (n : Int)) (by omega), w64 (n := (0 : Int)) (by omega)]
  refine CondV.dec (fun h => ?_) (fun h => ?_)
  · simp [bounds, h, Try.results105]
    exact ⟨by omega, GV.own hcl (List.getElem?_concat_length ..) (Nat.le_refl _) (by simp) (by simp) ⟨_, _, rfl, rfl⟩⟩
  · simp [Try.results105]
    exact GV.nil0 hcl (by omega) (by omega) ⟨_, _, rfl, rfl⟩
theorem v_bConcat {kk : Bool} {ls : List (Bool × List (List V))} (hs : ∀ p ∈ ls, RowsOk 1 p.2) (hp : ∀ p ∈ ls, PureR p.2) (hl : ls.length ≤ 1000) (hn : ∀ p ∈ ls, p.2.length ≤ 100000) : AO 69 [.fsl kk 1 (ls.map fun p => [.fsl p.1 1 p.2])] 1 (ls.map (·.2)).flatten := by
  intro H
  refine v_enter hC [] (fun _ _ => kn_none rfl) Try.func69 rfl ok69 (Nat.le_of_ble_eq_true rfl) fun hcl hbl => ?_
  simp
  obtain ⟨S, F, s0, f0, hk1, hk2, hF⟩ := parts hn
  rw [← hF]
  have get : ∀ {k : Nat} (h : k < ls.length), ls[k]? = some ls[k] := fun h => List.getElem?_eq_getElem h
  refine v_loopX hC (fun (k : Nat) e T => T = H ∧ e 0 = .fsl kk 1 (ls.map fun p => [.fsl p.1 1 p.2]) ∧ e 3 = i6 (S k) ∧ e 9 = e 0 ∧ e 10 = i6 ls.length ∧ e 11 = i6 k ∧ k ≤ ls.length) (fun k => ls.length - k) 0 (G.refl ?_) ?_
  · simp [s0]
  · rintro k e T ⟨rfl, h0, h3, h9, h10, h11, hk⟩
    have b1 := hk2 k hk
    simp [h0, h3, h9, h10, h11]
    refine CondV.dec (fun hlt => ?_) (fun hge => ?_)
    · have b2 := hk1 k hlt
      have b3 := hn ls[k] (List.getElem_mem hlt)
      simp [h0, h3, h9, h10, h11, get hlt, w64 (n := (S k : Int) + ls[k].2.length) (by omega)]
      refine CondV.dec (fun h => by omega) (fun h => ?_)
      simp [h0, h3, h9, h10, h11, w64 (n := (k : Int) + 1) (by omega)]
      refine GH.refl ⟨k + 1, ⟨rfl, ?_, ?_, ?_, ?_, ?_, hlt⟩, by omega⟩ <;> simp [h0, h9, h10, b2.1]
    · have hke : k = ls.length := by omega
      subst hke
      simp [h3]
      refine (v_bGrow (by omega)).call fun w t => ?_
      simp [h0]
      refine v_loopX hC (fun (k : Nat) e U => ∃ w t, U = T ++ [.vec w (F k) 1 true t] ∧ e 6 = .own T.length w ∧ e 25 = .fsl kk 1 (ls.map fun p => [.fsl p.1 1 p.2]) ∧ e 26 = i6 ls.length ∧ e 27 = i6 k ∧ k ≤ ls.length) (fun k => ls.length - k) 0 (G.refl ?_) ?_
      · exact ⟨w, t, by simp [f0]⟩
      · rintro k e U ⟨w, t, rfl, h6, h25, h26, h27, hk⟩
        have b1 := hk2 k hk
        simp [h6, h25, h26, h27]
        refine CondV.dec (fun hlt => ?_) (fun hge => ?_)
        · have b2 := hk1 k hlt
          have b3 := hn ls[k] (List.getElem_mem hlt)
          simp [h6, h25, h26, h27, get hlt, hs ls[k] (List.getElem_mem hlt)]
          refine ⟨by omega, ?_⟩
          simp [h6, h25, h26, h27, w64 (n := (k : Int) + 1) (by omega)]
          refine GH.refl ⟨k + 1, ⟨w + 1, t, ?_, ?_, ?_, ?_, ?_, hlt⟩, by omega⟩ <;> simp [h25, h26, b2.2]
        · have hke : k = ls.length := by omega
          subst hke
          simp [h6, Try.results69]
          refine GV.own hcl (List.getElem?_concat_length ..) (Nat.le_refl _) ?_ ?_ ⟨_, _, rfl, rfl⟩
          · rw [hF]; intro r hr
            obtain ⟨l, hl, hr⟩ := List.mem_flatten.1 hr
            obtain ⟨p, hp, rfl⟩ := List.mem_map.1 hl
            exact hs p hp r hr
          · rw [hF]; intro r hr
            obtain ⟨l, hl, hr⟩ := List.mem_flatten.1 hr
            obtain ⟨p, hp', rfl⟩ := List.mem_map.1 hl
            exact hp p hp' r hr
/-- Bytes, one behind the other. -/
theorem v_bCat {kk : Bool} {ls : List (Bool × List Int)} (hl : ls.length ≤ 1000) (hn : ∀ p ∈ ls, p.2.length ≤ 100000) : A 69 [.fsl kk 1 (ls.map fun p => [BS p.1 p.2])] (BS true (ls.map (·.2)).flatten) := by
  have h := (v_bConcat (kk := kk) (ls := ls.map fun p => (p.1, p.2.map bc)) (fun p hp => by
    obtain ⟨q, _, rfl⟩ := List.mem_map.1 hp
    intro r hr
    obtain ⟨x, _, rfl⟩ := List.mem_map.1 hr
    exact ⟨rfl, rfl⟩) (fun p hp => by
    obtain ⟨q, _, rfl⟩ := List.mem_map.1 hp
    exact PureR_map.2 (by simp)) (by simpa using hl) (fun p hp => by
    obtain ⟨q, hq, rfl⟩ := List.mem_map.1 hp
    simpa using hn q hq)).fro (by
    intro r hr
    obtain ⟨l, hl, hr⟩ := List.mem_flatten.1 hr
    obtain ⟨p, hp, rfl⟩ := List.mem_map.1 hl
    obtain ⟨q, _, rfl⟩ := List.mem_map.1 hp
    obtain ⟨x, _, rfl⟩ := List.mem_map.1 hr
    rfl) true
  have e1 : (List.map (fun p : Bool × List (List V) => [V.fsl p.1 1 p.2]) (ls.map fun p => (p.1, p.2.map bc))) = ls.map fun p => [BS p.1 p.2] := by rw [List.map_map]; rfl
  have e2 : ((ls.map fun p => (p.1, p.2.map bc)).map (·.2)).flatten = ((ls.map (·.2)).flatten).map bc := by
    rw [List.map_map, List.map_flatten, List.map_map]; rfl
  rw [e1, e2] at h
  exact h
theorem v_PutO {kk : Bool} {l : List Int} (hl : l.length ≤ 10000) (hr : ∀ n ∈ l, n < 9223372036854775808) (hnn0 : ∀ n ∈ l, 0 ≤ n) : AO 70 [IS kk l] 1 ((vencs l).map bc) := by
  intro H
  refine v_enter hC [] (fun _ _ => kn_none rfl) Try.func70 rfl ok70 (Nat.le_of_ble_eq_true rfl) fun hcl hbl => ?_
  simp
  have get : ∀ {k : Nat} (h : k < l.length), l[k]? = some l[k] := fun h => List.getElem?_eq_getElem h
  refine v_loopX hC (fun (k : Nat) e T => ∃ w t, T = H ++ [.vec w ((vencs (l.take k)).map bc) 1 true t] ∧ e 3 = .own H.length w ∧ e 6 = IS kk l ∧ e 7 = i6 l.length ∧ e 8 = i6 k ∧ k ≤ l.length ∧ ∀ n ∈ l.take k, 0 ≤ n) (fun k => l.length - k) 0 ?_ ?_
  · refine G.nilT0 (s := 1) 3 hcl (Nat.le_refl _) (by omega) (by simp) ?_
    exact ⟨0, true, by simp [vencs], by simp, by simp, by simp, by simp, by simp, by simp⟩
  · rintro k e T ⟨w, t, rfl, h3, h6, h7, h8, hk, hpos⟩
    simp [h3, h6, h7, h8]
    refine CondV.dec (fun hlt => ?_) (fun hge => ?_)
    · simp [h3, h6, h7, h8, get hlt]
      have hrk := hr l[k] (List.getElem_mem hlt)
      refine CondV.dec (fun hneg => ?_) (fun hnn => ?_)
      · have := hnn0 l[k] (List.getElem_mem hlt); omega
      · obtain ⟨n, hln⟩ : ∃ n : Nat, l[k] = n := ⟨l[k].toNat, by omega⟩
        have hw : IntKind.u64.wrap l[k] = (n : Int) := by simp [IntKind.wrap, IntKind.bits, IntKind.signed]; omega
        have hlen : (vencs (l.take k)).length ≤ 100000 := by
          have := vencs_length (l.take k)
          rw [List.length_take] at this
          omega
        simp [h3, hw]
        refine CALLv.at (v_put (n := n) (rows := (vencs (l.take k)).map bc) (List.getElem?_concat_length ..) (by simp) (by simp; omega) (by omega)) fun u T' hu => ?_
        obtain ⟨w2, e1, e2⟩ := hu
        subst e1; subst e2
        simp [h3, h6, h7, h8, w64 (n := (k : Int) + 1) (by omega)]
        refine GH.refl ⟨k + 1, ⟨w2, t, ?_, ?_, ?_, ?_, ?_, hlt, ?_⟩, by omega⟩ <;> (try simp [h6, h7])
        · rw [List.take_succ_eq_append_getElem hlt, vencs_append]
          simp [vencs, hln]
        · rw [List.take_succ_eq_append_getElem hlt]
          intro n hn
          rcases List.mem_append.1 hn with hn | hn
          · exact hpos n hn
          · simp at hn; subst hn; omega
    · have ht : l.take k = l := List.take_of_length_le (by omega)
      rw [ht]
      simp [h3, Try.results70]
      exact GV.own hcl (List.getElem?_concat_length ..) (Nat.le_refl _) (fun r hr => by obtain ⟨x, _, rfl⟩ := List.mem_map.1 hr; exact ⟨rfl, rfl⟩) (PureR_map.2 (by simp)) ⟨_, _, rfl, rfl⟩
end Go.Proofs.Ytldhfdagmaklaaa.VM
end
section
set_option maxHeartbeats 8000000
set_option linter.unusedVariables false
set_option linter.unusedSimpArgs false

/- crc: steps, told, Add, Sum, low, Mark. -/
namespace Go.Proofs.Ytldhfdagmaklaaa.VM
open Go Go.Proofs AM B
set_option maxRecDepth 100000
def u4 (n : Nat) : V := .lit (.int .u32 n)
attribute [simp] u4
/-- The table, so far. -/
def tabC (k : Nat) : List V := (List.range 256).map fun i => u4 (if i < k then crI 8 i else 0)
@[simp] theorem tabC_len (k : Nat) : (tabC k).length = 256 := by simp [tabC]
def z256 : List Value := (List.range 256).map fun _ => .int .u32 0
theorem lc256 : litCells z256 = some (tabC 0) := by kernel_rfl
theorem tabC_set {k : Nat} (h : k < 256) : (tabC k).set k (u4 (crI 8 k)) = tabC (k + 1) := by
  apply List.ext_getElem (by simp [tabC])
  intro i h1 h2
  rw [List.getElem_set]
  simp only [tabC, List.getElem_map, List.getElem_range]
  by_cases hi : k = i
  · subst hi; simp
  · rw [if_neg hi]
    by_cases h3 : i < k
    · simp [h3, show i < k + 1 by omega]
    · simp [h3, show ¬ i < k + 1 by omega]
theorem tabC_put {k : Nat} (h : k < 256) : List.take k (tabC k) ++ V.lit (.int .u32 (crI 8 k)) :: List.drop (k + 1) (tabC k) = tabC (k + 1) := by
  rw [← tabC_set h, List.set_eq_take_append_cons_drop, if_pos (by simp; omega)]
  rfl
@[simp] theorem tabC_take {k : Nat} : List.take 256 (tabC k) = tabC k := List.take_of_length_le (by simp)
theorem tabC_cell {k : Nat} : ∀ x ∈ tabC k, x.isCell = true := by
  intro x hx
  simp only [tabC, List.mem_map] at hx
  obtain ⟨i, _, rfl⟩ := hx
  rfl
theorem tabC_pure {k : Nat} : pureVs (tabC k) = true := by
  unfold tabC
  generalize List.range 256 = l
  induction l with
  | nil => rfl
  | cons a l ih => rw [List.map_cons]; simpa [pureVs, pureV] using ih
theorem tabC_at {i : Nat} (h : i < 256) : (tabC 256)[i]? = some (u4 (crI 8 i)) := by simp [tabC, h]
theorem ze256 : zerosOf Try.prog 198 1 = some z256 := by kernel_rfl
@[simp ↓] theorem al256 {H : Hp} {n : Nat} : ((zerosOf Try.prog 198 1).bind fun zs => (litCells zs).map fun cs => (V.ptr n 0, H ++ [Ob.mem cs true])) = some (V.ptr n 0, H ++ [Ob.mem (tabC 0) true]) := by
  rw [ze256, Option.bind_some, lc256, Option.map_some]
theorem v_steps : A 135 [] (.agg (tabC 256)) := by
  intro H
  refine v_enter hC [] (fun _ _ => kn_none rfl) Try.func135 rfl ok135 (Nat.le_of_ble_eq_true rfl) fun hcl hbl => ?_
  simp

  refine v_loopX hC (fun (k : Nat) e T => T = H ++ [.mem (tabC 0) true, .mem (tabC k) true] ∧ e 0 = .ptr H.length 0 ∧ e 1 = .ptr (H.length + 1) 0 ∧ e 5 = i6 k ∧ k ≤ 256) (fun k => 256 - k) 0 (G.refl ?_) ?_
  · simp
  · rintro k e T ⟨rfl, h0, h1, h5, hk⟩
    simp [h5]
    refine CondV.dec (fun hlt => ?_) (fun hge => ?_)
    · have hlt : k < 256 := by omega
      have hw := wrap32 (n := k) (by omega)
      simp [h0, h1, h5, hw]
      refine v_loopX hC (fun (j : Nat) e T => T = H ++ [.mem (tabC 0) true, .mem (tabC k) true] ∧ e 0 = .ptr H.length 0 ∧ e 1 = .ptr (H.length + 1) 0 ∧ e 5 = i6 k ∧ e 2 = i6 k ∧ e 3 = u4 (crI j k) ∧ e 10 = i6 j ∧ j ≤ 8) (fun j => 8 - j) 0 (G.refl ?_) ?_
      · simp [crI, h0, h1, h5]
      · rintro j e T ⟨rfl, h0, h1, h5, h2, h3, h10, hj⟩
        have hr := crI_lt (r := k) (by omega) j
        simp [h10]
        refine CondV.dec (fun hlt2 => ?_) (fun hge2 => ?_)
        · have hl := u32_low hr
          have hp : bits BinOp.xor IntKind.u32 ((crI j k : Int) / 2) 2197175160 = ((crI j k / 2 ^^^ 2197175160 : Nat) : Int) := by rw [show ((crI j k : Int) / 2) = ((crI j k / 2 : Nat) : Int) by omega]; exact u32_pol (by omega)
          have hf : ((crI j k : Nat) : Int).fdiv (2 ^ min 1 IntKind.u32.bits) = ((crI j k / 2 : Nat) : Int) := u32_sh _ 1
          simp [h0, h1, h2, h3, h5, h10, hl, hf]
          have h2e : crI j k % 2 = 0 ∨ crI j k % 2 = 1 := by omega
          refine CondV.dec (fun h => ?_) (fun h => ?_)
          · have h : crI j k % 2 = 1 := by omega
            have hc : crI (j + 1) k = crI j k / 2 ^^^ 2197175160 := by simp only [crI]; unfold cr1; rw [if_pos h]
            simp [h0, h1, h2, h5, h10, hp, w64 (n := (j : Int) + 1) (by omega)]
            refine GH.refl ⟨j + 1, ⟨rfl, ?_, ?_, ?_, ?_, ?_, ?_, by omega⟩, by omega⟩ <;> simp [h0, h1, h2, h5, hc]
          · have h : ¬ crI j k % 2 = 1 := by omega
            have hc : crI (j + 1) k = crI j k / 2 := by simp only [crI]; unfold cr1; rw [if_neg h]
            simp [h0, h1, h2, h5, h10, hp, w64 (n := (j : Int) + 1) (by omega)]
            refine GH.refl ⟨j + 1, ⟨rfl, ?_, ?_, ?_, ?_, ?_, ?_, by omega⟩, by omega⟩ <;> simp [h0, h1, h2, h5, hc]
        · have hj8 : j = 8 := by omega
          subst hj8
          have hst := tabC_set hlt
          simp [h0, h1, h2, h3, h5, hlt, w64 (n := (k : Int) + 1) (by omega)]
          refine ⟨by omega, GH.refl ⟨k + 1, ⟨?_, ?_, ?_, ?_, by omega⟩, by omega⟩⟩
          · rw [tabC_put hlt]
          · simp [h0]
          · simp [h1]
          · simp
    · have hk6 : k = 256 := by omega
      subst hk6
      simp [h0, h1, Try.results135]
      refine ⟨tabC_cell, ?_⟩
      refine GV.ans hcl ?_
      simp
      exact Ups.self (pures_bel tabC_pure)
/-- The table at a place. -/
theorem tabV_at {x : Nat} (h : x < 256) : (tabC 256)[x]? = some (u4 (crI 8 x)) := tabC_at h
theorem xor_ones {r : Nat} (h : r < 4294967296) : 4294967295 ^^^ r = 4294967295 - r := by
  apply Nat.eq_of_testBit_eq
  intro i
  rw [Nat.testBit_xor, show (4294967295 : Nat) = 2 ^ 32 - 1 from rfl, Nat.testBit_two_pow_sub_one, show 2 ^ 32 - 1 - r = 2 ^ 32 - (r + 1) by omega, Nat.testBit_two_pow_sub_succ h]
  by_cases hi : i < 32
  · simp [hi]
  · simp [hi]
    exact Nat.testBit_lt_two_pow (Nat.lt_of_lt_of_le h (show 4294967296 ≤ 2 ^ i from Nat.pow_le_pow_right (n := 2) (by decide) (show 32 ≤ i by omega)))
theorem u32_not {r : Nat} (h : r < 4294967296) : bits BinOp.xor IntKind.u32 (if IntKind.u32.signed = true then -1 else IntKind.u32.max) (r : Int) = ((4294967295 - r : Nat) : Int) := by
  have := u32_xor (a := 4294967295) (by decide) h
  rw [xor_ones h] at this
  exact this
theorem u8_at {q : Nat} {c : Int} (hc : 0 ≤ c ∧ c ≤ 255) : bits BinOp.xor IntKind.u8 (IntKind.u8.wrap (q : Int)) c = ((q % 256 ^^^ c.toNat : Nat) : Int) := by
  have h := u8_xor (a := q % 256) (b := c.toNat) (by omega) (by omega)
  rw [show ((c.toNat : Nat) : Int) = c by omega] at h
  rw [← h]
  congr 1
theorem v_told {H : Hp} {g r : Nat} {ra kk kb : Bool} {l : List Int} (hg : H[g]? = some (.mem (tabC 256) ra)) (hr : r < 4294967296) (hl : l.length < 2 ^ 48) (hb : ∀ x ∈ l, 0 ≤ x ∧ x ≤ 255) :
    VC Try.prog prims 136 [u4 r, .ptr g 0, .fsl kk 1 [[BS kb l]]] H fun u T => u = u4 (4294967295 - crF (4294967295 - r) l) ∧ T = H := by
  refine v_enter hC [] (fun _ _ => kn_none rfl) Try.func136 rfl ok136 (Nat.le_of_ble_eq_true rfl) fun hcl hbl => ?_
  have hn := u32_not hr
  obtain ⟨r0, hr0⟩ : ∃ r0, 4294967295 - r = r0 := ⟨_, rfl⟩
  have hr0l : r0 < 4294967296 := by omega
  rw [hr0] at hn ⊢
  simp [hn]
  refine v_loopX hC (fun (k : Nat) e T => T = H ∧ e 1 = .ptr g 0 ∧ e 14 = .fsl kk 1 [[BS kb l]] ∧ e 15 = i6 1 ∧ e 16 = i6 k ∧ k ≤ 1 ∧ e 7 = u4 (if k = 0 then r0 else crF r0 l)) (fun k => 1 - k) 0 (G.refl ?_) ?_
  · simp
  · rintro k e T ⟨rfl, h1, h14, h15, h16, hk, h7⟩
    simp [h15, h16]
    refine CondV.dec (fun hlt => ?_) (fun hge => ?_)
    · have hk0 : k = 0 := by omega
      subst hk0
      simp [h1, h14, h15, h16] at h7 ⊢
      refine v_loopX hC (fun (j : Nat) e U => U = T ∧ e 1 = .ptr g 0 ∧ e 14 = .fsl kk 1 [[BS kb l]] ∧ e 15 = i6 1 ∧ e 16 = i6 0 ∧ e 20 = BS kb l ∧ e 21 = i6 l.length ∧ e 22 = i6 j ∧ j ≤ l.length ∧ e 7 = u4 (crF r0 (l.take j))) (fun j => l.length - j) 0 (G.refl ?_) ?_
      · simp [h1, h14, h15, h16, h7, crF]
      · rintro j e U ⟨rfl, h1, h14, h15, h16, h20, h21, h22, hj, h7⟩
        simp [h21, h22]
        refine CondV.dec (fun hlt => ?_) (fun hge => ?_)
        · have hlt : j < l.length := by omega
          obtain ⟨c, hc⟩ : ∃ c, l[j] = c := ⟨_, rfl⟩
          have hget : l[j]? = some c := by rw [List.getElem?_eq_getElem hlt, hc]
          have hcb := hb c (hc ▸ List.getElem_mem hlt)
          have htk : crF r0 (l.take (j + 1)) = crB (crF r0 (l.take j)) c := by rw [List.take_succ_eq_append_getElem hlt, hc, crF_snoc]
          have hql := crF_lt (l := l.take j) hr0l (fun x hx => hb x (List.mem_of_mem_take hx))
          generalize crF r0 (l.take j) = q at *
          have hu := u8_at (q := q) hcb
          have hx := xor8 (a := q % 256) (b := c.toNat) (by omega) (by omega)
          have hcr : crB q c = crI 8 (q % 256 ^^^ c.toNat) ^^^ (q / 256) := rfl
          generalize q % 256 ^^^ c.toNat = x at hu hx hcr
          have hxl := crI_lt (r := x) (by omega) 8
          have hf : (q : Int).fdiv (2 ^ min 8 IntKind.u32.bits) = ((q / 256 : Nat) : Int) := u32_sh q 8
          have hxx := u32_xor hxl (b := q / 256) (by omega)
          rw [← hcr] at hxx
          have hxl2 : x < (tabC 256).length := by simp; omega
          have hat : (tabC 256)[x] = u4 (crI 8 x) := by have := tabV_at hx; rw [List.getElem?_eq_getElem hxl2] at this; simpa using this
          have hxx : bits BinOp.xor IntKind.u32 (crI 8 x : Nat) ((q : Int) / 256) = (crB q c : Nat) := by rw [← hxx]; congr 1
          simp [h1, h7, h20, h21, h22, hget, hu, hx, hg, hat, hf, show x ≤ 256 by omega, hxx, w64 (n := (j : Int) + 1) (by omega)]
          refine GH.refl ⟨j + 1, ⟨rfl, ?_, ?_, ?_, ?_, ?_, ?_, ?_, by omega, ?_⟩, by omega⟩ <;> simp [h1, h14, h15, h16, h20, h21, htk]
        · have hjl : l.take j = l := List.take_of_length_le (by omega)
          rw [hjl] at h7
          simp [h16]
          refine GH.refl ⟨1, ⟨rfl, ?_, ?_, ?_, ?_, by omega, ?_⟩, by omega⟩
          · simp [h1]
          · simp [h14]
          · simp [h15]
          · rfl
          · simp [h7]
    · have hk1 : k = 1 := by omega
      subst hk1
      have hq := crF_lt (l := l) hr0l hb
      have hn2 := u32_not hq
      simp [h7, hn2, Try.results136]
      first | (refine GV.ans hcl ?_; simp []; done) | (refine GV.ans0 ?_; simp []; done)
end Go.Proofs.Ytldhfdagmaklaaa.VM
end
section
set_option maxHeartbeats 8000000
set_option linter.unusedVariables false
set_option linter.unusedSimpArgs false

/- crc: Add, Sum, low, Mark. -/
namespace Go.Proofs.Ytldhfdagmaklaaa.VM
open Go Go.Proofs AM B
set_option maxRecDepth 100000
@[simp] theorem tabC_drop {k : Nat} : List.drop 256 (tabC k) = [] := List.drop_of_length_le (by simp)
@[simp] theorem tabC_all {k : Nat} : (tabC k).all V.isCell = true := List.all_eq_true.2 tabC_cell
theorem v_crAdd {H : Hp} {g a n : Nat} {kk kb : Bool} {l : List Int} (hg : H[g]? = some (.mem [u4 a, i6 n] true)) (ha : a < 4294967296) (hl : l.length < 2 ^ 40) (hn : n < 2 ^ 40) (hb : ∀ x ∈ l, 0 ≤ x ∧ x ≤ 255) :
    VC Try.prog prims 125 [.ptr g 0, .fsl kk 1 [[BS kb l]]] H fun u T => u = .ptr g 0 ∧ T = H.set g (.mem [u4 (4294967295 - crF (4294967295 - a) l), i6 ((n + l.length : Nat) : Int)] true) := by
  refine v_enter hC [] (fun _ _ => kn_none rfl) Try.func125 rfl ok125 (Nat.le_of_ble_eq_true rfl) fun hcl hbl => ?_
  have hgl := get_lt hg
  simp
  refine v_steps.call ?_
  have hgX : ∀ X, (H ++ X)[g]? = some (.mem [u4 a, i6 n] true) := fun X => by rw [List.getElem?_append_left hgl, hg]
  have hst : ∀ X y, (H ++ X).set g y = H.set g y ++ X := fun X y => List.set_append_left _ _ hgl
  have hsg : ∀ X y, (H.set g y ++ X)[g]? = some y := fun X y => by rw [List.getElem?_append_left (by simpa using hgl), List.getElem?_set_self hgl]
  simp [hgX]
  refine CALLv.at (v_told (g := H.length) (kk := kk) (kb := kb) (l := l) (List.getElem?_concat_length ..) ha (by omega) hb) fun u T hu => ?_
  obtain ⟨e1, e2⟩ := hu
  subst e1; subst e2
  have hs2 : ∀ X y z, (H.set g y ++ X).set g z = H.set g z ++ X := fun X y z => by rw [List.set_append_left _ _ (by simpa using hgl), List.set_set]
  simp [hgX, hst, hsg]
  refine v_once hC ?_
  simp [hgX, hst, hsg, hs2, w64 (n := (n : Int) + l.length) (by omega)]
  refine v_once hC ?_
  simp [hgX, hst, hsg, show IntKind.i64.wrap 1 = 1 from rfl, Try.results125]
  have h := GV.ret (H := H.set g (.mem [u4 (4294967295 - crF (4294967295 - a) l), i6 ((n + l.length : Nat) : Int)] true)) (X := [.mem (tabC 256) true]) (x := .ptr g 0) (R := fun u T => u = .ptr g 0 ∧ T = H.set g (.mem [u4 (4294967295 - crF (4294967295 - a) l), i6 ((n + l.length : Nat) : Int)] true)) (.ptr g 0) (Cl.set hcl (by simp [Ob.bel, Bels, Bel])) (by simp [hgl]) ⟨rfl, rfl⟩
  rw [List.length_set] at h
  simp at h
  exact h
theorem v_low {n : Nat} (hn : n < 4294967296) : A 114 [u4 n] (BS true (low4 n)) := by
  intro H
  refine v_enter hC [] (fun _ _ => kn_none rfl) Try.func114 rfl ok114 (Nat.le_of_ble_eq_true rfl) fun hcl hbl => ?_
  have h1 : (n : Int).fdiv (2 ^ min 8 IntKind.u32.bits) = ((n / 256 : Nat) : Int) := u32_sh n 8
  have h2 : (n : Int).fdiv (2 ^ min 16 IntKind.u32.bits) = ((n / 65536 : Nat) : Int) := u32_sh n 16
  have h3 : (n : Int).fdiv (2 ^ min 24 IntKind.u32.bits) = ((n / 16777216 : Nat) : Int) := u32_sh n 24
  have hw : ∀ m : Int, IntKind.u8.wrap m = m % 256 := fun m => by simp [IntKind.wrap, IntKind.bits, IntKind.signed]
  simp [h1, h2, h3, hw, Try.results114]
  first | (refine GV.ans hcl ?_; simp [low4]; done) | (refine GV.ans0 ?_; simp [low4]; done)
theorem v_value {n : Nat} : A 137 [u4 n] (u4 n) := by
  intro H
  refine v_enter hC [] (fun _ _ => kn_none rfl) Try.func137 rfl ok137 (Nat.le_of_ble_eq_true rfl) fun hcl hbl => ?_
  simp [Try.results137]
  first | (refine GV.ans hcl ?_; simp []; done) | (refine GV.ans0 ?_; simp []; done)
theorem v_regSum {H : Hp} {g n : Nat} {x : V} {ra : Bool} (hg : H[g]? = some (.mem [u4 n, x] ra)) : VC Try.prog prims 126 [.ptr g 0] H fun u T => u = u4 n ∧ T = H := by
  refine v_enter hC [] (fun _ _ => kn_none rfl) Try.func126 rfl ok126 (Nat.le_of_ble_eq_true rfl) fun hcl hbl => ?_
  simp [hg]
  refine v_value.call ?_
  simp [Try.results126]
  exact GV.refl ⟨rfl, rfl⟩
theorem v_crSum {kk kb : Bool} {l : List Int} (hl : l.length < 2 ^ 40) (hb : ∀ x ∈ l, 0 ≤ x ∧ x ≤ 255) : A 115 [.fsl kk 1 [[BS kb l]]] (u4 (crcS l)) := by
  intro H
  refine v_enter hC [] (fun _ _ => kn_none rfl) Try.func115 rfl ok115 (Nat.le_of_ble_eq_true rfl) fun hcl hbl => ?_
  simp
  refine CALLv.at (v_crAdd (g := H.length) (a := 0) (n := 0) (kk := kk) (kb := kb) (l := l) (List.getElem?_concat_length ..) (by omega) hl (by omega) hb) fun u T hu => ?_
  obtain ⟨e1, e2⟩ := hu
  subst e1; subst e2
  simp
  refine CALLv.at (v_regSum (g := H.length) (n := crcS l) (x := i6 l.length) (ra := true) (by simp [crcS])) fun u T hu => ?_
  obtain ⟨e1, e2⟩ := hu
  subst e1; subst e2
  simp [Try.results115]
  first | (refine GV.ans hcl ?_; simp []; done) | (refine GV.ans0 ?_; simp []; done)
theorem v_Mark {kb : Bool} {l : List Int} (hl : l.length ≤ 90000) (hb : ∀ x ∈ l, 0 ≤ x ∧ x ≤ 255) : A 94 [BS kb l] (BS true (markB l)) := by
  intro H
  refine v_enter hC [] (fun _ _ => kn_none rfl) Try.func94 rfl ok94 (Nat.le_of_ble_eq_true rfl) fun hcl hbl => ?_
  simp
  refine (v_crSum (kk := true) (kb := kb) (l := l) (by omega) hb).callU [.fsl true 1 [[BS kb l]]] (by simp) ?_
  simp
  refine (v_low (crcS_lt l)).call ?_
  simp
  refine (v_bCat (kk := true) (ls := [(kb, l), (true, low4 (crcS l))]) (by simp) (by simp [low4]; omega)).callU [.fsl true 1 [[BS kb l], [BS true (low4 (crcS l))]]] (by simp) ?_
  simp [Try.results94]
  first | (refine GV.ans hcl ?_; simp [markB]; done) | (refine GV.ans0 ?_; simp [markB]; done)
end Go.Proofs.Ytldhfdagmaklaaa.VM
end
section
set_option maxHeartbeats 8000000
set_option linter.unusedVariables false
set_option linter.unusedSimpArgs false

/- bytes: the document's Put, Same, bytes.Equal. -/
namespace Go.Proofs.Ytldhfdagmaklaaa.VM
open Go Go.Proofs AM
set_option maxRecDepth 100000
theorem v_rPut {n : Nat} (hn : n < 18446744073709551616) : A 74 [.lit (.int .u64 n)] (BS true (venc n)) := by
  intro H
  refine v_enter hC [] (fun _ _ => kn_none rfl) Try.func74 rfl ok74 (Nat.le_of_ble_eq_true rfl) fun hcl hbl => ?_
  simp
  refine v_loopX hC (fun (X : Nat × List Int) e T => ∃ w t, T = H ++ [.vec w (X.2.map bc) 1 true t] ∧ e 0 = .lit (.int .u64 X.1) ∧ e 3 = .own H.length w ∧ X.1 < 18446744073709551616 ∧ venc n = X.2 ++ venc X.1) (fun X => X.1) (n, []) ?_ ?_
  · refine G.nilT0 (s := 1) 3 hcl (Nat.le_refl _) (by omega) (by simp) ?_
    exact ⟨0, true, by simp, by simp, by simp, hn, by simp⟩
  · rintro ⟨m, done⟩ e T ⟨w, t, rfl, h0, h3, hm, hv⟩
    simp only at h0 hm hv
    have hlen : done.length + (venc m).length ≤ 10 := by have := venc_length n; rw [hv, List.length_append] at this; exact this
    have hpos := venc_pos m
    have hw1 : IntKind.u8.wrap ((m : Int) % 128) = ((m % 128 : Nat) : Int) := by
      simp [IntKind.wrap, IntKind.bits, IntKind.signed]; omega
    have hw3 : IntKind.u8.wrap ((m : Int).tmod 128) = ((m % 128 : Nat) : Int) := by
      rw [Int.tmod_eq_emod_of_nonneg (by omega)]; exact hw1
    have hw2 : IntKind.u64.wrap ((m : Int) / 128) = ((m / 128 : Nat) : Int) := by
      simp [IntKind.wrap, IntKind.bits, IntKind.signed]; omega
    simp [h0, h3, hw1, hw2, hw3]
    refine CondV.dec (fun hz => ?_) (fun hnz => ?_)
    · have hlt : m < 128 := by omega
      have hv2 : venc n = done ++ [(m : Int)] := by rw [hv, venc_lt m hlt]
      simp [h0, h3, hw1, hw2, hw3, Try.results74]
      refine ⟨by omega, ?_⟩
      have hmm : (m : Int) % 128 = m := by omega
      rw [hmm]
      first | (refine GV.ans hcl ?_; simp [hv2]; done) | (refine GV.ans0 ?_; simp [hv2]; done)
    · have hge : 128 ≤ m := by omega
      have hvm := venc_ge m hge hm
      have hw4 : IntKind.u8.wrap ((m : Int) % 128 + 128) = ((m % 128 + 128 : Nat) : Int) := by
        simp [IntKind.wrap, IntKind.bits, IntKind.signed]; omega
      simp [h0, h3, hw1, hw2, hw3, hw4]
      refine ⟨by omega, GH.refl ⟨(m / 128, done ++ [((m % 128 + 128 : Nat) : Int)]), ⟨w + 1, t, ?_, ?_, ?_, ?_, ?_⟩, ?_⟩⟩
      · simp
      · simp
      · simp
      · simp only; omega
      · simp only; rw [hv, hvm]; simp
      · simp only; omega
theorem getL {l : List Int} {k : Nat} (h : k < l.length) : l[k]? = some l[k] := List.getElem?_eq_getElem h
theorem v_Same1 {kk km : Bool} {l m : List Int} (hl : l.length < 2 ^ 62) : A 28 [BS kk l, BS km m] (bo (decide (l = m))) := by
  intro H
  refine v_enter hC [] (fun _ _ => kn_none rfl) Try.func28 rfl ok28 (Nat.le_of_ble_eq_true rfl) fun hcl hbl => ?_
  simp
  by_cases hlen : l.length = m.length
  · simp [hlen]
    refine v_loopX hC (fun (k : Nat) e T => T = H ∧ e 0 = BS kk l ∧ e 1 = BS km m ∧ e 5 = i6 k ∧ k ≤ l.length ∧ ∀ j (h : j < k) (h1 : j < l.length) (h2 : j < m.length), l[j] = m[j]) (fun k => l.length - k) 0 (G.refl ?_) ?_
    · simp
    · rintro k e T ⟨rfl, h0, h1, h5, hk, hall⟩
      simp [h0, h1, h5]
      refine CondV.dec (fun hlt => ?_) (fun hge => ?_)
      · have hlt : k < l.length := by omega
        simp [h0, h1, h5]
        refine v_draw (ord := [0, 1, 2, 3, 4, 5, 6, 7, 8]) (m := 8) (by decide +kernel) (by decide +kernel) ?_
        simp [h0, h1, h5, getL hlt, getL (show k < m.length by omega)]
        refine CondV.on (fun hb => ?_) (fun hb => ?_)
        · have : l ≠ m := fun e => by subst e; simp at hb
          simp [Try.results28]
          first | (refine GV.ans hcl ?_; simp [this]; done) | (refine GV.ans0 ?_; simp [this]; done)
        · have hb : l[k] = m[k] := by simpa using hb
          simp [h0, h1, h5, w64 (n := (k : Int) + 1) (by omega)]
          refine GH.refl ⟨k + 1, ⟨rfl, ?_, ?_, ?_, hlt, fun j hj h1 h2 => ?_⟩, by omega⟩ <;> (try simp [h0, h1])
          by_cases hjk : j = k
          · subst hjk; exact hb
          · exact hall j (by omega) h1 h2
      · have : l = m := List.ext_getElem hlen fun j h1 h2 => hall j (by omega) h1 h2
        simp [Try.results28]
        first | (refine GV.ans hcl ?_; simp [this]; done) | (refine GV.ans0 ?_; simp [this]; done)
  · have : l ≠ m := fun e => hlen (by rw [e])
    have hlen : ¬ ((l.length : Int) = m.length) := by omega
    simp [hlen, Try.results28]
    first | (refine GV.ans hcl ?_; simp [this]; done) | (refine GV.ans0 ?_; simp [this]; done)
def u8 (x : Int) : UInt8 := UInt8.ofNat x.toNat
theorem bytesV_bc : ∀ l : List Int, bytesV (l.map bc) = some (l.map u8)
  | [] => rfl
  | x :: l => by
    have := bytesV_bc l
    simp only [List.map_cons, bc, bytesV, byteOfV] at this ⊢
    rw [bytesV_bc l]
    rfl
theorem u8_inj {x y : Int} (hx : 0 ≤ x ∧ x ≤ 255) (hy : 0 ≤ y ∧ y ≤ 255) (h : u8 x = u8 y) : x = y := by
  have := congrArg UInt8.toNat h
  simp [u8] at this
  omega
theorem map_u8 : ∀ {l m : List Int}, (∀ x ∈ l, 0 ≤ x ∧ x ≤ 255) → (∀ x ∈ m, 0 ≤ x ∧ x ≤ 255) → (l.map u8 == m.map u8) = decide (l = m)
  | [], [], _, _ => by simp
  | [], _ :: _, _, _ => by simp
  | _ :: _, [], _, _ => by simp
  | x :: l, y :: m, hl, hm => by
    have := map_u8 (l := l) (m := m) (fun z hz => hl z (by simp [hz])) (fun z hz => hm z (by simp [hz]))
    simp only [List.map_cons, List.cons_beq_cons, this]
    by_cases hxy : x = y
    · subst hxy; simp
    · have : u8 x ≠ u8 y := fun h => hxy (u8_inj (hl x (by simp)) (hm y (by simp)) h)
      simp [hxy, this]
theorem v_bEqual {kk km : Bool} {l m : List Int} (hl : l ≠ []) (hm : m ≠ []) (bl : ∀ x ∈ l, 0 ≤ x ∧ x ≤ 255) (bm : ∀ x ∈ m, 0 ≤ x ∧ x ≤ 255) : A 57 [BS kk l, BS km m] (bo (decide (l = m))) := by
  intro H
  have h1 := List.length_pos_iff.2 hl
  have h2 := List.length_pos_iff.2 hm
  refine v_enter hC [] (fun _ _ => kn_none rfl) Try.func57 rfl ok57 (Nat.le_of_ble_eq_true rfl) fun hcl hbl => ?_
  simp only [BS]
  simp [-bytesV, bytesV_bc, h1, h2, map_u8 bl bm, Try.results57]
  first | (refine GV.ans hcl ?_; simp []; done) | (refine GV.ans0 ?_; simp []; done)
end Go.Proofs.Ytldhfdagmaklaaa.VM
end
section
set_option maxHeartbeats 8000000
set_option linter.unusedVariables false
set_option linter.unusedSimpArgs false

/- varint: the reader. -/
namespace Go.Proofs.Ytldhfdagmaklaaa.VM
open Go Go.Proofs AM B
set_option maxRecDepth 100000
theorem v_bClone {kk : Bool} {l : List Int} (hl : l.length ≤ 100000) : A 86 [BS kk l] (BS true l) := by
  intro H
  refine v_enter hC [] (fun _ _ => kn_none rfl) Try.func86 rfl ok86 (Nat.le_of_ble_eq_true rfl) fun hcl hbl => ?_
  simp [Try.results86]
  refine ⟨⟨by omega, ?_⟩, fun h => ?_⟩
  · first | (refine GV.ans hcl ?_; simp []; done) | (refine GV.ans0 ?_; simp []; done)
  · subst h
    have := GV.ans (H := H) (X := []) (v := BS true []) (x := .lit (.slice none 0 0)) hcl (by simp)
    rw [List.append_nil] at this
    exact this
theorem bounds_hi {n L : Nat} (h : n ≤ L) : bounds L L none (some (n : Int)) none = some (0, n, L) := by
  simp [bounds]; omega
theorem bounds_lo {n L : Nat} (h : n ≤ L) : bounds L L (some (n : Int)) none none = some (n, L, L) := by
  simp [bounds]; omega
theorem v_take {T : Hp} {g : Nat} {kk : Bool} {l : List Int} {er : Int} {n : Nat} (hg : T[g]? = some (.mem [BS kk l, i6 er] true)) (hl : l.length ≤ 100000) (hn : n ≤ l.length) :
    VC Try.prog prims 129 [.ptr g 0, i6 n] T fun u U => u = BS true (l.take n) ∧ U = T.set g (.mem [BS false (l.drop n), i6 er] true) := by
  refine v_enter hC [] (fun _ _ => kn_none rfl) Try.func129 rfl ok129 (Nat.le_of_ble_eq_true rfl) fun hcl hbl => ?_
  simp [hg, bounds_hi hn]
  refine (v_bClone (kk := kk) (l := l.take n) (by rw [List.length_take]; omega)).callU [BS kk (l.take n)] (by simp) ?_
  simp [hg, bounds_lo hn, Try.results129]
  exact GV.refl ⟨by simp, by simp⟩
theorem v_left {T : Hp} {g : Nat} {kk : Bool} {l : List Int} {er : Int} (hg : T[g]? = some (.mem [BS kk l, i6 er] true)) (hl : l.length ≤ 100000) :
    VC Try.prog prims 130 [.ptr g 0] T fun u U => u = BS true l ∧ U = T := by
  refine v_enter hC [] (fun _ _ => kn_none rfl) Try.func130 rfl ok130 (Nat.le_of_ble_eq_true rfl) fun hcl hbl => ?_
  simp [hg]
  refine (v_bClone (kk := kk) (l := l) hl).callU [BS kk l] (by simp) ?_
  simp [Try.results130]
  exact GV.refl ⟨by simp, rfl⟩
theorem v_end {T : Hp} {g : Nat} {kk : Bool} {l : List Int} {er : Int} (hg : T[g]? = some (.mem [BS kk l, i6 er] true)) (hl : l.length ≤ 100000) :
    VC Try.prog prims 128 [.ptr g 0] T fun u U => u = .tup [BS true (if er = 0 then l else []), i6 er] ∧ U = T := by
  refine v_enter hC [] (fun _ _ => kn_none rfl) Try.func128 rfl ok128 (Nat.le_of_ble_eq_true rfl) fun hcl hbl => ?_
  simp [hg]
  refine CondV.on (fun h => ?_) (fun h => ?_)
  · have h : er ≠ 0 := by simpa using h
    simp
    refine v_draw (ord := [0, 1, 2, 3, 4, 5]) (m := 0) (by decide +kernel) (by decide +kernel) ?_
    simp [hg, Try.results128]
    have := GV.ans (H := T) (X := []) (v := .tup [BS true (if er = 0 then l else []), i6 er]) (x := .tup [.lit (.slice none 0 0), i6 er]) hcl (by simp [h])
    rw [List.append_nil] at this
    exact this
  · have h : er = 0 := by simpa using h
    subst h
    simp [hg]
    refine CALLv.at (v_left hg hl) fun u T' hu => ?_
    obtain ⟨e1, e2⟩ := hu
    subst e1; subst e2
    simp [Try.results128]
    exact GV.refl ⟨by simp, rfl⟩
end Go.Proofs.Ytldhfdagmaklaaa.VM
end
section
set_option maxHeartbeats 8000000
set_option linter.unusedVariables false
set_option linter.unusedSimpArgs false

/- corpus: Check, at, total, with. -/
namespace Go.Proofs.Ytldhfdagmaklaaa.VM
open Go Go.Proofs AM B
set_option maxRecDepth 100000
structure Dc where
  id : Int
  b : List Int
deriving DecidableEq, Inhabited
def dcK (k : Bool) (d : Dc) : List V := [i6 d.id, BS k d.b]
abbrev dc (d : Dc) : List V := dcK true d
attribute [simp] dcK
/-- A slice of documents. -/
def DS (k : Bool) (l : List Dc) : V := .fsl k 2 (l.map dc)
attribute [simp] DS
def docAt (l : List Dc) (j : Nat) : Dc := l.getD j ⟨0, []⟩
theorem docAt_eq (l : List Dc) (j : Nat) (h : j < l.length) : docAt l j = l[j] := by simp [docAt, h]
theorem getD_ {l : List Dc} {k : Nat} (h : k < l.length) : l[k]? = some (docAt l k) := by rw [List.getElem?_eq_getElem h, docAt_eq l k h]
/-- What Check says of a document. -/
def dchk (d : Dc) : Int := if d.id < 1 ∨ 65535 < d.id then 1 else if 1024 < d.b.length then 2 else 0
theorem v_dCheck {kk : Bool} {d : Dc} : A 83 [.agg (dcK kk d)] (i6 (dchk d)) := by
  intro H
  refine v_enter hC [] (fun _ _ => kn_none rfl) Try.func83 rfl ok83 (Nat.le_of_ble_eq_true rfl) fun hcl hbl => ?_
  by_cases h1 : d.id < 1
  · simp [h1, Try.results83]
    first | (refine GV.ans hcl ?_; simp [dchk, h1]; done) | (refine GV.ans0 ?_; simp [dchk, h1]; done)
  · by_cases h2 : 65535 < d.id
    · simp [h1, h2, Try.results83]
      first | (refine GV.ans hcl ?_; simp [dchk, h1, h2]; done) | (refine GV.ans0 ?_; simp [dchk, h1, h2]; done)
    · simp [h1, h2]
      refine CondV.dec (fun h3 => ?_) (fun h3 => ?_)
      · have h3 : 1024 < d.b.length := by omega
        simp [Try.results83]
        first | (refine GV.ans hcl ?_; simp [dchk, h1, h2, h3]; done) | (refine GV.ans0 ?_; simp [dchk, h1, h2, h3]; done)
      · have h3 : ¬ 1024 < d.b.length := by omega
        simp [Try.results83]
        first | (refine GV.ans hcl ?_; simp [dchk, h1, h2, h3]; done) | (refine GV.ans0 ?_; simp [dchk, h1, h2, h3]; done)
/-- How many numbers are less. -/
def dAt (l : List Dc) (id : Int) : Nat := (l.takeWhile fun d => decide (d.id < id)).length
theorem dAt_le (l : List Dc) (id : Int) : dAt l id ≤ l.length := (List.takeWhile_prefix _).length_le
theorem dAt_lt {l : List Dc} {id : Int} {j : Nat} (h : j < dAt l id) : (docAt l j).id < id := by
  have hle := dAt_le l id
  rw [docAt_eq l j (by omega)]
  have h2 : (l.takeWhile fun d => decide (d.id < id))[j] = l[j] := (List.takeWhile_prefix _).getElem _
  rw [← h2]
  exact of_decide_eq_true (List.all_eq_true.1 (List.all_takeWhile (p := fun d : Dc => decide (d.id < id)) (l := l)) _ (List.getElem_mem _))
theorem dAt_at {l : List Dc} {id : Int} (h : dAt l id < l.length) : id ≤ (docAt l (dAt l id)).id := by
  rw [docAt_eq _ _ h]
  induction l with
  | nil => simp at h
  | cons a l ih =>
    unfold dAt at h ⊢
    by_cases ha : a.id < id
    · simp only [List.takeWhile_cons, ha, decide_true, if_true, List.length_cons, List.getElem_cons_succ] at h ⊢
      exact ih (by unfold dAt; omega)
    · simp only [List.takeWhile_cons, ha, decide_false, Bool.false_eq_true, if_false, List.length_nil, List.getElem_cons_zero]
      omega
/-- Numbers rise. -/
def riseD (l : List Dc) : Prop := ∀ i, 0 < i → i < l.length → (docAt l (i - 1)).id < (docAt l i).id
theorem dAt_ge {l : List Dc} {id : Int} (hr : riseD l) {j : Nat} (h1 : dAt l id ≤ j) (h2 : j < l.length) : id ≤ (docAt l j).id := by
  obtain ⟨d, rfl⟩ : ∃ d, j = dAt l id + d := ⟨j - dAt l id, by omega⟩
  clear h1
  induction d with
  | zero => exact dAt_at (by omega)
  | succ d ih =>
    have ih := ih (by omega)
    have hs := hr (dAt l id + (d + 1)) (by omega) h2
    rw [show dAt l id + (d + 1) - 1 = dAt l id + d by omega] at hs
    omega
def isD (l : List Dc) (id : Int) : Bool := decide (dAt l id < l.length ∧ (docAt l (dAt l id)).id = id)
theorem v_at1 {H : Hp} {kk ra rb : Bool} {l : List Dc} {id : Int} {g1 g2 j : Nat} (h1 : H[g1]? = some (.mem [DS kk l] ra)) (h2 : H[g2]? = some (.mem [i6 id] rb)) (hj : j < l.length) :
    VC Try.prog prims 124 [i6 j, .ptr g1 0, .ptr g2 0] H fun u T => u = bo (decide (id ≤ (docAt l j).id)) ∧ T = H := by
  refine v_enter hC [] (fun _ _ => kn_none rfl) Try.func124 rfl ok124 (Nat.le_of_ble_eq_true rfl) fun hcl hbl => ?_
  simp
  refine v_draw (ord := [0, 1, 2, 3, 4, 5, 6, 7]) (m := 6) (by decide +kernel) (by decide +kernel) ?_
  simp [h1, h2, getD_ hj, Try.results124]
  exact GV.refl ⟨rfl, rfl⟩
theorem v_at {kk : Bool} {l : List Dc} (hl : l.length < 2 ^ 48) (hr : riseD l) {id : Int} : A 111 [DS kk l, i6 id] (.tup [i6 (dAt l id), bo (isD l id)]) := by
  intro H
  refine v_enter hC [] (fun _ _ => kn_none rfl) Try.func111 rfl ok111 (Nat.le_of_ble_eq_true rfl) fun hcl hbl => ?_
  simp
  refine CALLv.at (v_Search (F := 124) (fi := []) (cp := [.ptr H.length 0, .ptr (H.length + 1) 0]) (n := l.length) (p := fun j => decide (id ≤ (docAt l j).id)) (k := dAt l id) (by omega) (dAt_le l id) (fun j hj => v_at1 (kk := kk) (ra := true) (rb := true) (by simp) (by simp) hj) (fun j hj => by have := dAt_lt hj; simp; omega) (fun j h1 h2 => by have := dAt_ge hr h1 h2; simpa using this)) fun u T hu => ?_
  obtain ⟨e1, e2⟩ := hu
  subst e1; subst e2
  simp
  refine v_draw (ord := [0, 1, 2, 3, 4, 5, 6, 7, 8, 9, 10, 11, 12, 13, 14, 15]) (m := 12) (by decide +kernel) (by decide +kernel) ?_
  simp
  refine GuardR.dec (fun hlt => ?_) (fun hge => ?_)
  · simp [getD_ hlt, hlt, Try.results111]
    first | (refine GV.ans hcl ?_; simp [isD, hlt, docAt_eq _ _ hlt]; done) | (refine GV.ans0 ?_; simp [isD, hlt, docAt_eq _ _ hlt]; done)
  · simp [hge, Try.results111]
    first | (refine GV.ans hcl ?_; simp [isD, hge]; done) | (refine GV.ans0 ?_; simp [isD, hge]; done)
/-- How many bytes all have. -/
def totD (l : List Dc) : Nat := (l.map fun d => d.b.length).sum
theorem totD_take (l : List Dc) (k : Nat) (h : k < l.length) : totD (l.take (k + 1)) = totD (l.take k) + (docAt l k).b.length := by
  unfold totD
  rw [List.take_succ_eq_append_getElem h, docAt_eq l k h, List.map_append, List.sum_append]
  simp
theorem totD_le {l : List Dc} {M : Nat} (h : ∀ d ∈ l, d.b.length ≤ M) : totD l ≤ M * l.length := by
  induction l with
  | nil => simp [totD]
  | cons a l ih =>
    have h1 := h a (by simp)
    have h2 := ih fun d hd => h d (by simp [hd])
    unfold totD at h2 ⊢
    rw [List.map_cons, List.sum_cons, List.length_cons, Nat.mul_add]
    omega
theorem v_total {kk : Bool} {l : List Dc} (hl : l.length ≤ 1000) (hb : ∀ d ∈ l, d.b.length ≤ 100000) : A 121 [DS kk l] (i6 (totD l)) := by
  intro H
  refine v_enter hC [] (fun _ _ => kn_none rfl) Try.func121 rfl ok121 (Nat.le_of_ble_eq_true rfl) fun hcl hbl => ?_
  simp
  refine v_loopX hC (fun (k : Nat) e T => T = H ∧ e 3 = i6 (totD (l.take k)) ∧ e 6 = DS kk l ∧ e 7 = i6 l.length ∧ e 8 = i6 k ∧ k ≤ l.length) (fun k => l.length - k) 0 (G.refl ?_) ?_
  · simp [totD]
  · rintro k e T ⟨rfl, h3, h6, h7, h8, hk⟩
    simp [h3, h6, h7, h8]
    refine CondV.dec (fun hlt => ?_) (fun hge => ?_)
    · have hlt : k < l.length := by omega
      have hb0 := hb _ (List.getElem_mem hlt)
      rw [← docAt_eq l k hlt] at hb0
      have ht := totD_le (l := l.take k) (M := 100000) fun d hd => hb d (List.mem_of_mem_take hd)
      rw [List.length_take] at ht
      have htk : totD (l.take k) ≤ 100000000 := by omega
      simp [h3, h6, h7, h8, getD_ hlt, w64 (n := (totD (l.take k) : Int) + (docAt l k).b.length) (by omega), w64 (n := (k : Int) + 1) (by omega)]
      refine GH.of (G.clip (Z := []) (X := [_]) (Z' := []) hcl (by simp) (by simp [UpOs]) ⟨k + 1, ⟨?_, ?_, ?_, ?_, ?_, hlt⟩, by omega⟩)
      · simp
      · simp [totD_take l k hlt]
      · simp [h6]
      · simp [h7]
      · simp
    · have ht : l.take k = l := List.take_of_length_le (by omega)
      simp [h3, ht, Try.results121]
      first | (refine GV.ans hcl ?_; simp []; done) | (refine GV.ans0 ?_; simp []; done)
theorem v_dClone {kk : Bool} {l : List Dc} (hl : l.length ≤ 100000) : AO 82 [DS kk l] 2 (l.map dc) := by
  intro H
  refine v_enter hC [] (fun _ _ => kn_none rfl) Try.func82 rfl ok82 (Nat.le_of_ble_eq_true rfl) fun hcl hbl => ?_
  simp [Try.results82]
  refine ⟨⟨by omega, ?_⟩, fun h => ?_⟩
  · exact GV.own hcl (List.getElem?_concat_length ..) (Nat.le_refl _) (by simp) (PureR_map.2 (by simp)) ⟨_, _, rfl, rfl⟩
  · subst h
    exact GV.nil0 hcl (by omega) (by omega) ⟨_, _, rfl, rfl⟩
theorem v_dInsert {H : Hp} {g w i : Nat} {rows xs : List (List V)} {t kk : Bool} (hg : H[g]? = some (.vec w rows 2 true t)) (hi : i ≤ rows.length) (hx0 : 0 < xs.length) (hx : RowsOk 2 xs) (hn : rows.length + xs.length ≤ 17179869184) :
    VC Try.prog prims 122 [.own g w, i6 i, .fsl kk 2 xs] H fun u T => u = .own g (w + 1) ∧ T = H.set g (.vec (w + 1) (rows.take i ++ xs ++ rows.drop i) 2 true t) := VC.ins prims_doc hg hi hx0 hx hn
theorem v_dDelete {H : Hp} {g w i j : Nat} {rows : List (List V)} {t : Bool} (hg : H[g]? = some (.vec w rows 2 true t)) (hi : i < j) (hj : j ≤ rows.length) (hn : rows.length ≤ 17179869184) :
    VC Try.prog prims 112 [.own g w, i6 i, i6 j] H fun u T => u = .own g (w + 1) ∧ T = H.set g (.vec (w + 1) (rows.take i ++ rows.drop j) 2 true false) := VC.del (delRun_doc fun _ _ => kn_none rfl) hg hi hj hn
/-- What with says, and the list behind it. -/
def putE (l : List Dc) (d : Dc) : Int := if dchk d ≠ 0 then dchk d else if isD l d.id = true then 8 else if l.length = 64 ∨ 8192 < totD l + d.b.length then 6 else 0
def putD (l : List Dc) (d : Dc) : List Dc := l.take (dAt l d.id) ++ [d] ++ l.drop (dAt l d.id)
/-- Documents as a corpus may have them. -/
def okD (l : List Dc) : Prop := riseD l ∧ l.length ≤ 64 ∧ ∀ d ∈ l, d.b.length ≤ 1024
theorem v_dWith {kk kd : Bool} {l : List Dc} (hl : okD l) {d : Dc} (hd : d.b.length < 2 ^ 60) : A 110 [DS kk l, .agg (dcK kd d)]
    (.tup [DS true (if putE l d = 0 then putD l d else []), i6 (putE l d)]) := by
  intro H
  refine v_enter hC [] (fun _ _ => kn_none rfl) Try.func110 rfl ok110 (Nat.le_of_ble_eq_true rfl) fun hcl hbl => ?_
  simp
  refine (v_dCheck (kk := kd) (d := d)).call ?_
  simp
  refine CondV.on (fun h => ?_) (fun h => ?_)
  · have h1 : dchk d ≠ 0 := by simpa using h
    have hm : putE l d = dchk d := by simp [putE, h1]
    simp [Try.results110]
    first | (refine GV.ans hcl ?_; simp [hm, h1]; done) | (refine GV.ans0 ?_; simp [hm, h1]; done)
  have h1 : dchk d = 0 := by simpa using h
  simp
  obtain ⟨hr, hlen, hbd⟩ := hl
  refine (v_at (kk := kk) (l := l) (by omega) hr).call ?_
  simp
  have hdl : d.b.length ≤ 1024 := by
    unfold dchk at h1
    split at h1
    · omega
    · split at h1 <;> omega
  have htot := totD_le hbd
  refine CondV.on (fun h => ?_) (fun h => ?_)
  · have hm : putE l d = 8 := by simp [putE, h1, h]
    simp [Try.results110]
    first | (refine GV.ans hcl ?_; simp [hm]; done) | (refine GV.ans0 ?_; simp [hm]; done)
  have h2 : isD l d.id = false := h
  simp
  refine v_draw (ord := [0, 1, 2, 3, 4, 5, 6, 7, 8, 9, 10, 11, 12]) (m := 8) (by decide +kernel) (by decide +kernel) ?_
  simp
  have hins : ∀ (_ : ¬ (l.length = 64 ∨ 8192 < totD l + d.b.length)), putE l d = 0 := fun h => by simp [putE, h1, h2, h]
  by_cases h64 : (l.length : Int) = 64
  · have h6 : l.length = 64 ∨ 8192 < totD l + d.b.length := .inl (by omega)
    simp [h64]
    have hm : putE l d = 6 := by simp [putE, h1, h2, h6]
    first | (refine GV.ans hcl ?_; simp [hm]; done) | (refine GV.ans0 ?_; simp [hm]; done)
  · simp [h64]
    refine (v_total (kk := kk) (l := l) (by omega) (fun d hd => by have := hbd d hd; omega)).call ?_
    simp [h64, w64 (n := (totD l : Int) + d.b.length) (by omega)]
    refine CondV.dec (fun h => ?_) (fun h => ?_)
    · have h6 : l.length = 64 ∨ 8192 < totD l + d.b.length := .inr (by omega)
      have hm : putE l d = 6 := by simp [putE, h1, h2, h6]
      simp [Try.results110]
      first | (refine GV.ans hcl ?_; simp [hm]; done) | (refine GV.ans0 ?_; simp [hm]; done)
    · have h6 : ¬ (l.length = 64 ∨ 8192 < totD l + d.b.length) := fun h' => by omega
      have hm := hins h6
      have hk := dAt_le l d.id
      have hmap : (l.map dc).take (dAt l d.id) ++ [dc d] ++ (l.map dc).drop (dAt l d.id) = (putD l d).map dc := by unfold putD; simp
      simp
      refine v_draw (ord := [0, 1, 2, 3, 4, 5, 6, 7, 8, 9, 10, 11, 12]) (m := 8) (by decide +kernel) (by decide +kernel) ?_
      simp
      refine (v_dClone (kk := kk) (l := l) (by omega)).call fun w t => ?_
      simp
      refine (v_bClone (kk := kd) (l := d.b) (by omega)).call ?_
      simp
      refine CALLv.at (v_dInsert (g := H.length + 1) (w := w) (i := dAt l d.id) (rows := l.map dc) (xs := [dc d]) (t := t) (kk := true) (by simp) (by simpa using hk) (by simp) (fun r hr => by simp at hr; subst hr; simp [V.isCell, cellB]) (by simp; omega)) fun u T hu => ?_
      obtain ⟨e1, e2⟩ := hu
      subst e1; subst e2
      rw [hmap]
      simp [Try.results110]
      first | (refine GV.ans hcl ?_; simp [hm]; done) | (refine GV.ans0 ?_; simp [hm]; done)
end Go.Proofs.Ytldhfdagmaklaaa.VM
end
section
set_option maxHeartbeats 8000000
set_option linter.unusedVariables false
set_option linter.unusedSimpArgs false

/- corpus: Add, New, Count, Total. -/
namespace Go.Proofs.Ytldhfdagmaklaaa.VM
open Go Go.Proofs AM B
set_option maxRecDepth 100000
theorem CALLv.atF {P : Program} {prim : CallF} {H H0 : Hp} {f : FuncId} {args : List V} {R : V → Hp → Prop} {k : KVV} (hf : Frz H H0) (h : VC P prim f args H0 R) (hk : ∀ v T, R v T → k.run v T) : @CALLv P prim false f args H k := ⟨H0, hf, h.mono hk⟩
/-- A cell that is nil holds a slice without elements. -/
theorem Frz.nil {H : Hp} {g s : Nat} {rw : Bool} (hg : H[g]? = some (.mem [.lit (.slice none 0 0)] rw)) (hs : s < 4294967296) : Frz H (H.set g (.mem [.fsl true s []] rw)) := by
  intro K φ σ hR
  obtain ⟨r, hr⟩ : ∃ r, φ[g]? = some r := ⟨_, List.getElem?_eq_getElem (by rw [hR.len]; exact get_lt hg)⟩
  have hob := hR.ob g _ r hg hr
  cases r with
  | vec _ _ _ => exact hob.elim
  | fro _ _ _ => exact hob.elim
  | mem b =>
    obtain ⟨vals, p, h1, h2, a, as', rfl, ⟨rfl, _⟩, h3⟩ := hob
    simp only [VRs] at h3
    subst h3
    have hs2 : φ.set g (.mem b) = φ := set_self hr
    obtain ⟨u1, u2⟩ := hR.upd (r' := .mem b) (y' := .mem [.fsl true s []] rw) (σ' := σ) hr (.refl _)
      ⟨[.slice none 0 0], p, h1, h2, .slice none 0 0, [], rfl, ⟨none, 0, rfl, fun _ => rfl, fun _ => by simp [AM.dng], by unfold capOK; rw [capOf_exact_eq (by simp [top])]; exact Nat.zero_le _, hs, .inl ⟨rfl, rfl⟩⟩, rfl⟩ (fun j hj => .inl hj) (fun _ _ _ => rfl)
    exact ⟨K, _, u2, u1⟩
theorem docAt_putD {l : List Dc} {d : Dc} (j : Nat) : docAt (putD l d) j = if j < dAt l d.id then docAt l j else if j = dAt l d.id then d else docAt l (j - 1) := by
  have hk := dAt_le l d.id
  have ht : (l.take (dAt l d.id)).length = dAt l d.id := by simp; omega
  unfold docAt putD
  simp only [List.getD_eq_getElem?_getD]
  split
  · rename_i h
    rw [List.append_assoc, List.getElem?_append_left (by omega), List.getElem?_take, if_pos h]
  · rename_i h
    split
    · rename_i h2
      rw [List.append_assoc, List.getElem?_append_right (by omega), ht, h2, Nat.sub_self]
      rfl
    · rename_i h2
      rw [List.append_assoc, List.getElem?_append_right (by omega), ht]
      obtain ⟨m, hm⟩ : ∃ m, j - dAt l d.id = m + 1 := ⟨j - dAt l d.id - 1, by omega⟩
      rw [hm, List.singleton_append, List.getElem?_cons_succ, List.getElem?_drop, show dAt l d.id + m = j - 1 by omega]
theorem putD_len (l : List Dc) (d : Dc) : (putD l d).length = l.length + 1 := by
  have hk := dAt_le l d.id
  unfold putD; simp; omega
theorem putD_mem {l : List Dc} {d x : Dc} (h : x ∈ putD l d) : x = d ∨ x ∈ l := by
  unfold putD at h
  rcases List.mem_append.1 h with h | h
  · rcases List.mem_append.1 h with h | h
    · exact .inr (List.mem_of_mem_take h)
    · exact .inl (by simpa using h)
  · exact .inr (List.mem_of_mem_drop h)
theorem putE_zero {l : List Dc} {d : Dc} (h : putE l d = 0) : (1 ≤ d.id ∧ d.id ≤ 65535 ∧ d.b.length ≤ 1024) ∧ isD l d.id = false ∧ l.length ≠ 64 ∧ totD l + d.b.length ≤ 8192 := by
  unfold putE at h
  split at h
  · omega
  · rename_i h1
    have h1 : dchk d = 0 := by simpa using h1
    split at h
    · omega
    · rename_i h2
      split at h
      · omega
      · rename_i h3
        refine ⟨?_, by simpa using h2, by omega, by omega⟩
        unfold dchk at h1
        split at h1
        · omega
        · split at h1 <;> omega
theorem putD_ok {l : List Dc} {d : Dc} (hl : okD l) (h : putE l d = 0) : okD (putD l d) := by
  obtain ⟨h1, h2, h3, h4⟩ := putE_zero h
  obtain ⟨hr, hn, hb⟩ := hl
  have hk := dAt_le l d.id
  refine ⟨fun i hi hlt => ?_, by rw [putD_len]; omega, fun x hx => ?_⟩
  · rw [putD_len] at hlt
    rw [docAt_putD, docAt_putD]
    by_cases c1 : i < dAt l d.id
    · rw [if_pos c1, if_pos (by omega)]; exact hr i hi (by omega)
    · by_cases c2 : i = dAt l d.id
      · rw [if_neg c1, if_pos c2, if_pos (by omega)]; exact dAt_lt (by omega)
      · rw [if_neg c1, if_neg c2]
        by_cases c3 : i - 1 = dAt l d.id
        · rw [if_neg (by omega), if_pos c3, c3]
          have hlt2 : dAt l d.id < l.length := by omega
          have := dAt_at hlt2
          have h2' : ¬ (dAt l d.id < l.length ∧ (docAt l (dAt l d.id)).id = d.id) := by simpa [isD] using h2
          have : (docAt l (dAt l d.id)).id ≠ d.id := fun e => h2' ⟨hlt2, e⟩
          omega
        · rw [if_neg (by omega), if_neg c3]
          exact hr (i - 1) (by omega) (by omega)
  · rcases putD_mem hx with rfl | hx
    · omega
    · exact hb x hx
/-- Documents, one after the other: what is wrong, and the list behind them. -/
def addL : List Dc → List Dc → List Dc × Int
  | l, [] => (l, 0)
  | l, d :: ds => if putE l d = 0 then addL (putD l d) ds else (l, putE l d)
theorem v_Add {H : Hp} {g : Nat} {k kk : Bool} {l ds : List Dc} (hg : H[g]? = some (.mem [DS k l] true)) (hl : okD l) (hn : ds.length < 2 ^ 48) (hd : ∀ d ∈ ds, d.b.length < 2 ^ 60) :
    VC Try.prog prims 78 [.ptr g 0, DS kk ds] H fun u T => u = i6 (addL l ds).2 ∧ ∃ k', T = if (addL l ds).2 = 0 then H.set g (.mem [DS k' (addL l ds).1] true) else H := by
  refine v_enter hC [] (fun _ _ => kn_none rfl) Try.func78 rfl ok78 (Nat.le_of_ble_eq_true rfl) fun hcl hbl => ?_
  have hgl := get_lt hg
  simp [hg]
  refine v_loopX hC (fun (X : Nat × List Dc) e T => T = H ∧ e 0 = .ptr g 0 ∧ (∃ k', e 5 = DS k' X.2) ∧ e 16 = DS kk ds ∧ e 17 = i6 ds.length ∧ e 18 = i6 X.1 ∧ X.1 ≤ ds.length ∧ okD X.2 ∧ addL l ds = addL X.2 (ds.drop X.1)) (fun X => ds.length - X.1) (0, l) (G.refl ?_) ?_
  · simp [hl]
  · rintro ⟨j, acc⟩ e T ⟨rfl, h0, ⟨k', h5⟩, h16, h17, h18, hj, hok, hv⟩
    simp only at h5 h18 hj hok hv
    simp [h0, h5, h16, h17, h18]
    refine CondV.dec (fun hlt => ?_) (fun hge => ?_)
    · have hlt : j < ds.length := by omega
      have hdj := hd _ (List.getElem_mem hlt)
      rw [← docAt_eq ds j hlt] at hdj
      have hdrop : ds.drop j = docAt ds j :: ds.drop (j + 1) := by rw [docAt_eq ds j hlt]; exact List.drop_eq_getElem_cons hlt
      rw [hdrop] at hv
      simp only [addL] at hv
      simp [h0, h5, h16, h17, h18, getD_ hlt]
      refine (v_dWith (kk := k') (kd := true) hok hdj).call ?_
      simp
      refine CondV.on (fun hz => ?_) (fun hz => ?_)
      · have hz : putE acc (docAt ds j) ≠ 0 := by simpa using hz
        rw [if_neg hz] at hv
        simp [Try.results78]
        exact GV.ret (X := [_]) (i6 (putE acc (docAt ds j))) hcl (by simp) ⟨by rw [hv], k', by rw [hv, if_neg hz]⟩
      · have hz : putE acc (docAt ds j) = 0 := by simpa using hz
        rw [if_pos hz] at hv
        simp [h0, h16, h17, h18, hz, w64 (n := (j : Int) + 1) (by omega)]
        refine GH.of (G.clip (Z := []) (X := [_]) (Z' := []) hcl (by simp) (by simp [UpOs]) ⟨(j + 1, putD acc (docAt ds j)), ⟨?_, ?_, ?_, ?_, ?_, ?_, hlt, putD_ok hok hz, hv⟩, by simp only; omega⟩)
        · simp
        · simp [h0, hgl]
        · exact ⟨true, by simp⟩
        · simp [h16]
        · simp [h17]
        · simp
    · have hv : addL l ds = (acc, 0) := by rw [hv, List.drop_of_length_le (by omega)]; rfl
      simp [h0, h5, hg, Try.results78]
      exact GV.refl ⟨by rw [hv]; rfl, k', by rw [hv]; simp⟩
theorem addL_ok : ∀ {ds l : List Dc}, okD l → okD (addL l ds).1
  | [], l, h => h
  | d :: ds, l, h => by
    unfold addL
    split
    · rename_i hz; exact addL_ok (putD_ok h hz)
    · exact h
theorem v_Count {H : Hp} {g : Nat} {k ra : Bool} {l : List Dc} (hg : H[g]? = some (.mem [DS k l] ra)) : VC Try.prog prims 113 [.ptr g 0] H fun u T => u = i6 l.length ∧ T = H := by
  refine v_enter hC [] (fun _ _ => kn_none rfl) Try.func113 rfl ok113 (Nat.le_of_ble_eq_true rfl) fun hcl hbl => ?_
  simp [hg, Try.results113]
  exact GV.refl ⟨rfl, rfl⟩
/-- No documents at all. -/
theorem v_New0 {kk : Bool} : AK 40 [DS kk []] (fun g => .tup [.ptr g 0, i6 0]) (.mem [DS false []] true) := by
  refine ⟨rfl, fun H => ?_⟩
  refine v_enter hC [] (fun _ _ => kn_none rfl) Try.func40 rfl ok40 (Nat.le_of_ble_eq_true rfl) fun hcl hbl => ?_
  simp
  refine CALLv.atF (Frz.nil (g := H.length) (s := 2) (rw := true) (by simp) (by omega)) (v_Add (g := H.length) (k := true) (kk := kk) (l := []) (ds := []) (by simp) ⟨fun i h1 h2 => by simp at h2, by simp, by simp⟩ (by simp) (by simp)) fun u T hu => ?_
  obtain ⟨e1, k', e2⟩ := hu
  subst e1
  have e2 : T = H ++ [.mem [DS k' []] true] := by rw [e2]; simp [addL]
  subst e2
  simp [addL, Try.results40]
  exact GV.keep (X := [_]) H.length (.mem [DS false []] true) (.tup [.ptr H.length 0, i6 0]) hcl ⟨_, List.getElem?_concat_length .., Nat.le_refl _, by simp⟩ (by simp) ⟨rfl, rfl⟩
end Go.Proofs.Ytldhfdagmaklaaa.VM
end
section
set_option maxHeartbeats 8000000
set_option linter.unusedVariables false
set_option linter.unusedSimpArgs false

/- The law CorpusFull: the walk. -/
namespace Go.Proofs.Ytldhfdagmaklaaa.VM
open Go Go.Proofs AM B
set_option maxRecDepth 100000
/-- Rows whose slices have been frozen. -/
theorem Frz.rows {H : Hp} {g w s : Nat} {rows rows' : List (List V)} {rw t : Bool} (hg : H[g]? = some (.vec w rows s rw t)) (ho : RowsOk s rows') (hu : UpR H.length [] [] H rows' rows) : Frz H (H.set g (.vec w rows' s rw t)) := by
  intro K φ σ hR
  obtain ⟨K', φ', h1, h2, _⟩ := ghost (n := H.length) (L := []) (E := []) (H' := H.set g (.vec w rows' s rw t)) hR (Nat.le_refl _) (by simp) (by simp) (by simp) (by simp) (fun i x y hi hx hy => by
    by_cases e : g = i
    · subst e
      rw [hg] at hx; cases hx
      rw [List.getElem?_set_self hi] at hy; cases hy
      exact ⟨rfl, rfl, rfl, rfl, ho, hu⟩
    · rw [List.getElem?_set_ne e, hx] at hy; cases hy
      exact UpO.self (hR.cl x (List.mem_of_getElem? hx))) (by simp) (by simp)
  exact ⟨K', φ', by rw [hR.len]; exact h1, h2⟩
theorem addL_one (l : List Dc) (d : Dc) : addL l [d] = if putE l d = 0 then (putD l d, 0) else (l, putE l d) := by
  simp only [addL]
theorem dAt_all {l : List Dc} {id : Int} (h : ∀ d ∈ l, d.id < id) : dAt l id = l.length := by
  unfold dAt
  congr 1
  induction l with
  | nil => rfl
  | cons a l ih => rw [List.takeWhile_cons, if_pos (by simpa using h a (by simp)), ih fun d hd => h d (by simp [hd])]
theorem totD_putD (l : List Dc) (d : Dc) : totD (putD l d) = totD l + d.b.length := by
  have : totD l = totD (l.take (dAt l d.id)) + totD (l.drop (dAt l d.id)) := by
    unfold totD
    rw [← List.sum_append, ← List.map_append, List.take_append_drop]
  rw [this]
  unfold putD totD
  simp only [List.map_append, List.sum_append, List.map_cons, List.map_nil, List.sum_cons, List.sum_nil]
  omega
end Go.Proofs.Ytldhfdagmaklaaa.VM
end
section
set_option maxHeartbeats 8000000
set_option linter.unusedVariables false
set_option linter.unusedSimpArgs false

/- CorpusNil: To, Of, and what a nil corpus answers. -/
namespace Go.Proofs.Ytldhfdagmaklaaa.VM
open Go Go.Proofs AM B
set_option maxRecDepth 100000
theorem UpR.app {n : Nat} {L E : List Nat} {H1 : Hp} : ∀ {a a' b b' : List (List V)}, UpR n L E H1 a a' → UpR n L E H1 b b' → UpR n L E H1 (a ++ b) (a' ++ b')
  | [], _, _, _, h, h' => by simp only [UpR] at h; subst h; exact h'
  | r :: rs, _, _, _, h, h' => by
    simp only [UpR] at h
    obtain ⟨u, us, rfl, h1, h2⟩ := h
    exact ⟨u, us ++ _, rfl, h1, UpR.app h2 h'⟩
/-- Documents, each with what is known of its bytes' place. -/
def DSf (k : Bool) (l : List (Bool × Dc)) : V := .fsl k 2 (l.map fun p => dcK p.1 p.2)
attribute [simp] DSf
def cutD (d : Dc) : Dc := ⟨d.id, d.b.take 1100⟩
theorem v_dTo {kk : Bool} {l : List (Bool × Dc)} (hl : l.length < 2 ^ 63) (hb : ∀ p ∈ l, p.2.b.length < 2 ^ 63) : A 41 [DSf kk l] (DS true ((l.take 3).map fun p => cutD p.2)) := by
  intro H
  refine v_enter hC [] (fun _ _ => kn_none rfl) Try.func41 rfl ok41 (Nat.le_of_ble_eq_true rfl) fun hcl hbl => ?_
  simp
  refine v_loopX hC (fun (k : Nat) e T => ∃ w t, T = H ++ [.vec w ((((l.take k).map fun p => cutD p.2)).map dc) 2 true t] ∧ e 0 = DSf kk l ∧ e 3 = .own H.length w ∧ e 4 = i6 k ∧ k ≤ l.length ∧ k ≤ 3) (fun k => l.length - k) 0 ?_ ?_
  · refine G.nilT0 (s := 2) 3 hcl (Nat.le_refl _) (by omega) (by simp) ?_
    exact ⟨0, true, by simp, by simp, by simp, by simp, by simp, by simp⟩
  · rintro k e T ⟨w, t, rfl, h0, h3, h4, hk, hk3⟩
    simp [h0, h4]
    have done : (¬ (k : Int) < l.length ∨ ¬ (k : Int) < 3) → l.take 3 = l.take k := fun h => by
      rcases h with h | h
      · rw [List.take_of_length_le (by omega), List.take_of_length_le (by omega)]
      · rw [show k = 3 by omega]
    refine GuardR.dec (fun hlt => ?_) (fun hge => ?_)
    · simp [h4, hlt]
      have hlt : k < l.length := by omega
      refine CondV.dec (fun h3k => ?_) (fun h3k => ?_)
      · obtain ⟨p, hp⟩ : ∃ p, l[k] = p := ⟨_, rfl⟩
        have hget : l[k]? = some p := by rw [List.getElem?_eq_getElem hlt, hp]
        have hpb := hb p (hp ▸ List.getElem_mem hlt)
        have hbd : bounds p.2.b.length p.2.b.length none (some (if 1100 < (p.2.b.length : Int) then 1100 else (p.2.b.length : Int))) none = some (0, min p.2.b.length 1100, p.2.b.length) := by
          rw [show (if 1100 < (p.2.b.length : Int) then 1100 else (p.2.b.length : Int)) = ((min p.2.b.length 1100 : Nat) : Int) by split <;> omega]
          exact bounds_hi (by omega)
        have htb : p.2.b.take (min p.2.b.length 1100) = p.2.b.take 1100 := by
          rcases Nat.le_total p.2.b.length 1100 with h | h
          · rw [Nat.min_eq_left h, List.take_of_length_le (Nat.le_refl _), List.take_of_length_le h]
          · rw [Nat.min_eq_right h]
        simp
        refine v_draw (ord := [6, 7, 8, 9, 10, 11, 12, 13, 14, 15, 16, 17, 18, 19, 20, 0, 1, 2, 3, 4, 5, 21, 22, 23, 24]) (m := 21) (by decide +kernel) (by decide +kernel) ?_
        simp [h0, h3, h4, hget, hbd]
        have htk : ((l.take (k + 1)).map fun p => cutD p.2).map dc = List.take k (List.map (dc ∘ fun p => cutD p.2) l) ++ [dc (cutD p.2)] := by
          rw [List.take_succ_eq_append_getElem hlt, hp]; simp
        have hpu : PureR (List.take k (List.map (dc ∘ fun p : Bool × Dc => cutD p.2) l)) := .take (PureR_map.2 fun a _ => by simp) k
        refine ⟨⟨fun r hr => ?_, by omega⟩, by omega, GH.of (G.clip (Z := [_]) (X := [_, _]) (Z' := [.vec (w + 1) (((l.take (k + 1)).map fun p => cutD p.2).map dc) 2 true t]) hcl (by simp) ?_ ⟨k + 1, ⟨w + 1, t, rfl, ?_, ?_, ?_, hlt, by omega⟩, by omega⟩)⟩
        · obtain ⟨x, _, rfl⟩ := List.mem_map.1 (List.mem_of_mem_take hr)
          exact ⟨rfl, rfl⟩
        · simp only [UpOs_cons, UpOs_nil, and_true]
          rw [htk]
          refine ⟨rfl, rfl, rfl, rfl, fun r hr => ?_, UpR.app (UpR.self hpu) ?_⟩
          · rcases List.mem_append.1 hr with hr | hr
            · obtain ⟨x, _, rfl⟩ := List.mem_map.1 (List.mem_of_mem_take hr)
              exact ⟨rfl, rfl⟩
            · simp at hr; subst hr; exact ⟨rfl, rfl⟩
          · simp [UpFz, cutD, ← htb]
        · simp [h0]
        · simp
        · simp [w64 (n := (k : Int) + 1) (by omega)]
      · have hd := done (.inr h3k)
        simp [h3, Try.results41]
        first | (refine GV.ans hcl ?_; simp [hd]; done) | (refine GV.ans0 ?_; simp [hd]; done)
    · have hd := done (.inl (by omega))
      simp [hge, h3, Try.results41]
      first | (refine GV.ans hcl ?_; simp [hd]; done) | (refine GV.ans0 ?_; simp [hd]; done)
theorem v_dOf {kk : Bool} {l : List Dc} (hl : l.length ≤ 100000) : A 42 [DS kk l] (DS true l) := by
  intro H
  refine v_enter hC [] (fun _ _ => kn_none rfl) Try.func42 rfl ok42 (Nat.le_of_ble_eq_true rfl) fun hcl hbl => ?_
  simp
  refine v_loopX hC (fun (k : Nat) e T => ∃ w t, T = H ++ [.vec w ((l.take k).map dc) 2 true t] ∧ e 0 = DS kk l ∧ e 3 = .own H.length w ∧ e 4 = i6 k ∧ k ≤ l.length) (fun k => l.length - k) 0 ?_ ?_
  · refine G.nilT0 (s := 2) 3 hcl (Nat.le_refl _) (by omega) (by simp) ?_
    exact ⟨0, true, by simp, by simp, by simp, by simp, by simp⟩
  · rintro k e T ⟨w, t, rfl, h0, h3, h4, hk⟩
    simp [h0, h4]
    refine CondV.dec (fun hlt => ?_) (fun hge => ?_)
    · have hlt : k < l.length := by omega
      simp
      refine v_draw (ord := [0, 1, 2, 3, 4, 5, 6, 7, 8, 9, 10, 11, 12, 13, 14]) (m := 11) (by decide +kernel) (by decide +kernel) ?_
      simp [h0, h3, h4, getD_ hlt]
      have htk : (l.take (k + 1)).map dc = List.take k (List.map dc l) ++ [dc (docAt l k)] := by
        rw [List.take_succ_eq_append_getElem hlt, docAt_eq l k hlt, List.map_append, List.map_take]; rfl
      refine ⟨by omega, GH.refl ⟨k + 1, ⟨w + 1, t, ?_, ?_, ?_, ?_, hlt⟩, by omega⟩⟩
      · rw [htk]; rfl
      · simp [h0]
      · simp
      · simp [w64 (n := (k : Int) + 1) (by omega)]
    · have ht : l.take k = l := List.take_of_length_le (by omega)
      have ht2 : (l.map dc).take k = l.map dc := by rw [← List.map_take, ht]
      simp [h3, Try.results42]
      first | (refine GV.ans hcl ?_; simp [ht2]; done) | (refine GV.ans0 ?_; simp [ht2]; done)
theorem v_rdCheck {kk : Bool} {d : Dc} : A 79 [.agg (dcK kk d)] (i6 (dchk d)) := by
  intro H
  refine v_enter hC [] (fun _ _ => kn_none rfl) Try.func79 rfl ok79 (Nat.le_of_ble_eq_true rfl) fun hcl hbl => ?_
  by_cases h1 : d.id < 1
  · simp [h1, Try.results79]
    first | (refine GV.ans hcl ?_; simp [dchk, h1]; done) | (refine GV.ans0 ?_; simp [dchk, h1]; done)
  · by_cases h2 : 65535 < d.id
    · simp [h1, h2, Try.results79]
      first | (refine GV.ans hcl ?_; simp [dchk, h1, h2]; done) | (refine GV.ans0 ?_; simp [dchk, h1, h2]; done)
    · simp [h1, h2]
      refine CondV.dec (fun h3 => ?_) (fun h3 => ?_)
      · have h3 : 1024 < d.b.length := by omega
        simp [Try.results79]
        first | (refine GV.ans hcl ?_; simp [dchk, h1, h2, h3]; done) | (refine GV.ans0 ?_; simp [dchk, h1, h2, h3]; done)
      · have h3 : ¬ 1024 < d.b.length := by omega
        simp [Try.results79]
        first | (refine GV.ans hcl ?_; simp [dchk, h1, h2, h3]; done) | (refine GV.ans0 ?_; simp [dchk, h1, h2, h3]; done)
theorem v_Add0 {kk : Bool} {rows : List (List V)} : A 78 [.lit (.pointer none), .fsl kk 2 rows] (i6 11) := by
  intro H
  refine v_enter hC [] (fun _ _ => kn_none rfl) Try.func78 rfl ok78 (Nat.le_of_ble_eq_true rfl) fun hcl hbl => ?_
  simp [Try.results78]
  first | (refine GV.ans hcl ?_; simp []; done) | (refine GV.ans0 ?_; simp []; done)
theorem v_Drop0 {kk : Bool} {rows : List (List V)} : A 85 [.lit (.pointer none), .fsl kk 1 rows] (i6 11) := by
  intro H
  refine v_enter hC [] (fun _ _ => kn_none rfl) Try.func85 rfl ok85 (Nat.le_of_ble_eq_true rfl) fun hcl hbl => ?_
  simp [Try.results85]
  first | (refine GV.ans hcl ?_; simp []; done) | (refine GV.ans0 ?_; simp []; done)
theorem v_Count0 : A 113 [.lit (.pointer none)] (i6 0) := by
  intro H
  refine v_enter hC [] (fun _ _ => kn_none rfl) Try.func113 rfl ok113 (Nat.le_of_ble_eq_true rfl) fun hcl hbl => ?_
  simp [Try.results113]
  first | (refine GV.ans hcl ?_; simp []; done) | (refine GV.ans0 ?_; simp []; done)
theorem v_Copy0 : A 44 [.lit (.pointer none)] (.lit (.pointer none)) := by
  intro H
  refine v_enter hC [] (fun _ _ => kn_none rfl) Try.func44 rfl ok44 (Nat.le_of_ble_eq_true rfl) fun hcl hbl => ?_
  simp [Try.results44]
  first | (refine GV.ans hcl ?_; simp []; done) | (refine GV.ans0 ?_; simp []; done)
theorem v_Bytes0 : A 53 [.lit (.pointer none)] (.lit (.slice none 0 0)) := by
  intro H
  refine v_enter hC [] (fun _ _ => kn_none rfl) Try.func53 rfl ok53 (Nat.le_of_ble_eq_true rfl) fun hcl hbl => ?_
  simp [Try.results53]
  first | (refine GV.ans hcl ?_; simp []; done) | (refine GV.ans0 ?_; simp []; done)
theorem v_Same0 : A 29 [.lit (.pointer none), .lit (.pointer none)] (bo true) := by
  intro H
  refine v_enter hC [] (fun _ _ => kn_none rfl) Try.func29 rfl ok29 (Nat.le_of_ble_eq_true rfl) fun hcl hbl => ?_
  simp [Try.results29]
  first | (refine GV.ans hcl ?_; simp []; done) | (refine GV.ans0 ?_; simp []; done)
theorem v_Ids0 : A 90 [.lit (.pointer none)] (.lit (.slice none 0 0)) := by
  intro H
  refine v_enter hC [] (fun _ _ => kn_none rfl) Try.func90 rfl ok90 (Nat.le_of_ble_eq_true rfl) fun hcl hbl => ?_
  simp
  refine v_Count0.call ?_
  simp
  refine v_once hC ?_
  simp [Try.results90]
  first | (refine GV.ans hcl ?_; simp []; done) | (refine GV.ans0 ?_; simp []; done)
theorem v_Docs0 : A 92 [.lit (.pointer none)] (.lit (.slice none 0 0)) := by
  intro H
  refine v_enter hC [] (fun _ _ => kn_none rfl) Try.func92 rfl ok92 (Nat.le_of_ble_eq_true rfl) fun hcl hbl => ?_
  simp
  refine v_Count0.call ?_
  simp
  refine v_once hC ?_
  simp [Try.results92]
  first | (refine GV.ans hcl ?_; simp []; done) | (refine GV.ans0 ?_; simp []; done)
end Go.Proofs.Ytldhfdagmaklaaa.VM
end
section
set_option maxHeartbeats 8000000
set_option linter.unusedVariables false
set_option linter.unusedSimpArgs false

/- corpus: bytes, the same, Drop. -/
namespace Go.Proofs.Ytldhfdagmaklaaa.VM
open Go Go.Proofs AM B
set_option maxRecDepth 100000
/-- A list's bytes. -/
def listB (ids : List Int) : List Int := venc ids.length ++ vencs ids
theorem v_List {kk : Bool} {ids : List Int} (hl : ids.length ≤ 1000) (h0 : ∀ n ∈ ids, 0 ≤ n) (hr : ∀ n ∈ ids, n < 9223372036854775808) : A 89 [IS kk ids] (BS true (listB ids)) := by
  intro H
  refine v_enter hC [] (fun _ _ => kn_none rfl) Try.func89 rfl ok89 (Nat.le_of_ble_eq_true rfl) fun hcl hbl => ?_
  simp
  refine (v_Put (kk := kk) (l := ids) (by omega) hr).call ?_
  have hp : putB ids = vencs ids := by unfold putB; rw [if_pos (List.all_eq_true.2 fun n hn => by simpa using h0 n hn)]
  have hlen := vencs_pos ids
  have hlen2 := vencs_length ids
  rw [hp]
  simp
  refine CondV.dec (fun h => by omega) (fun _ => ?_)
  simp
  refine (v_PutO (kk := true) (l := [(ids.length : Int)]) (by simp) (by simp; omega) (by simp)).callU [IS true [(ids.length : Int)]] (by simp) fun w t => ?_
  have hp1 : vencs [(ids.length : Int)] = venc ids.length := by simp [vencs]
  have hv := venc_length ids.length
  rw [hp1]
  simp [Try.results89]
  refine ⟨by omega, ?_⟩
  first | (refine GV.ans hcl ?_; simp [listB]; done) | (refine GV.ans0 ?_; simp [listB]; done)
/-- Texts' bytes. -/
def textB (ls : List (List Int)) : List Int := ls.flatMap fun b => venc b.length ++ b
theorem textB_take (ls : List (List Int)) (k : Nat) (h : k < ls.length) : textB (ls.take (k + 1)) = textB (ls.take k) ++ (venc ls[k].length ++ ls[k]) := by
  unfold textB
  rw [List.take_succ_eq_append_getElem h, List.flatMap_append]; simp
theorem textB_len {ls : List (List Int)} {M : Nat} (h : ∀ b ∈ ls, b.length ≤ M) : (textB ls).length ≤ (M + 10) * ls.length := by
  induction ls with
  | nil => simp [textB]
  | cons a ls ih =>
    have h1 := h a (by simp)
    have h2 := ih fun b hb => h b (by simp [hb])
    have h3 := venc_length a.length
    unfold textB at h2 ⊢
    rw [List.flatMap_cons, List.length_append, List.length_append, List.length_cons, Nat.mul_add]
    omega
theorem v_Text {kk : Bool} {ls : List (List Int)} (hl : ls.length ≤ 100) (hb : ∀ b ∈ ls, b.length ≤ 2000) : A 91 [.fsl kk 1 (ls.map fun b => [BS true b])] (BS true (textB ls)) := by
  intro H
  refine v_enter hC [] (fun _ _ => kn_none rfl) Try.func91 rfl ok91 (Nat.le_of_ble_eq_true rfl) fun hcl hbl => ?_
  simp
  have get : ∀ {k : Nat} (h : k < ls.length), ls[k]? = some ls[k] := fun h => List.getElem?_eq_getElem h
  refine v_loopX hC (fun (k : Nat) e T => ∃ w t, T = H ++ [.vec w ((textB (ls.take k)).map bc) 1 true t] ∧ e 3 = .own H.length w ∧ e 6 = .fsl kk 1 (ls.map fun b => [BS true b]) ∧ e 7 = i6 ls.length ∧ e 8 = i6 k ∧ k ≤ ls.length) (fun k => ls.length - k) 0 ?_ ?_
  · refine G.nilT0 (s := 1) 3 hcl (Nat.le_refl _) (by omega) (by simp) ?_
    exact ⟨0, true, by simp [textB], by simp, by simp, by simp, by simp, by simp⟩
  · rintro k e T ⟨w, t, rfl, h3, h6, h7, h8, hk⟩
    simp [h3, h6, h7, h8]
    have hlen := textB_len (ls := ls.take k) (M := 2000) fun b hb' => hb b (List.mem_of_mem_take hb')
    rw [List.length_take] at hlen
    have hlen : (textB (ls.take k)).length ≤ 201000 := by
      have : min k ls.length ≤ 100 := by omega
      calc _ ≤ (2000 + 10) * min k ls.length := hlen
        _ ≤ (2000 + 10) * 100 := Nat.mul_le_mul_left _ this
        _ ≤ _ := by omega
    refine CondV.dec (fun hlt => ?_) (fun hge => ?_)
    · have hlt : k < ls.length := by omega
      have hbk := hb ls[k] (List.getElem_mem hlt)
      have hw : IntKind.u64.wrap (ls[k].length : Int) = (ls[k].length : Int) := by simp [IntKind.wrap, IntKind.bits, IntKind.signed]; omega
      simp [h3, h6, h7, h8, get hlt, hw]
      refine CALLv.at (v_put (n := ls[k].length) (rows := (textB (ls.take k)).map bc) (List.getElem?_concat_length ..) (PureR_map.2 (by simp)) (by simp; omega) (by omega)) fun u T' hu => ?_
      obtain ⟨w2, e1, e2⟩ := hu
      subst e1; subst e2
      have hv := venc_length ls[k].length
      simp [h6, h7, h8, w64 (n := (k : Int) + 1) (by omega)]
      refine ⟨by omega, GH.refl ⟨k + 1, ⟨w2 + 1, t, ?_, ?_, ?_, ?_, ?_, hlt⟩, by omega⟩⟩
      · rw [textB_take ls k hlt]; simp
      · simp
      · simp [h6]
      · simp [h7]
      · simp
    · have ht : ls.take k = ls := List.take_of_length_le (by omega)
      rw [ht]
      simp [h3, Try.results91]
      first | (refine GV.ans hcl ?_; simp []; done) | (refine GV.ans0 ?_; simp []; done)
end Go.Proofs.Ytldhfdagmaklaaa.VM
end
section
set_option maxHeartbeats 8000000
set_option linter.unusedVariables false
set_option linter.unusedSimpArgs false

/- corpus: Ids, Docs, Bytes, Same. -/
namespace Go.Proofs.Ytldhfdagmaklaaa.VM
open Go Go.Proofs AM B
set_option maxRecDepth 100000
def idsD (l : List Dc) : List Int := l.map (·.id)
def txtD (l : List Dc) : List (List Int) := l.map (·.b)
theorem v_Ids {H : Hp} {g : Nat} {k ra : Bool} {l : List Dc} (hg : H[g]? = some (.mem [DS k l] ra)) (hl : l.length ≤ 64) :
    VC Try.prog prims 90 [.ptr g 0] H fun u T => u = IS true (idsD l) ∧ T = H := by
  refine v_enter hC [] (fun _ _ => kn_none rfl) Try.func90 rfl ok90 (Nat.le_of_ble_eq_true rfl) fun hcl hbl => ?_
  have hgl := get_lt hg
  simp
  refine CALLv.at (v_Count hg) fun u T hu => ?_
  obtain ⟨e1, e2⟩ := hu
  subst e1; subst e2
  simp
  refine v_loopX hC (fun (j : Nat) e T' => ∃ w t, T' = T ++ [.vec w ((idsD (l.take j)).map ic) 1 true t] ∧ e 0 = .ptr g 0 ∧ e 3 = .own T.length w ∧ e 6 = i6 l.length ∧ e 7 = i6 j ∧ j ≤ l.length) (fun j => l.length - j) 0 ?_ ?_
  · refine G.nilT0 (s := 1) 3 hcl (Nat.le_refl _) (by omega) (by simp) ?_
    exact ⟨0, true, by simp [idsD], by simp [hgl], by simp, by simp, by simp, by simp⟩
  · rintro j e T' ⟨w, t, rfl, h0, h3, h6, h7, hj⟩
    simp [h0, h3, h6, h7]
    refine CondV.dec (fun hlt => ?_) (fun hge => ?_)
    · have hlt : j < l.length := by omega
      simp [h0, h3, h6, h7, List.getElem?_append_left hgl, hg, getD_ hlt, w64 (n := (j : Int) + 1) (by omega)]
      refine ⟨by simp [idsD]; omega, GH.refl ⟨j + 1, ⟨w + 1, t, ?_, ?_, ?_, ?_, ?_, hlt⟩, by omega⟩⟩
      · simp [idsD, List.take_add_one, getD_ hlt]
      · simp [h0]
      · simp
      · simp [h6]
      · simp
    · have ht : l.take j = l := List.take_of_length_le (by omega)
      rw [ht]
      simp [h3, Try.results90]
      first | (refine GV.ans hcl ?_; simp []; done) | (refine GV.ans0 ?_; simp []; done)
theorem v_Docs {H : Hp} {g : Nat} {k ra : Bool} {l : List Dc} (hg : H[g]? = some (.mem [DS k l] ra)) (hl : okD l) :
    VC Try.prog prims 92 [.ptr g 0] H fun u T => u = .fsl true 1 ((txtD l).map fun b => [BS true b]) ∧ T = H := by
  refine v_enter hC [] (fun _ _ => kn_none rfl) Try.func92 rfl ok92 (Nat.le_of_ble_eq_true rfl) fun hcl hbl => ?_
  have hgl := get_lt hg
  have hlen := hl.2.1
  simp
  refine CALLv.at (v_Count hg) fun u T hu => ?_
  obtain ⟨e1, e2⟩ := hu
  subst e1; subst e2
  simp
  refine v_loopX hC (fun (j : Nat) e T' => ∃ w t, T' = T ++ [.vec w ((txtD (l.take j)).map fun b => [BS true b]) 1 true t] ∧ e 0 = .ptr g 0 ∧ e 3 = .own T.length w ∧ e 6 = i6 l.length ∧ e 7 = i6 j ∧ j ≤ l.length) (fun j => l.length - j) 0 ?_ ?_
  · refine G.nilT0 (s := 1) 3 hcl (Nat.le_refl _) (by omega) (by simp) ?_
    exact ⟨0, true, by simp [txtD], by simp [hgl], by simp, by simp, by simp, by simp⟩
  · rintro j e T' ⟨w, t, rfl, h0, h3, h6, h7, hj⟩
    simp [h0, h3, h6, h7]
    refine CondV.dec (fun hlt => ?_) (fun hge => ?_)
    · have hlt : j < l.length := by omega
      simp [h0, h3, h6, h7, List.getElem?_append_left hgl, hg, getD_ hlt]
      have hbj := hl.2.2 _ (List.getElem_mem hlt)
      rw [← docAt_eq l j hlt] at hbj
      refine CALLv.atF (((Frz.vec (g := T.length + 1) (w := 0) (s := 1) (rows := []) (rw := true) (t := true) (by simp) (by simp)).trans
          (Frz.rows (g := T.length + 2) (w := 0) (s := 1) (rows := [[.own (T.length + 1) 0], [BS true (docAt l j).b]]) (rows' := [[BS true []], [BS true (docAt l j).b]]) (rw := true) (t := true) (by simp) (fun r hr => by simp at hr; rcases hr with hr | hr <;> subst hr <;> simp [V.isCell, cellB]) (by simp [UpFz]))).trans
          (Frz.vec (g := T.length + 2) (w := 0) (s := 1) (rows := [[BS true []], [BS true (docAt l j).b]]) (rw := true) (t := true) (by simp) (by simp)))
          (VC.up (args' := [.fsl true 1 [[BS true []], [BS true (docAt l j).b]]]) (by simp [UpFz]) (v_bCat (kk := true) (ls := [(true, []), (true, (docAt l j).b)]) (by simp) (by simp; omega) _)) fun u T' hu => ?_
      obtain ⟨e1, e2⟩ := hu
      subst e1; subst e2
      simp [h0, h3, h6, h7, w64 (n := (j : Int) + 1) (by omega)]
      refine ⟨by simp [txtD]; omega, GH.of (G.clip (Z := [_]) (X := [_, _]) (Z' := [.vec (w + 1) ((txtD (l.take j)).map (fun b => [BS true b]) ++ [[BS true (docAt l j).b]]) 1 true t]) hcl (by simp) (by simp; exact UpR.self (show PureR _ by simp [PureR_map])) ⟨j + 1, ⟨w + 1, t, ?_, ?_, ?_, ?_, ?_, hlt⟩, by omega⟩)⟩
      · simp [txtD, List.take_add_one, getD_ hlt]
      · simp [h0]; omega
      · simp
      · simp [h6]
      · simp
    · have ht : l.take j = l := List.take_of_length_le (by omega)
      rw [ht]
      simp [h3, Try.results92]
      first | (refine GV.ans hcl ?_; simp []; done) | (refine GV.ans0 ?_; simp []; done)
def bytesD (l : List Dc) : List Int := listB (idsD l) ++ textB (txtD l)
/-- A corpus' documents. -/
def gooD (l : List Dc) : Prop := okD l ∧ ∀ d ∈ l, (1 ≤ d.id ∧ d.id ≤ 65535) ∧ ∀ x ∈ d.b, 0 ≤ x ∧ x ≤ 255
theorem vencs_byte {l : List Int} : ∀ x ∈ vencs l, 0 ≤ x ∧ x ≤ 255 := by
  intro x hx
  unfold vencs at hx
  obtain ⟨n, _, hn⟩ := List.mem_flatMap.1 hx
  exact venc_byte _ x hn
theorem bytesD_byte {l : List Dc} (hl : gooD l) : ∀ x ∈ bytesD l, 0 ≤ x ∧ x ≤ 255 := by
  intro x hx
  unfold bytesD listB textB at hx
  rcases List.mem_append.1 hx with hx | hx
  · rcases List.mem_append.1 hx with hx | hx
    · exact venc_byte _ x hx
    · exact vencs_byte x hx
  · obtain ⟨b, hb, hx⟩ := List.mem_flatMap.1 hx
    obtain ⟨d, hd, rfl⟩ := List.mem_map.1 hb
    rcases List.mem_append.1 hx with hx | hx
    · exact venc_byte _ x hx
    · exact (hl.2 d hd).2 x hx
theorem bytesD_ne {l : List Dc} : bytesD l ≠ [] := by
  have h := venc_pos (idsD l).length
  intro e
  have e := congrArg List.length e
  unfold bytesD listB at e
  rw [List.length_append, List.length_append] at e
  simp only [List.length_nil] at e
  omega
theorem v_Bytes {H : Hp} {g : Nat} {k ra : Bool} {l : List Dc} (hg : H[g]? = some (.mem [DS k l] ra)) (hl : gooD l) :
    VC Try.prog prims 53 [.ptr g 0] H fun u T => u = BS true (bytesD l) ∧ T = H := by
  refine v_enter hC [] (fun _ _ => kn_none rfl) Try.func53 rfl ok53 (Nat.le_of_ble_eq_true rfl) fun hcl hbl => ?_
  have hlen := hl.1.2.1
  simp
  refine CALLv.at (v_Ids hg hlen) fun u T hu => ?_
  obtain ⟨e1, e2⟩ := hu
  subst e1; subst e2
  simp
  have hli : (idsD l).length ≤ 64 := by simpa [idsD] using hlen
  have hlt : (txtD l).length ≤ 64 := by simpa [txtD] using hlen
  have htb : ∀ b ∈ txtD l, b.length ≤ 1024 := fun b hb => by obtain ⟨d, hd, rfl⟩ := List.mem_map.1 hb; exact hl.1.2.2 d hd
  have hid : ∀ n ∈ idsD l, 1 ≤ n ∧ n ≤ 65535 := fun n hn => by obtain ⟨d, hd, rfl⟩ := List.mem_map.1 hn; exact (hl.2 d hd).1
  refine (v_List (kk := true) (ids := idsD l) (by omega) (fun n hn => by have := hid n hn; omega) (fun n hn => by have := hid n hn; omega)).call ?_
  simp
  refine CALLv.at (v_Docs hg hl.1) fun u T' hu => ?_
  obtain ⟨e1, e2⟩ := hu
  subst e1; subst e2
  simp
  refine (v_Text (kk := true) (ls := txtD l) (by omega) (fun b hb => by have := htb b hb; omega)).call ?_
  simp
  have h1 : (listB (idsD l)).length ≤ 100000 := by
    have := venc_length (idsD l).length
    have := vencs_length (idsD l)
    unfold listB; rw [List.length_append]; omega
  have h2 : (textB (txtD l)).length ≤ 100000 := by
    have h := textB_len htb
    calc _ ≤ (1024 + 10) * (txtD l).length := h
      _ ≤ (1024 + 10) * 64 := Nat.mul_le_mul_left _ hlt
      _ ≤ _ := by omega
  refine (v_bCat (kk := true) (ls := [(true, listB (idsD l)), (true, textB (txtD l))]) (by simp) (by simp; omega)).call ?_
  simp [Try.results53]
  first | (refine GV.ans hcl ?_; simp [bytesD]; done) | (refine GV.ans0 ?_; simp [bytesD]; done)
theorem v_cSame {H : Hp} {g h : Nat} {k k' ra ra' : Bool} {l l' : List Dc} (hg : H[g]? = some (.mem [DS k l] ra)) (hl : gooD l)
    (hg' : H[h]? = some (.mem [DS k' l'] ra')) (hl' : gooD l') :
    VC Try.prog prims 29 [.ptr g 0, .ptr h 0] H fun u T => u = bo (decide (bytesD l = bytesD l')) ∧ T = H := by
  refine v_enter hC [] (fun _ _ => kn_none rfl) Try.func29 rfl ok29 (Nat.le_of_ble_eq_true rfl) fun hcl hbl => ?_
  simp
  refine CALLv.at (v_Bytes hg hl) fun u T hu => ?_
  obtain ⟨e1, e2⟩ := hu
  subst e1; subst e2
  simp
  refine CALLv.at (v_Bytes hg' hl') fun u T' hu => ?_
  obtain ⟨e1, e2⟩ := hu
  subst e1; subst e2
  simp
  refine (v_bEqual (kk := true) (km := true) (l := bytesD l) (m := bytesD l') bytesD_ne bytesD_ne (bytesD_byte hl) (bytesD_byte hl')).call ?_
  simp [Try.results29]
  first | (refine GV.ans hcl ?_; simp []; done) | (refine GV.ans0 ?_; simp []; done)
end Go.Proofs.Ytldhfdagmaklaaa.VM
end
section
set_option maxHeartbeats 8000000
set_option linter.unusedVariables false
set_option linter.unusedSimpArgs false

/- corpus: Drop. -/
namespace Go.Proofs.Ytldhfdagmaklaaa.VM
open Go Go.Proofs AM B
set_option maxRecDepth 100000
theorem v_at1O {H : Hp} {ra rb rw t : Bool} {g w : Nat} {l : List Dc} {id : Int} {g1 g2 j : Nat} (h0 : H[g]? = some (.vec w (l.map dc) 2 rw t)) (h1 : H[g1]? = some (.mem [.own g w] ra)) (h2 : H[g2]? = some (.mem [i6 id] rb)) (hj : j < l.length) :
    VC Try.prog prims 124 [i6 j, .ptr g1 0, .ptr g2 0] H fun u T => u = bo (decide (id ≤ (docAt l j).id)) ∧ T = H := by
  refine v_enter hC [] (fun _ _ => kn_none rfl) Try.func124 rfl ok124 (Nat.le_of_ble_eq_true rfl) fun hcl hbl => ?_
  simp
  refine v_draw (ord := [0, 1, 2, 3, 4, 5, 6, 7]) (m := 6) (by decide +kernel) (by decide +kernel) ?_
  simp [h0, h1, h2, getD_ hj, Try.results124]
  exact ⟨hj, GV.refl ⟨rfl, rfl⟩⟩
theorem v_atO {H : Hp} {rw t : Bool} {g w : Nat} {l : List Dc} (hg : H[g]? = some (.vec w (l.map dc) 2 rw t)) (hl : l.length < 2 ^ 48) (hr : riseD l) {id : Int} :
    VC Try.prog prims 111 [.own g w, i6 id] H fun u T => u = (.tup [i6 (dAt l id), bo (isD l id)]) ∧ T = H := by
  have hgl := get_lt hg
  have hgX : ∀ X : Hp, (H ++ X)[g]? = some (.vec w (l.map dc) 2 rw t) := fun X => by rw [List.getElem?_append_left hgl]; exact hg
  refine v_enter hC [] (fun _ _ => kn_none rfl) Try.func111 rfl ok111 (Nat.le_of_ble_eq_true rfl) fun hcl hbl => ?_
  simp [hgX]
  refine CALLv.at (v_Search (H := H ++ ([Ob.mem [V.own g w] true, Ob.mem [i6 id] true] : Hp)) (F := 124) (fi := []) (cp := [.ptr H.length 0, .ptr (H.length + 1) 0]) (n := l.length) (p := fun j => decide (id ≤ (docAt l j).id)) (k := dAt l id) (by omega) (dAt_le l id) (fun j hj => show VC _ _ _ [i6 j, .ptr H.length 0, .ptr (H.length + 1) 0] (H ++ ([Ob.mem [V.own g w] true, Ob.mem [i6 id] true] : Hp)) _ from v_at1O (g1 := H.length) (g2 := H.length + 1) (id := id) (l := l) (g := g) (w := w) (rw := rw) (t := t) (ra := true) (rb := true) (by rw [List.getElem?_append_left hgl]; exact hg) (by simp) (by simp) hj) (fun j hj => by have := dAt_lt hj; simp; omega) (fun j h1 h2 => by have := dAt_ge hr h1 h2; simpa using this)) fun u T hu => ?_
  obtain ⟨e1, e2⟩ := hu
  subst e1; subst e2
  simp
  refine v_draw (ord := [0, 1, 2, 3, 4, 5, 6, 7, 8, 9, 10, 11, 12, 13, 14, 15]) (m := 12) (by decide +kernel) (by decide +kernel) ?_
  simp [hgX]
  refine GuardR.dec (fun hlt => ?_) (fun hge => ?_)
  · simp [hgX, getD_ hlt, hlt, Try.results111]
    first | (refine GV.ans hcl ?_; simp [isD, hlt, docAt_eq _ _ hlt]; done) | (refine GV.ans0 ?_; simp [isD, hlt, docAt_eq _ _ hlt]; done)
  · simp [hge, Try.results111]
    first | (refine GV.ans hcl ?_; simp [isD, hge]; done) | (refine GV.ans0 ?_; simp [isD, hge]; done)
def delD (l : List Dc) (id : Int) : List Dc := l.take (dAt l id) ++ l.drop (dAt l id + 1)
/-- Documents dropped, one after the other. -/
def dropL : List Dc → List Int → Option (List Dc)
  | l, [] => some l
  | l, i :: is => if isD l i = true then dropL (delD l i) is else none
theorem Frz.cell {H : Hp} {g : Nat} {cs cs' : List V} {rw : Bool} (hg : H[g]? = some (.mem cs rw)) (hu : Ups H.length [] [] H cs' cs) : Frz H (H.set g (.mem cs' rw)) := by
  intro K φ σ hR
  obtain ⟨K', φ', h1, h2, _⟩ := ghost (n := H.length) (L := []) (E := []) (H' := H.set g (.mem cs' rw)) hR (Nat.le_refl _) (by simp) (by simp) (by simp) (by simp) (fun i x y hi hx hy => by
    by_cases e : g = i
    · subst e
      rw [hg] at hx; cases hx
      rw [List.getElem?_set_self hi] at hy; cases hy
      exact ⟨rfl, hu⟩
    · rw [List.getElem?_set_ne e, hx] at hy; cases hy
      exact UpO.self (hR.cl x (List.mem_of_getElem? hx))) (by simp) (by simp)
  exact ⟨K', φ', by rw [hR.len]; exact h1, h2⟩
/-- A scalar answer, behind a freeze. -/
theorem GV.frz {n : Nat} {R : V → Hp → Prop} {x : Value} {H1 H2 : Hp} (hn : n ≤ H1.length) (hf : Frz H1 H2) (h : GV n R (.lit x) H2) : GV n R (.lit x) H1 := by
  intro K φ σ a hR hv
  obtain ⟨K1, φ1, p1, r1⟩ := hf K φ σ hR
  obtain ⟨K2, φ2, v, T, p2, r2, v2, h2⟩ := h K1 φ1 σ a r1 hv
  exact ⟨K2, φ2, v, T, (p1.weaken (by have := hR.len; omega)).trans p2 (Nat.le_refl _), r2, v2, h2⟩
theorem delD_len {l : List Dc} {id : Int} (h : isD l id = true) : (delD l id).length + 1 = l.length := by
  have h : dAt l id < l.length := by unfold isD at h; exact (of_decide_eq_true h).1
  unfold delD; rw [List.length_append, List.length_take, List.length_drop]; omega
theorem delD_mem {l : List Dc} {id : Int} {x : Dc} (h : x ∈ delD l id) : x ∈ l := by
  unfold delD at h
  rcases List.mem_append.1 h with h | h
  · exact List.mem_of_mem_take h
  · exact List.mem_of_mem_drop h
theorem docAt_delD {l : List Dc} {id : Int} (j : Nat) : docAt (delD l id) j = if j < dAt l id then docAt l j else docAt l (j + 1) := by
  have hk := dAt_le l id
  have ht : (l.take (dAt l id)).length = dAt l id := by simp; omega
  unfold docAt delD
  simp only [List.getD_eq_getElem?_getD]
  split
  · rename_i h
    rw [List.getElem?_append_left (by omega), List.getElem?_take, if_pos h]
  · rename_i h
    rw [List.getElem?_append_right (by omega), ht, List.getElem?_drop, show dAt l id + 1 + (j - dAt l id) = j + 1 by omega]
theorem delD_ok {l : List Dc} {id : Int} (hl : okD l) (h : isD l id = true) : okD (delD l id) := by
  have hlen := delD_len h
  obtain ⟨hr, hn, hb⟩ := hl
  refine ⟨fun i hi hlt => ?_, by omega, fun x hx => hb x (delD_mem hx)⟩
  rw [docAt_delD, docAt_delD]
  by_cases c : i < dAt l id
  · rw [if_pos (by omega), if_pos c]; exact hr i hi (by omega)
  · rw [if_neg c]
    have h2 := hr (i + 1) (by omega) (by omega)
    simp only [Nat.add_sub_cancel] at h2
    split
    · have h3 := hr i hi (by omega)
      omega
    · rw [show i - 1 + 1 = i by omega]; exact h2
theorem v_Drop {H : Hp} {g : Nat} {k kk : Bool} {l : List Dc} {ids : List Int} (hg : H[g]? = some (.mem [DS k l] true)) (hl : okD l) (hn : ids.length < 2 ^ 48) :
    VC Try.prog prims 85 [.ptr g 0, IS kk ids] H fun u T => u = i6 (if (dropL l ids).isSome then 0 else 7) ∧ T = match dropL l ids with | some l' => H.set g (.mem [DS true l'] true) | none => H := by
  refine v_enter hC [] (fun _ _ => kn_none rfl) Try.func85 rfl ok85 (Nat.le_of_ble_eq_true rfl) fun hcl hbl => ?_
  have hgl := get_lt hg
  simp [hg]
  refine (v_dClone (kk := k) (l := l) (by have := hl.2.1; omega)).call fun w t => ?_
  simp [hg]
  have getI : ∀ {j : Nat} (h : j < ids.length), ids[j]? = some ids[j] := fun h => List.getElem?_eq_getElem h
  refine v_loopX hC (fun (X : Nat × List Dc) e T => ∃ w t, T = H ++ [.vec w (X.2.map dc) 2 true t] ∧ e 0 = .ptr g 0 ∧ e 5 = .own H.length w ∧ e 17 = IS kk ids ∧ e 18 = i6 ids.length ∧ e 19 = i6 X.1 ∧ X.1 ≤ ids.length ∧ okD X.2 ∧ dropL l ids = dropL X.2 (ids.drop X.1)) (fun X => ids.length - X.1) (0, l) (G.refl ?_) ?_
  · exact ⟨w, t, by simp, by simp, by simp, by simp, by simp, by simp, by simp, hl, by simp⟩
  · rintro ⟨j, acc⟩ e T ⟨w, t, rfl, h0, h5, h17, h18, h19, hj, hok, hv⟩
    simp only at h5 h19 hj hok hv
    simp [h0, h5, h17, h18, h19]
    refine CondV.dec (fun hlt => ?_) (fun hge => ?_)
    · have hlt : j < ids.length := by omega
      rw [List.drop_eq_getElem_cons hlt] at hv
      simp only [dropL] at hv
      simp [h0, h5, h17, h18, h19, getI hlt]
      refine CALLv.at (v_atO (g := H.length) (w := w) (rw := true) (t := t) (l := acc) (by simp) (by have := hok.2.1; omega) hok.1) fun u T hu => ?_
      obtain ⟨e1, e2⟩ := hu
      subst e1; subst e2
      simp
      refine CondV.on (fun hz => ?_) (fun hz => ?_)
      · rw [if_pos hz] at hv
        have hlt2 : dAt acc ids[j] < acc.length := by unfold isD at hz; exact (of_decide_eq_true hz).1
        have hlen := hok.2.1
        simp [h0, h5, w64 (n := (dAt acc ids[j] : Int) + 1) (by omega)]
        refine CALLv.at (v_dDelete (g := H.length) (w := w) (i := dAt acc ids[j]) (j := dAt acc ids[j] + 1) (rows := acc.map dc) (t := t) (by simp) (by omega) (by simp; omega) (by simp; omega)) fun u T hu => ?_
        obtain ⟨e1, e2⟩ := hu
        subst e1; subst e2
        simp [h0, h17, h18, h19, w64 (n := (j : Int) + 1) (by omega)]
        refine GH.refl ⟨(j + 1, delD acc ids[j]), ⟨w + 1, false, ?_, ?_, ?_, ?_, ?_, ?_, hlt, delD_ok hok hz, hv⟩, by simp only; omega⟩
        · simp [delD]
        · simp [h0]
        · simp
        · simp [h17]
        · simp [h18]
        · simp
      · have hz : isD acc ids[j] = false := by simpa using hz
        rw [if_neg (by simp [hz])] at hv
        simp [Try.results85]
        rw [hv]
        exact GV.ret (X := [_]) (i6 7) hcl (by simp) ⟨by simp, rfl⟩
    · have hv : dropL l ids = some acc := by rw [hv, List.drop_of_length_le (by omega)]; rfl
      have hgX : ∀ X : Hp, (H ++ X)[g]? = some (.mem [DS k l] true) := fun X => by rw [List.getElem?_append_left hgl]; exact hg
      simp [h0, h5, hgX, Try.results85]
      rw [hv]
      have hset : ∀ (o : Ob) (X : Hp), (H ++ X).set g o = H.set g o ++ X := fun o X => List.set_append_left _ _ hgl
      rw [hset]
      have hcl2 : Cl (H.set g (.mem [DS true acc] true)) := hcl.set (show Bels _ [DS true acc] from ⟨trivial, trivial⟩)
      have hf : Frz (H.set g (.mem [.own H.length w] true) ++ [.vec w (acc.map dc) 2 true t]) (H.set g (.mem [DS true acc] true) ++ [.fro w (acc.map dc) 2]) := by
        have f1 := Frz.vec (H := H.set g (.mem [.own H.length w] true) ++ [.vec w (acc.map dc) 2 true t]) (g := H.length) (w := w) (s := 2) (rows := acc.map dc) (rw := true) (t := t) (by simp) (PureR_map.2 (by simp))
        have f2 := Frz.cell (H := H.set g (.mem [.own H.length w] true) ++ [.fro w (acc.map dc) 2]) (g := g) (cs := [.own H.length w]) (cs' := [DS true acc]) (rw := true) (by rw [List.getElem?_append_left (by simpa using hgl), List.getElem?_set_self hgl]) (by simp [UpFz, PureR_map])
        have e1 : (H.set g (.mem [.own H.length w] true) ++ [Ob.vec w (acc.map dc) 2 true t]).set H.length (.fro w (acc.map dc) 2) = H.set g (.mem [.own H.length w] true) ++ [.fro w (acc.map dc) 2] := by simp
        have e2 : (H.set g (.mem [.own H.length w] true) ++ [Ob.fro w (acc.map dc) 2]).set g (.mem [DS true acc] true) = H.set g (.mem [DS true acc] true) ++ [.fro w (acc.map dc) 2] := by
          rw [List.set_append_left _ _ (by simpa using hgl), List.set_set]
        rw [e1] at f1
        rw [e2] at f2
        exact f1.trans f2
      refine GV.frz (by simp) hf ?_
      have := GV.ret (H := H.set g (.mem [DS true acc] true)) (X := [Ob.fro w (acc.map dc) 2]) (x := i6 0) (R := fun u T => u = i6 (if (dropL l ids).isSome then 0 else 7) ∧ T = match dropL l ids with | some l' => H.set g (.mem [DS true l'] true) | none => H) (i6 0) hcl2 (by simp) (by rw [hv]; exact ⟨by simp, rfl⟩)
      rw [List.length_set, hv] at this
      exact this
end Go.Proofs.Ytldhfdagmaklaaa.VM
end
section
set_option maxHeartbeats 8000000
set_option linter.unusedVariables false
set_option linter.unusedSimpArgs false

/- CorpusOrder, the plain law. -/
namespace Go.Proofs.Ytldhfdagmaklaaa.VM
open Go Go.Proofs AM B
set_option maxRecDepth 100000
theorem mem_docAt {l : List Dc} {x : Dc} : x ∈ l ↔ ∃ j, j < l.length ∧ docAt l j = x := by
  constructor
  · intro h
    obtain ⟨j, hj, rfl⟩ := List.getElem_of_mem h
    exact ⟨j, hj, docAt_eq l j hj⟩
  · rintro ⟨j, hj, rfl⟩
    rw [docAt_eq l j hj]
    exact List.getElem_mem hj
theorem riseD_mono {l : List Dc} (hr : riseD l) {i j : Nat} (h : i < j) (hj : j < l.length) : (docAt l i).id < (docAt l j).id := by
  obtain ⟨d, rfl⟩ : ∃ d, j = i + 1 + d := ⟨j - (i + 1), by omega⟩
  clear h
  induction d with
  | zero => exact hr (i + 1) (by omega) hj
  | succ d ih =>
    have ih := ih (by omega)
    have hs := hr (i + 1 + (d + 1)) (by omega) hj
    rw [show i + 1 + (d + 1) - 1 = i + 1 + d by omega] at hs
    omega
theorem isD_iff {l : List Dc} (hr : riseD l) {id : Int} : isD l id = true ↔ ∃ x ∈ l, x.id = id := by
  constructor
  · intro h
    unfold isD at h
    obtain ⟨h1, h2⟩ := of_decide_eq_true h
    exact ⟨_, mem_docAt.2 ⟨_, h1, rfl⟩, h2⟩
  · rintro ⟨x, hx, rfl⟩
    obtain ⟨j, hj, rfl⟩ := mem_docAt.1 hx
    have h1 : dAt l (docAt l j).id ≤ j := Decidable.byContradiction fun hn => by
      have := dAt_lt (l := l) (id := (docAt l j).id) (j := j) (by omega)
      omega
    have h2 := dAt_at (l := l) (id := (docAt l j).id) (by omega)
    have h3 : dAt l (docAt l j).id = j := Decidable.byContradiction fun hn => by
      have := riseD_mono hr (i := dAt l (docAt l j).id) (j := j) (by omega) hj
      omega
    unfold isD
    rw [h3]
    simp [hj]
theorem mem_putD {l : List Dc} {d x : Dc} : x ∈ putD l d ↔ x = d ∨ x ∈ l := by
  refine ⟨putD_mem, ?_⟩
  rintro (rfl | h)
  · simp [putD]
  · rw [← List.take_append_drop (dAt l d.id) l] at h
    unfold putD
    rcases List.mem_append.1 h with h | h
    · simp [h]
    · simp [h]
theorem mem_delD {l : List Dc} (hr : riseD l) {id : Int} (hi : isD l id = true) {x : Dc} : x ∈ delD l id ↔ x ∈ l ∧ x.id ≠ id := by
  have hlen := delD_len hi
  have ⟨hk, he⟩ : dAt l id < l.length ∧ (docAt l (dAt l id)).id = id := by unfold isD at hi; exact of_decide_eq_true hi
  constructor
  · intro h
    refine ⟨delD_mem h, ?_⟩
    obtain ⟨j, hj, rfl⟩ := mem_docAt.1 h
    rw [docAt_delD]
    split
    · rename_i c
      have := dAt_lt c
      omega
    · have := riseD_mono hr (i := dAt l id) (j := j + 1) (by omega) (by omega)
      omega
  · rintro ⟨h, hne⟩
    obtain ⟨j, hj, rfl⟩ := mem_docAt.1 h
    by_cases c : j < dAt l id
    · exact mem_docAt.2 ⟨j, by omega, by rw [docAt_delD, if_pos c]⟩
    · have c2 : j ≠ dAt l id := fun e => hne (by rw [e]; exact he)
      exact mem_docAt.2 ⟨j - 1, by omega, by rw [docAt_delD, if_neg (by omega), show j - 1 + 1 = j by omega]⟩
theorem riseD_pw {l : List Dc} (hr : riseD l) : l.Pairwise fun a b => a.id < b.id := by
  rw [List.pairwise_iff_getElem]
  intro i j hi hj h
  rw [← docAt_eq l i hi, ← docAt_eq l j hj]
  exact riseD_mono hr h hj
theorem pw_eq : ∀ {l m : List Dc}, l.Pairwise (fun a b => a.id < b.id) → m.Pairwise (fun a b => a.id < b.id) → (∀ x, x ∈ l ↔ x ∈ m) → l = m
  | [], [], _, _, _ => rfl
  | [], b :: m, _, _, h => by have := (h b).2 (by simp); simp at this
  | a :: l, [], _, _, h => by have := (h a).1 (by simp); simp at this
  | a :: l, b :: m, h1, h2, h => by
    rw [List.pairwise_cons] at h1 h2
    have e : a = b := by
      have ha := (h a).1 (by simp)
      have hb := (h b).2 (by simp)
      rcases List.mem_cons.1 ha with e | ha
      · exact e
      · rcases List.mem_cons.1 hb with e | hb
        · exact e.symm
        · have := h2.1 a ha
          have := h1.1 b hb
          omega
    subst e
    rw [pw_eq h1.2 h2.2 fun x => ?_]
    constructor
    · intro hx
      rcases List.mem_cons.1 ((h x).1 (by simp [hx])) with e | h'
      · subst e; have := h1.1 _ hx; omega
      · exact h'
    · intro hx
      rcases List.mem_cons.1 ((h x).2 (by simp [hx])) with e | h'
      · subst e; have := h2.1 _ hx; omega
      · exact h'
theorem rise_eq {l m : List Dc} (hl : riseD l) (hm : riseD m) (h : ∀ x, x ∈ l ↔ x ∈ m) : l = m := pw_eq (riseD_pw hl) (riseD_pw hm) h
theorem bytesD_len {l m : List Dc} (hl : l.length < 128) (hm : m.length < 128) (h : l.length ≠ m.length) : bytesD l ≠ bytesD m := by
  intro e
  have e1 : (idsD l).length = l.length := by simp [idsD]
  have e2 : (idsD m).length = m.length := by simp [idsD]
  unfold bytesD listB at e
  rw [e1, e2, venc_lt _ hl, venc_lt _ hm] at e
  simp only [List.cons_append, List.nil_append] at e
  injection e with e _
  omega
/-- A document that is not too long. -/
def shD (d : Dc) : Prop := (1 ≤ d.id ∧ d.id ≤ 65535) ∧ d.b.length ≤ 60 ∧ ∀ x ∈ d.b, 0 ≤ x ∧ x ≤ 255
theorem putE_ok {l : List Dc} {d : Dc} (hr : riseD l) (hn : l.length ≤ 8) (hs : ∀ x ∈ l, shD x) (hd : shD d) (hne : ∀ x ∈ l, x.id ≠ d.id) : putE l d = 0 := by
  have h1 : dchk d = 0 := by
    unfold dchk
    rw [if_neg (by have := hd.1; omega), if_neg (by have := hd.2.1; omega)]
  have h2 : isD l d.id = false := by
    cases h : isD l d.id with
    | false => rfl
    | true => obtain ⟨x, hx, e⟩ := (isD_iff hr).1 h; exact absurd e (hne x hx)
  have h3 : totD l ≤ 60 * l.length := totD_le fun x hx => (hs x hx).2.1
  have h4 := hd.2.1
  unfold putE
  rw [if_neg (by simp [h1]), if_neg (by simp [h2]), if_neg (by omega)]
/-- What two corpora hold of a list's documents. -/
structure Ho (l all : List Dc) : Prop where
  ok : okD l
  mem : ∀ x, x ∈ l ↔ x ∈ all
  len : l.length = all.length
  sh : ∀ x ∈ all, shD x
  ne : all.Pairwise fun a b => a.id ≠ b.id
theorem Ho.good {l all : List Dc} (h : Ho l all) : gooD l := ⟨h.ok, fun d hd => ⟨(h.sh d ((h.mem d).1 hd)).1, (h.sh d ((h.mem d).1 hd)).2.2⟩⟩
theorem Ho.nil : Ho [] [] := ⟨⟨fun i h1 h2 => by simp at h2, by simp, by simp⟩, by simp, rfl, by simp, .nil⟩
theorem Ho.app {l all : List Dc} {d : Dc} (h : Ho l all) (hz : putE l d = 0) (hd : d.b.length ≤ 60 ∧ ∀ x ∈ d.b, 0 ≤ x ∧ x ≤ 255) : Ho (putD l d) (all ++ [d]) := by
  obtain ⟨h1, h2, h3, h4⟩ := putE_zero hz
  refine ⟨putD_ok h.ok hz, fun x => ?_, by rw [putD_len, List.length_append, h.len]; rfl, fun x hx => ?_, ?_⟩
  · rw [mem_putD, h.mem, List.mem_append, List.mem_singleton]
    exact ⟨fun h => h.symm, fun h => h.symm⟩
  · rcases List.mem_append.1 hx with hx | hx
    · exact h.sh x hx
    · simp only [List.mem_singleton] at hx; subst hx; exact ⟨⟨h1.1, h1.2.1⟩, hd⟩
  · rw [List.pairwise_append]
    refine ⟨h.ne, by simp, fun a ha b hb => ?_⟩
    simp only [List.mem_singleton] at hb; subst hb
    intro e
    have := (isD_iff h.ok.1 (id := b.id)).2 ⟨a, (h.mem a).2 ha, e⟩
    rw [h2] at this
    cases this
theorem Ho.pre {l all : List Dc} {d : Dc} (h : Ho l all) (hd : shD d) (hne : ∀ x ∈ all, d.id ≠ x.id) (hn : all.length ≤ 8) : putE l d = 0 ∧ Ho (putD l d) (d :: all) := by
  have hz := putE_ok h.ok.1 (by have := h.len; omega) (fun x hx => h.sh x ((h.mem x).1 hx)) hd fun x hx => Ne.symm (hne x ((h.mem x).1 hx))
  refine ⟨hz, putD_ok h.ok hz, fun x => ?_, by rw [putD_len, List.length_cons, h.len], fun x hx => ?_, ?_⟩
  · rw [mem_putD, h.mem, List.mem_cons]
  · rcases List.mem_cons.1 hx with rfl | hx
    · exact hd
    · exact h.sh x hx
  · rw [List.pairwise_cons]; exact ⟨hne, h.ne⟩
theorem Ho.step {l all : List Dc} {j : Nat} (h : Ho l (all.drop (j + 1))) (hj : j < all.length) (hs : ∀ x ∈ all, shD x) (hne : all.Pairwise fun a b => a.id ≠ b.id) (hn : all.length ≤ 8) : putE l (docAt all j) = 0 ∧ Ho (putD l (docAt all j)) (all.drop j) := by
  have e : all.drop j = docAt all j :: all.drop (j + 1) := by rw [docAt_eq all j hj]; exact List.drop_eq_getElem_cons hj
  have h2 : (all.drop j).Pairwise fun a b => a.id ≠ b.id := hne.sublist (List.drop_sublist j all)
  rw [e, List.pairwise_cons] at h2
  rw [e]
  exact h.pre (hs _ (mem_docAt.2 ⟨j, hj, rfl⟩)) h2.1 (by rw [List.length_drop]; omega)
theorem Ho.same {l m all : List Dc} (h : Ho l all) (h2 : Ho m all) : l = m := rise_eq h.ok.1 h2.ok.1 fun x => (h.mem x).trans (h2.mem x).symm
theorem Ho.del {l all : List Dc} {d : Dc} (h : Ho l all) (hd : d ∈ all) (hn : all.length ≤ 8) :
    isD l d.id = true ∧ gooD (delD l d.id) ∧ bytesD l ≠ bytesD (delD l d.id) ∧ putE (delD l d.id) d = 0 ∧ putD (delD l d.id) d = l := by
  have hdl := (h.mem d).2 hd
  have hi : isD l d.id = true := (isD_iff h.ok.1).2 ⟨d, hdl, rfl⟩
  have hlen := delD_len hi
  have hok := delD_ok h.ok hi
  have hl := h.len
  have hsh := h.sh d hd
  have hz : putE (delD l d.id) d = 0 := putE_ok hok.1 (by omega) (fun x hx => h.sh x ((h.mem x).1 (delD_mem hx))) hsh fun x hx => ((mem_delD h.ok.1 hi).1 hx).2
  have huniq : ∀ x ∈ l, x.id = d.id → x = d := by
    intro x hx e
    obtain ⟨i, hi', rfl⟩ := mem_docAt.1 hx
    obtain ⟨j, hj, rfl⟩ := mem_docAt.1 hdl
    rcases Nat.lt_trichotomy i j with c | c | c
    · have := riseD_mono h.ok.1 c hj; omega
    · rw [c]
    · have := riseD_mono h.ok.1 c hi'; omega
  refine ⟨hi, ⟨hok, fun x hx => h.good.2 x (delD_mem hx)⟩, bytesD_len (by omega) (by omega) (by omega), hz, rise_eq (putD_ok hok hz).1 h.ok.1 fun x => ?_⟩
  rw [mem_putD, mem_delD h.ok.1 hi]
  constructor
  · rintro (rfl | ⟨h1, _⟩)
    · exact hdl
    · exact h1
  · intro hx
    by_cases c : x.id = d.id
    · exact .inl (huniq x hx c)
    · exact .inr ⟨hx, c⟩
end Go.Proofs.Ytldhfdagmaklaaa.VM
end
section
set_option maxHeartbeats 8000000
set_option linter.unusedVariables false
set_option linter.unusedSimpArgs false

/- incipitref25: Find, Total, Drop, Add. -/
namespace Go.Proofs.Ytldhfdagmaklaaa.VM
open Go Go.Proofs AM B
set_option maxRecDepth 100000
/-- What the reference finds. -/
def rAt (l : List Dc) (id : Int) : Int := if isD l id = true then dAt l id else -1
theorem v_rFind {kk : Bool} {l : List Dc} {id : Int} (hl : l.length ≤ 1000) (hr : riseD l) : A 80 [DS kk l, i6 id] (i6 (rAt l id)) := by
  intro H
  refine v_enter hC [] (fun _ _ => kn_none rfl) Try.func80 rfl ok80 (Nat.le_of_ble_eq_true rfl) fun hcl hbl => ?_
  simp
  refine v_loopX hC (fun (j : Nat) e T => T = H ∧ e 0 = DS kk l ∧ e 1 = i6 id ∧ e 5 = i6 j ∧ j ≤ l.length ∧ ∀ i, i < j → (docAt l i).id ≠ id) (fun j => l.length - j) 0 (G.refl ?_) ?_
  · simp
  · rintro j e T ⟨rfl, h0, h1, h5, hj, hv⟩
    simp [h0, h1, h5]
    refine CondV.dec (fun hlt => ?_) (fun hge => ?_)
    · have hlt : j < l.length := by omega
      simp [h0, h1, h5, getD_ hlt]
      refine CondV.dec (fun he => ?_) (fun hne => ?_)
      · have hd : isD l id = true := (isD_iff hr).2 ⟨_, mem_docAt.2 ⟨j, hlt, rfl⟩, he⟩
        have hk : dAt l id = j := by
          have h2 : dAt l id < l.length ∧ (docAt l (dAt l id)).id = id := by unfold isD at hd; exact of_decide_eq_true hd
          rcases Nat.lt_trichotomy (dAt l id) j with c | c | c
          · exact absurd h2.2 (hv _ c)
          · exact c
          · have := dAt_lt c; omega
        simp [h5, Try.results80]
        first | (refine GV.ans hcl ?_; simp [rAt, hd, hk]; done) | (refine GV.ans0 ?_; simp [rAt, hd, hk]; done)
      · simp [h0, h1, h5, w64 (n := (j : Int) + 1) (by omega)]
        refine GH.refl ⟨j + 1, ⟨rfl, ?_, ?_, ?_, hlt, fun i hi => ?_⟩, by omega⟩
        · simp [h0]
        · simp [h1]
        · simp
        · by_cases c : i = j
          · subst c; exact hne
          · exact hv i (by omega)
    · have hd : ¬ isD l id = true := fun h => by
        obtain ⟨x, hx, e⟩ := (isD_iff hr).1 h
        obtain ⟨i, hi, rfl⟩ := mem_docAt.1 hx
        exact hv i (by omega) e
      simp [Try.results80]
      first | (refine GV.ans hcl ?_; simp [rAt, hd]; done) | (refine GV.ans0 ?_; simp [rAt, hd]; done)
theorem v_rTotal {kk : Bool} {l : List Dc} (hl : okD l) : A 81 [DS kk l] (i6 (totD l)) := by
  intro H
  refine v_enter hC [] (fun _ _ => kn_none rfl) Try.func81 rfl ok81 (Nat.le_of_ble_eq_true rfl) fun hcl hbl => ?_
  have hlen := hl.2.1
  simp
  refine v_loopX hC (fun (j : Nat) e T => T = H ∧ e 0 = DS kk l ∧ e 3 = i6 (totD (l.take j)) ∧ e 4 = i6 j ∧ j ≤ l.length) (fun j => l.length - j) 0 (G.refl ?_) ?_
  · simp [totD]
  · rintro j e T ⟨rfl, h0, h3, h4, hj⟩
    simp [h0, h3, h4]
    refine CondV.dec (fun hlt => ?_) (fun hge => ?_)
    · have hlt : j < l.length := by omega
      have ht := totD_le (l := l.take j) (M := 1024) fun d hd => hl.2.2 d (List.mem_of_mem_take hd)
      rw [List.length_take] at ht
      have ht : totD (l.take j) ≤ 1024 * 64 := Nat.le_trans ht (Nat.mul_le_mul_left _ (by omega))
      have hbj := hl.2.2 _ (mem_docAt.2 ⟨j, hlt, rfl⟩)
      simp [h0, h3, h4, getD_ hlt, w64 (n := (j : Int) + 1) (by omega), w64 (n := (totD (l.take j) : Int) + (docAt l j).b.length) (by omega)]
      refine GH.refl ⟨j + 1, ⟨rfl, ?_, ?_, ?_, hlt⟩, by omega⟩
      · simp [h0]
      · simp [totD_take l j hlt]
      · simp
    · have ht : l.take j = l := List.take_of_length_le (by omega)
      rw [ht] at h3
      simp [h3, Try.results81]
      first | (refine GV.ans hcl ?_; simp []; done) | (refine GV.ans0 ?_; simp []; done)
theorem v_rDrop {kk : Bool} {l : List Dc} {id : Int} (hl : okD l) : A 46 [DS kk l, i6 id] (.tup [if isD l id = true then DS true (delD l id) else DS kk l, i6 (if isD l id = true then 0 else 7)]) := by
  intro H
  refine v_enter hC [] (fun _ _ => kn_none rfl) Try.func46 rfl ok46 (Nat.le_of_ble_eq_true rfl) fun hcl hbl => ?_
  have hlen := hl.2.1
  simp
  refine (v_rFind (kk := kk) (l := l) (id := id) (by omega) hl.1).call ?_
  simp
  refine CondV.dec (fun hn => ?_) (fun hp => ?_)
  · have hd : ¬ isD l id = true := fun h => by unfold rAt at hn; rw [if_pos h] at hn; omega
    simp [Try.results46]
    first | (refine GV.ans hcl ?_; simp [hd]; done) | (refine GV.ans0 ?_; simp [hd]; done)
  · have hd : isD l id = true := by
      cases h : isD l id with
      | true => rfl
      | false => exfalso; apply hp; unfold rAt; rw [if_neg (by simp [h])]; omega
    have hk : rAt l id = dAt l id := by unfold rAt; rw [if_pos hd]
    have hlt : dAt l id < l.length := by unfold isD at hd; exact (of_decide_eq_true hd).1
    rw [hk]
    simp
    refine v_draw (ord := [0, 1, 2, 3, 4, 5, 6, 7, 8, 9, 10, 11]) (m := 0) (by decide +kernel) (by decide +kernel) ?_
    have hbd : bounds l.length l.length (some ((dAt l id : Int) + 1)) none none = some (dAt l id + 1, l.length, l.length) := by
      have := bounds_lo (n := dAt l id + 1) (L := l.length) (by omega)
      simpa using this
    simp [w64 (n := (dAt l id : Int) + 1) (by omega), bounds_hi (n := dAt l id) (L := l.length) (by omega), hbd, Try.results46]
    have hmap : List.take (dAt l id) (List.map dc l) ++ List.drop (dAt l id + 1) (List.map dc l) = (delD l id).map dc := by simp [delD]
    refine ⟨⟨fun r hr => by obtain ⟨x, _, rfl⟩ := List.mem_map.1 (List.mem_of_mem_take hr); exact ⟨rfl, rfl⟩, by omega⟩, ⟨fun r hr => by obtain ⟨x, _, rfl⟩ := List.mem_map.1 (List.mem_of_mem_drop hr); exact ⟨rfl, rfl⟩, by omega⟩, ?_⟩
    rw [hmap]
    first | (refine GV.ans hcl ?_; simp [hd]; done) | (refine GV.ans0 ?_; simp [hd]; done)
/-- The reference's list, on its way. -/
def outL (l : List Dc) (d : Dc) (j : Nat) : List Dc := if dAt l d.id < j then l.take (dAt l d.id) ++ [d] ++ (l.take j).drop (dAt l d.id) else l.take j
theorem outL_app {l : List Dc} {d : Dc} {j : Nat} (h : j < l.length) (hk : dAt l d.id ≠ j) : outL l d (j + 1) = outL l d j ++ [docAt l j] := by
  unfold outL
  have e : l.take (j + 1) = l.take j ++ [docAt l j] := by rw [List.take_succ_eq_append_getElem h, docAt_eq l j h]
  by_cases c : dAt l d.id < j
  · rw [if_pos (by omega), if_pos c, e, List.drop_append_of_le_length (by rw [List.length_take]; omega)]
    simp
  · rw [if_neg (by omega), if_neg c, e]
theorem outL_put {l : List Dc} {d : Dc} {j : Nat} (h : j < l.length) (hk : dAt l d.id = j) : outL l d (j + 1) = outL l d j ++ [d] ++ [docAt l j] := by
  unfold outL
  have e : l.take (j + 1) = l.take j ++ [docAt l j] := by rw [List.take_succ_eq_append_getElem h, docAt_eq l j h]
  rw [if_pos (by omega), if_neg (by omega), hk, e, List.drop_append_of_le_length (by rw [List.length_take]; omega), List.drop_of_length_le (by rw [List.length_take]; omega)]
  simp
theorem outL_len {l : List Dc} {d : Dc} {j : Nat} : (outL l d j).length ≤ l.length + 1 := by
  unfold outL
  split <;> simp <;> omega
theorem v_rAdd {kk : Bool} {l : List Dc} {d : Dc} (hl : okD l) (hd : d.b.length < 2 ^ 60) : A 43 [DS kk l, .agg (dcK true d)] (.tup [if putE l d = 0 then DS true (putD l d) else DS kk l, i6 (putE l d)]) := by
  intro H
  refine v_enter hC [] (fun _ _ => kn_none rfl) Try.func43 rfl ok43 (Nat.le_of_ble_eq_true rfl) fun hcl hbl => ?_
  obtain ⟨hr, hlen, hbd⟩ := hl
  simp
  refine (v_rdCheck (kk := true) (d := d)).call ?_
  simp
  refine CondV.on (fun h => ?_) (fun h => ?_)
  · have h1 : dchk d ≠ 0 := by simpa using h
    have hm : putE l d = dchk d := by simp [putE, h1]
    simp [Try.results43]
    first | (refine GV.ans hcl ?_; simp [hm, h1]; done) | (refine GV.ans0 ?_; simp [hm, h1]; done)
  have h1 : dchk d = 0 := by simpa using h
  have hdl : d.b.length ≤ 1024 := by
    unfold dchk at h1
    split at h1
    · omega
    · split at h1 <;> omega
  simp
  refine (v_rFind (kk := kk) (l := l) (id := d.id) (by omega) hr).call ?_
  simp
  refine CondV.dec (fun hp => ?_) (fun hn => ?_)
  · have h2 : isD l d.id = true := by
      cases h : isD l d.id with
      | true => rfl
      | false => exfalso; unfold rAt at hp; rw [if_neg (by simp [h])] at hp; omega
    have hm : putE l d = 8 := by simp [putE, h1, h2]
    simp [Try.results43]
    first | (refine GV.ans hcl ?_; simp [hm]; done) | (refine GV.ans0 ?_; simp [hm]; done)
  have h2 : isD l d.id = false := by
    cases h : isD l d.id with
    | false => rfl
    | true => exfalso; apply hn; unfold rAt; rw [if_pos h]; omega
  have htot := totD_le hbd
  simp
  refine v_draw (ord := [0, 1, 2, 3, 4, 5, 6, 7, 8, 9, 10, 11]) (m := 8) (by decide +kernel) (by decide +kernel) ?_
  simp
  by_cases h64 : (64 : Int) ≤ l.length
  · have hm : putE l d = 6 := by
      have : l.length = 64 ∨ 8192 < totD l + d.b.length := .inl (by omega)
      simp [putE, h1, h2, this]
    simp [h64, Try.results43]
    first | (refine GV.ans hcl ?_; simp [hm]; done) | (refine GV.ans0 ?_; simp [hm]; done)
  simp [h64]
  refine (v_rTotal (kk := kk) (l := l) ⟨hr, hlen, hbd⟩).call ?_
  simp [h64, w64 (n := (totD l : Int) + d.b.length) (by omega)]
  refine CondV.dec (fun h => ?_) (fun h => ?_)
  · have hm : putE l d = 6 := by
      have : l.length = 64 ∨ 8192 < totD l + d.b.length := .inr (by omega)
      simp [putE, h1, h2, this]
    simp [Try.results43]
    first | (refine GV.ans hcl ?_; simp [hm]; done) | (refine GV.ans0 ?_; simp [hm]; done)
  have hm : putE l d = 0 := by
    have : ¬ (l.length = 64 ∨ 8192 < totD l + d.b.length) := by omega
    simp [putE, h1, h2, this]
  simp
  refine v_loopX hC (fun (j : Nat) e T => ∃ w t, T = H ++ [.mem (dcK true d) true, .vec w ((outL l d j).map dc) 2 true t] ∧ e 0 = DS kk l ∧ e 3 = .ptr H.length 0 ∧ e 7 = .own (H.length + 1) w ∧ e 8 = bo (decide (dAt l d.id < j)) ∧ e 9 = i6 j ∧ j ≤ l.length) (fun j => l.length - j) 0 ?_ ?_
  · refine G.nilT (H := H) (Z := [.mem (dcK true d) true]) (s := 2) 7 hcl (by simp) (by omega) (by simp) (by simp) ?_
    exact ⟨0, true, by simp [outL], by simp, by simp, by simp, by simp, by simp, by simp⟩
  · rintro j e T ⟨w, t, rfl, h0, h3, h7, h8, h9, hj⟩
    have hol := outL_len (l := l) (d := d) (j := j)
    have hk := dAt_le l d.id
    simp [h0, h9]
    refine CondV.dec (fun hlt => ?_) (fun hge => ?_)
    · have hlt : j < l.length := by omega
      simp
      refine v_draw (ord := [0, 1, 2, 3, 4, 5, 6, 7, 8, 9, 10, 11]) (m := 10) (by decide +kernel) (by decide +kernel) ?_
      simp [h8]
      rcases Nat.lt_trichotomy (dAt l d.id) j with c | c | c
      · simp [c, h0, h3, h7, h8, h9, getD_ hlt, w64 (n := (j : Int) + 1) (by omega)]
        refine ⟨by omega, GH.refl ⟨j + 1, ⟨w + 1, t, ?_, ?_, ?_, ?_, ?_, ?_, hlt⟩, by omega⟩⟩
        · rw [outL_app hlt (by omega)]; simp
        · simp [h0]
        · simp [h3]
        · simp
        · simp [h8, c]; omega
        · simp
      · have hc1 : ¬ dAt l d.id < j := by omega
        have hgt : d.id < (docAt l j).id := by
          have h3 := dAt_at (l := l) (id := d.id) (by omega)
          have h4 : (docAt l (dAt l d.id)).id ≠ d.id := fun e => by
            have : isD l d.id = true := (isD_iff hr).2 ⟨_, mem_docAt.2 ⟨_, by omega, rfl⟩, e⟩
            rw [h2] at this; cases this
          rw [c] at h3 h4
          omega
        simp [hc1, h0, h3, h7, h8, h9, getD_ hlt, hgt, w64 (n := (j : Int) + 1) (by omega)]
        refine ⟨by omega, by omega, GH.refl ⟨j + 1, ⟨w + 2, t, ?_, ?_, ?_, ?_, ?_, ?_, hlt⟩, by omega⟩⟩
        · rw [outL_put hlt c]; simp
        · simp [h0]
        · simp [h3]
        · simp
        · simp; omega
        · simp
      · have hc1 : ¬ dAt l d.id < j := by omega
        have hng := dAt_lt (l := l) (id := d.id) (j := j) c
        have hgt : ¬ d.id < (docAt l j).id := by omega
        simp [hc1, h0, h3, h7, h8, h9, getD_ hlt, hgt, w64 (n := (j : Int) + 1) (by omega)]
        refine ⟨by omega, GH.refl ⟨j + 1, ⟨w + 1, t, ?_, ?_, ?_, ?_, ?_, ?_, hlt⟩, by omega⟩⟩
        · rw [outL_app hlt (by omega)]; simp
        · simp [h0]
        · simp [h3]
        · simp
        · simp [h8]; omega
        · simp
    · have hjl : j = l.length := by omega
      subst hjl
      by_cases c : dAt l d.id < l.length
      · have ho : outL l d l.length = putD l d := by unfold outL putD; rw [if_pos c, List.take_length]
        rw [ho]
        simp [h7, h8, c, Try.results43]
        first | (refine GV.ans hcl ?_; simp [hm]; done) | (refine GV.ans0 ?_; simp [hm]; done)
      · have hk2 : dAt l d.id = l.length := by omega
        have ho : (outL l d l.length).map dc ++ [dc d] = (putD l d).map dc := by unfold outL putD; rw [if_neg c, hk2, List.take_length, List.drop_length]; simp
        simp [h3, h7, h8, c, Try.results43]
        refine ⟨by omega, ?_⟩
        rw [show [[V.lit (Value.int IntKind.i64 d.id), V.fsl true 1 (List.map bc d.b)]] = [dc d] from rfl, ho]
        first | (refine GV.ans hcl ?_; simp [hm]; done) | (refine GV.ans0 ?_; simp [hm]; done)
end Go.Proofs.Ytldhfdagmaklaaa.VM
end
section
set_option maxHeartbeats 8000000
set_option linter.unusedVariables false
set_option linter.unusedSimpArgs false

/- corpus: Copy, Find, Get, At; the reference's List and Bytes. -/
namespace Go.Proofs.Ytldhfdagmaklaaa.VM
open Go Go.Proofs AM B
set_option maxRecDepth 100000
theorem v_Copy {H : Hp} {g : Nat} {k ra : Bool} {l : List Dc} (hg : H[g]? = some (.mem [DS k l] ra)) (hl : okD l) :
    VC Try.prog prims 44 [.ptr g 0] H fun u T => u = .ptr H.length 0 ∧ T = H ++ [.mem [DS true l] true] := by
  refine v_enter hC [] (fun _ _ => kn_none rfl) Try.func44 rfl ok44 (Nat.le_of_ble_eq_true rfl) fun hcl hbl => ?_
  simp [hg]
  refine (v_dClone (kk := k) (l := l) (by have := hl.2.1; omega)).call fun w t => ?_
  simp [Try.results44]
  exact GV.keep (X := [_, _]) (H.length + 1) (.mem [DS true l] true) (.ptr H.length 0) hcl ⟨_, by simp; rfl, by omega, by simp [UpFz, PureR_map]⟩ (by simp) ⟨rfl, rfl⟩
theorem v_rPutO {n : Nat} (hn : n < 18446744073709551616) : AO 74 [.lit (.int .u64 n)] 1 ((venc n).map bc) := by
  intro H
  refine v_enter hC [] (fun _ _ => kn_none rfl) Try.func74 rfl ok74 (Nat.le_of_ble_eq_true rfl) fun hcl hbl => ?_
  simp
  refine v_loopX hC (fun (X : Nat × List Int) e T => ∃ w t, T = H ++ [.vec w (X.2.map bc) 1 true t] ∧ e 0 = .lit (.int .u64 X.1) ∧ e 3 = .own H.length w ∧ X.1 < 18446744073709551616 ∧ venc n = X.2 ++ venc X.1) (fun X => X.1) (n, []) ?_ ?_
  · refine G.nilT0 (s := 1) 3 hcl (Nat.le_refl _) (by omega) (by simp) ?_
    exact ⟨0, true, by simp, by simp, by simp, hn, by simp⟩
  · rintro ⟨m, done⟩ e T ⟨w, t, rfl, h0, h3, hm, hv⟩
    simp only at h0 hm hv
    have hlen : done.length + (venc m).length ≤ 10 := by have := venc_length n; rw [hv, List.length_append] at this; exact this
    have hpos := venc_pos m
    have hw1 : IntKind.u8.wrap ((m : Int) % 128) = ((m % 128 : Nat) : Int) := by
      simp [IntKind.wrap, IntKind.bits, IntKind.signed]; omega
    have hw3 : IntKind.u8.wrap ((m : Int).tmod 128) = ((m % 128 : Nat) : Int) := by
      rw [Int.tmod_eq_emod_of_nonneg (by omega)]; exact hw1
    have hw2 : IntKind.u64.wrap ((m : Int) / 128) = ((m / 128 : Nat) : Int) := by
      simp [IntKind.wrap, IntKind.bits, IntKind.signed]; omega
    simp [h0, h3, hw1, hw2, hw3]
    refine CondV.dec (fun hz => ?_) (fun hnz => ?_)
    · have hlt : m < 128 := by omega
      have hv2 : venc n = done ++ [(m : Int)] := by rw [hv, venc_lt m hlt]
      simp [h0, h3, hw1, hw2, hw3, Try.results74]
      refine ⟨by omega, ?_⟩
      have hmm : (m : Int) % 128 = m := by omega
      have hmap : done.map bc ++ [bc (m : Int)] = (venc n).map bc := by rw [hv2]; simp
      rw [hmm, show [V.lit (Value.int IntKind.u8 (m : Int))] = bc (m : Int) from rfl, hmap]
      exact GV.own hcl (List.getElem?_concat_length ..) (Nat.le_refl _) (fun r hr => by obtain ⟨x, _, rfl⟩ := List.mem_map.1 hr; exact ⟨rfl, rfl⟩) (PureR_map.2 (by simp)) ⟨_, _, rfl, rfl⟩
    · have hge : 128 ≤ m := by omega
      have hvm := venc_ge m hge hm
      have hw4 : IntKind.u8.wrap ((m : Int) % 128 + 128) = ((m % 128 + 128 : Nat) : Int) := by
        simp [IntKind.wrap, IntKind.bits, IntKind.signed]; omega
      simp [h0, h3, hw1, hw2, hw3, hw4]
      refine ⟨by omega, GH.refl ⟨(m / 128, done ++ [((m % 128 + 128 : Nat) : Int)]), ⟨w + 1, t, ?_, ?_, ?_, ?_, ?_⟩, ?_⟩⟩
      · simp
      · simp
      · simp
      · simp only; omega
      · simp only; rw [hv, hvm]; simp
      · simp only; omega
/-- The reference's list of numbers. -/
theorem v_rList {kk : Bool} {ids : List Int} (hl : ids.length ≤ 1000) (h0 : ∀ n ∈ ids, 0 ≤ n) (hr : ∀ n ∈ ids, n < 9223372036854775808) : AO 93 [IS kk ids] 1 ((listB ids).map bc) := by
  intro H
  refine v_enter hC [] (fun _ _ => kn_none rfl) Try.func93 rfl ok93 (Nat.le_of_ble_eq_true rfl) fun hcl hbl => ?_
  have hwl : IntKind.u64.wrap (ids.length : Int) = (ids.length : Int) := by simp [IntKind.wrap, IntKind.bits, IntKind.signed]; omega
  have get : ∀ {k : Nat} (h : k < ids.length), ids[k]? = some ids[k] := fun h => List.getElem?_eq_getElem h
  simp [hwl]
  refine (v_rPutO (n := ids.length) (by omega)).call fun w t => ?_
  simp
  refine v_loopX hC (fun (j : Nat) e T => ∃ w t, T = H ++ [.vec w ((venc ids.length ++ vencs (ids.take j)).map bc) 1 true t] ∧ e 0 = IS kk ids ∧ e 3 = .own H.length w ∧ e 4 = i6 j ∧ j ≤ ids.length) (fun j => ids.length - j) 0 (G.refl ?_) ?_
  · exact ⟨w, t, by simp [vencs], by simp, by simp, by simp, by simp⟩
  · rintro j e T ⟨w, t, rfl, g0, g3, g4, hj⟩
    have hlen : (venc ids.length ++ vencs (ids.take j)).length ≤ 100000 := by
      have := venc_length ids.length
      have := vencs_length (ids.take j)
      rw [List.length_take] at this
      rw [List.length_append]
      omega
    simp [g0, g4]
    refine CondV.dec (fun hlt => ?_) (fun hge => ?_)
    · have hlt : j < ids.length := by omega
      have hn0 := h0 _ (List.getElem_mem hlt)
      have hn1 := hr _ (List.getElem_mem hlt)
      obtain ⟨n, hn⟩ : ∃ n : Nat, ids[j] = n := ⟨ids[j].toNat, by omega⟩
      have hw : IntKind.u64.wrap (n : Int) = (n : Int) := by simp [IntKind.wrap, IntKind.bits, IntKind.signed]; omega
      have hv := venc_length n
      simp [g0, g3, g4, get hlt, hn, hw]
      refine (v_rPut (n := n) (by omega)).call ?_
      simp [g0, g3, g4, w64 (n := (j : Int) + 1) (by omega)]
      rw [List.length_append] at hlen
      refine ⟨by omega, GH.refl ⟨j + 1, ⟨w + 1, t, ?_, ?_, ?_, ?_, hlt⟩, by omega⟩⟩
      · rw [List.take_succ_eq_append_getElem hlt, vencs_append]; simp [vencs, hn]
      · simp [g0]
      · simp
      · simp
    · have ht : ids.take j = ids := List.take_of_length_le (by omega)
      rw [ht]
      simp [g3, Try.results93]
      rw [show List.map bc (venc ids.length) ++ List.map bc (vencs ids) = (listB ids).map bc by unfold listB; simp]
      exact GV.own hcl (List.getElem?_concat_length ..) (Nat.le_refl _) (fun r hr => by obtain ⟨x, _, rfl⟩ := List.mem_map.1 hr; exact ⟨rfl, rfl⟩) (PureR_map.2 (by simp)) ⟨_, _, rfl, rfl⟩
end Go.Proofs.Ytldhfdagmaklaaa.VM
end
section
set_option maxHeartbeats 8000000
set_option linter.unusedVariables false
set_option linter.unusedSimpArgs false

/- The reference's Bytes; Tells. -/
namespace Go.Proofs.Ytldhfdagmaklaaa.VM
open Go Go.Proofs AM B
set_option maxRecDepth 100000
/-- Two slots that are nil become rows of one's own. -/
theorem G.nilT2 {H : Hp} {Q : Ev → Hp → Prop} {m s s' : Nat} {e : Ev} (t t' : Tmp) (hcl : Cl H) (hm : m ≤ H.length) (hs : 0 < s ∧ s ≤ 1048576) (hs' : 0 < s' ∧ s' ≤ 1048576) (ht : e t = .lit (.slice none 0 0)) (ht' : e t' = .lit (.slice none 0 0))
    (h : Q (vupd (vupd (VM.clip H.length e) (some t) (.own H.length 0)) (some t') (.own (H.length + 1) 0)) (H ++ [.vec 0 [] s true true, .vec 0 [] s' true true])) : G m Q e H := by
  have := G.mk (Q := Q) (m := m) (e := e) (H0 := H) (Z := []) (Z' := []) (X := []) [s, s'] (vupd (vupd (VM.clip H.length e) (some t) (.own H.length 0)) (some t') (.own (H.length + 1) 0)) hcl (by simpa using hm) (by simpa using ⟨hs, hs'⟩) (by simp) (fun j => by
    show Up _ _ _ _ (if j = t' then V.own (H.length + 1) 0 else if j = t then V.own H.length 0 else VM.clip _ e j) (e j)
    by_cases c : j = t'
    · subst c
      rw [if_pos rfl, ht']
      simp [Up]
    · rw [if_neg c]
      by_cases c2 : j = t
      · subst c2
        rw [if_pos rfl, ht]
        simp [Up]
      · rw [if_neg c2]
        exact clip_up j) (by simpa using h)
  simpa using this
theorem txt_take (l : List Dc) (j : Nat) (h : j < l.length) : txtD (l.take (j + 1)) = txtD (l.take j) ++ [(docAt l j).b] := by
  unfold txtD
  rw [List.take_succ_eq_append_getElem h, docAt_eq l j h, List.map_append]; rfl
theorem v_rBytes {kk : Bool} {l : List Dc} (hl : gooD l) : A 54 [DS kk l] (BS true (bytesD l)) := by
  intro H
  refine v_enter hC [] (fun _ _ => kn_none rfl) Try.func54 rfl ok54 (Nat.le_of_ble_eq_true rfl) fun hcl hbl => ?_
  have hlen := hl.1.2.1
  simp
  refine v_loopX hC (fun (j : Nat) e T => ∃ w w' t, T = H ++ [.vec w ((idsD (l.take j)).map ic) 1 true t, .vec w' ((textB (txtD (l.take j))).map bc) 1 true true] ∧ e 0 = DS kk l ∧ e 3 = .own H.length w ∧ e 4 = .own (H.length + 1) w' ∧ e 5 = i6 j ∧ j ≤ l.length) (fun j => l.length - j) 0 ?_ ?_
  · refine G.nilT2 (s := 1) (s' := 1) 3 4 hcl (Nat.le_refl _) (by omega) (by omega) (by simp) (by simp) ?_
    exact ⟨0, 0, true, by simp [idsD, txtD, textB], by simp, by simp, by simp, by simp, by simp⟩
  · rintro j e T ⟨w, w', t, rfl, h0, h3, h4, h5, hj⟩
    have hil : (idsD (l.take j)).length ≤ 64 := by simp [idsD]; omega
    have htl : (txtD (l.take j)).length ≤ 64 := by simp [txtD]; omega
    have htb : ∀ b ∈ txtD (l.take j), b.length ≤ 1024 := fun b hb => by obtain ⟨d, hd, rfl⟩ := List.mem_map.1 hb; exact hl.1.2.2 d (List.mem_of_mem_take hd)
    have h2 : (textB (txtD (l.take j))).length ≤ 100000 := by
      have h := textB_len htb
      calc _ ≤ (1024 + 10) * (txtD (l.take j)).length := h
        _ ≤ (1024 + 10) * 64 := Nat.mul_le_mul_left _ htl
        _ ≤ _ := by omega
    simp [h0, h5]
    refine CondV.dec (fun hlt => ?_) (fun hge => ?_)
    · have hlt : j < l.length := by omega
      have hbj := hl.1.2.2 _ (mem_docAt.2 ⟨j, hlt, rfl⟩)
      have hw : IntKind.u64.wrap ((docAt l j).b.length : Int) = ((docAt l j).b.length : Int) := by simp [IntKind.wrap, IntKind.bits, IntKind.signed]; omega
      simp [h0, h3, h5, getD_ hlt]
      refine ⟨by omega, ?_⟩
      refine v_draw (ord := [0, 1, 2, 3, 4, 5, 6, 7, 8, 9, 10, 11, 12, 13, 14, 15, 16]) (m := 15) (by decide +kernel) (by decide +kernel) ?_
      simp [h0, h3, h4, h5, getD_ hlt, hw]
      have hv := venc_length (docAt l j).b.length
      refine (v_rPut (n := (docAt l j).b.length) (by omega)).call ?_
      simp [h0, h4, h5, getD_ hlt, w64 (n := (j : Int) + 1) (by omega)]
      refine ⟨by omega, by omega, GH.refl ⟨j + 1, ⟨w + 1, w' + 2, t, ?_, ?_, ?_, ?_, ?_, hlt⟩, by omega⟩⟩
      · rw [txt_take l j hlt]
        simp [idsD, textB, List.take_add_one, getD_ hlt]
      · simp [h0]
      · simp [h3]
      · simp
      · simp
    · have ht : l.take j = l := List.take_of_length_le (by omega)
      rw [ht]
      rw [ht] at h2 hil
      simp [h3, h4]
      have hid : ∀ n ∈ idsD l, 1 ≤ n ∧ n ≤ 65535 := fun n hn => by obtain ⟨d, hd, rfl⟩ := List.mem_map.1 hn; exact (hl.2 d hd).1
      refine CALLv.atF (Frz.vec (g := H.length) (w := w) (s := 1) (rows := (idsD l).map ic) (rw := true) (t := t) (by simp) (by simp [PureR_map])) (VC.up (args' := [IS true (idsD l)]) (by simp [UpFz, PureR_map]) (v_rList (kk := true) (ids := idsD l) (by omega) (fun n hn => by have := hid n hn; omega) (fun n hn => by have := hid n hn; omega) _)) fun u T hu => ?_
      obtain ⟨w2, t2, e1, e2⟩ := hu
      subst e1; subst e2
      have h1 : (listB (idsD l)).length ≤ 100000 := by
        have := venc_length (idsD l).length
        have := vencs_length (idsD l)
        unfold listB; rw [List.length_append]; omega
      simp [h4, Try.results54]
      refine ⟨by omega, ?_⟩
      rw [show List.map bc (listB (idsD l)) ++ List.map bc (textB (txtD l)) = (bytesD l).map bc by unfold bytesD; simp]
      first | (refine GV.ans hcl ?_; simp []; done) | (refine GV.ans0 ?_; simp []; done)
end Go.Proofs.Ytldhfdagmaklaaa.VM
end
section
set_option maxHeartbeats 8000000
set_option linter.unusedVariables false
set_option linter.unusedSimpArgs false

/- Tells. -/
namespace Go.Proofs.Ytldhfdagmaklaaa.VM
open Go Go.Proofs AM B
set_option maxRecDepth 100000
theorem getId {l : List Dc} {k : Nat} (h : k < l.length) : (idsD l)[k]? = some (docAt l k).id := by unfold idsD; rw [List.getElem?_map, getD_ h]; rfl
theorem getTx {l : List Dc} {k : Nat} (h : k < l.length) : (txtD l)[k]? = some (docAt l k).b := by unfold txtD; rw [List.getElem?_map, getD_ h]; rfl
theorem idsD_len {l : List Dc} : (idsD l).length = l.length := by simp [idsD]
theorem txtD_len {l : List Dc} : (txtD l).length = l.length := by simp [txtD]
end Go.Proofs.Ytldhfdagmaklaaa.VM
end
section
set_option maxHeartbeats 8000000
set_option linter.unusedVariables false
set_option linter.unusedSimpArgs false

/- batch: documents, operations, Record; what a nil batch answers. -/
namespace Go.Proofs.Ytldhfdagmaklaaa.VM
open Go Go.Proofs AM B
set_option maxRecDepth 100000
attribute [simp] dcK
attribute [simp] DS
/-- An operation. -/
structure Oc where
  del : Bool
  id : Int
  b : List Int
deriving DecidableEq, Inhabited
def ocK (k : Bool) (o : Oc) : List V := [bo o.del, i6 o.id, BS k o.b]
abbrev oc (o : Oc) : List V := ocK true o
attribute [simp] ocK
def OS (k : Bool) (l : List Oc) : V := .fsl k 3 (l.map oc)
def OSf (k : Bool) (l : List (Bool × Oc)) : V := .fsl k 3 (l.map fun p => ocK p.1 p.2)
attribute [simp] OS OSf
def cutO (o : Oc) : Oc := ⟨o.del, o.id, o.b.take 1100⟩
theorem v_oTo {kk : Bool} {l : List (Bool × Oc)} {most : Nat} (hm : most ≤ 1000) (hl : l.length < 2 ^ 63) (hb : ∀ p ∈ l, p.2.b.length < 2 ^ 63) : A 15 [OSf kk l, i6 most] (OS true ((l.take most).map fun p => cutO p.2)) := by
  intro H
  refine v_enter hC [] (fun _ _ => kn_none rfl) Try.func15 rfl ok15 (Nat.le_of_ble_eq_true rfl) fun hcl hbl => ?_
  simp
  refine v_loopX hC (fun (k : Nat) e T => ∃ w t, T = H ++ [.vec w ((((l.take k).map fun p => cutO p.2)).map oc) 3 true t] ∧ e 0 = OSf kk l ∧ e 5 = .own H.length w ∧ e 6 = i6 k ∧ e 1 = i6 most ∧ k ≤ l.length ∧ k ≤ most) (fun k => l.length - k) 0 ?_ ?_
  · refine G.nilT0 (s := 3) 5 hcl (Nat.le_refl _) (by omega) (by simp) ?_
    exact ⟨0, true, by simp, by simp, by simp, by simp, by simp, by simp, by simp⟩
  · rintro k e T ⟨w, t, rfl, h0, h5, h6, h1, hk, hk3⟩
    simp [h0, h6, h1]
    have done : (¬ (k : Int) < l.length ∨ ¬ (k : Int) < most) → l.take most = l.take k := fun h => by
      rcases h with h | h
      · rw [List.take_of_length_le (by omega), List.take_of_length_le (by omega)]
      · rw [show k = most by omega]
    refine GuardR.dec (fun hlt => ?_) (fun hge => ?_)
    · simp [h6, h1, hlt]
      have hlt : k < l.length := by omega
      refine CondV.dec (fun h3k => ?_) (fun h3k => ?_)
      · obtain ⟨p, hp⟩ : ∃ p, l[k] = p := ⟨_, rfl⟩
        have hget : l[k]? = some p := by rw [List.getElem?_eq_getElem hlt, hp]
        have hpb := hb p (hp ▸ List.getElem_mem hlt)
        have hbd : bounds p.2.b.length p.2.b.length none (some (if 1100 < (p.2.b.length : Int) then 1100 else (p.2.b.length : Int))) none = some (0, min p.2.b.length 1100, p.2.b.length) := by
          rw [show (if 1100 < (p.2.b.length : Int) then 1100 else (p.2.b.length : Int)) = ((min p.2.b.length 1100 : Nat) : Int) by split <;> omega]
          exact bounds_hi (by omega)
        have htb : p.2.b.take (min p.2.b.length 1100) = p.2.b.take 1100 := by
          rcases Nat.le_total p.2.b.length 1100 with h | h
          · rw [Nat.min_eq_left h, List.take_of_length_le (Nat.le_refl _), List.take_of_length_le h]
          · rw [Nat.min_eq_right h]
        simp
        refine v_draw (ord := [11, 12, 13, 14, 15, 16, 17, 18, 19, 20, 21, 22, 23, 24, 25, 0, 1, 2, 3, 4, 5, 6, 7, 8, 9, 10, 26, 27, 28, 29]) (m := 26) (by decide +kernel) (by decide +kernel) ?_
        simp [h0, h5, h6, h1, hget, hbd]
        have htk : ((l.take (k + 1)).map fun p => cutO p.2).map oc = List.take k (List.map (oc ∘ fun p => cutO p.2) l) ++ [oc (cutO p.2)] := by
          rw [List.take_succ_eq_append_getElem hlt, hp]; simp
        have hpu : PureR (List.take k (List.map (oc ∘ fun p : Bool × Oc => cutO p.2) l)) := .take (PureR_map.2 fun a _ => by simp) k
        refine ⟨⟨fun r hr => ?_, by omega⟩, by omega, GH.of (G.clip (Z := [_]) (X := [_, _]) (Z' := [.vec (w + 1) (((l.take (k + 1)).map fun p => cutO p.2).map oc) 3 true t]) hcl (by simp) ?_ ⟨k + 1, ⟨w + 1, t, rfl, ?_, ?_, ?_, ?_, hlt, by omega⟩, by omega⟩)⟩
        · obtain ⟨x, _, rfl⟩ := List.mem_map.1 (List.mem_of_mem_take hr)
          exact ⟨rfl, rfl⟩
        · simp only [UpOs_cons, UpOs_nil, and_true]
          rw [htk]
          refine ⟨rfl, rfl, rfl, rfl, fun r hr => ?_, UpR.app (UpR.self hpu) ?_⟩
          · rcases List.mem_append.1 hr with hr | hr
            · obtain ⟨x, _, rfl⟩ := List.mem_map.1 (List.mem_of_mem_take hr)
              exact ⟨rfl, rfl⟩
            · simp at hr; subst hr; exact ⟨rfl, rfl⟩
          · simp [UpFz, cutO, ← htb]
        · simp [h0]
        · simp
        · simp [w64 (n := (k : Int) + 1) (by omega)]
        · simp [h1]
      · have hd := done (.inr (by omega))
        simp [h5, Try.results15]
        first | (refine GV.ans hcl ?_; simp [hd]; done) | (refine GV.ans0 ?_; simp [hd]; done)
    · have hd := done (.inl (by omega))
      simp [hge, h5, Try.results15]
      first | (refine GV.ans hcl ?_; simp [hd]; done) | (refine GV.ans0 ?_; simp [hd]; done)
theorem v_doc {kk : Bool} {o : Oc} : A 84 [.agg (ocK kk o)] (.agg (dcK kk ⟨o.id, o.b⟩)) := by
  intro H
  refine v_enter hC [] (fun _ _ => kn_none rfl) Try.func84 rfl ok84 (Nat.le_of_ble_eq_true rfl) fun hcl hbl => ?_
  simp [Try.results84]
  first | (refine GV.ans hcl ?_; simp []; done) | (refine GV.ans0 ?_; simp []; done)
/-- What check says of an operation. -/
def ochk (o : Oc) : Int := if dchk ⟨o.id, []⟩ ≠ 0 ∨ o.del = false then dchk ⟨o.id, o.b⟩ else if 0 < o.b.length then 3 else 0
theorem v_ocheck {kk : Bool} {o : Oc} : A 48 [.agg (ocK kk o)] (i6 (ochk o)) := by
  intro H
  refine v_enter hC [] (fun _ _ => kn_none rfl) Try.func48 rfl ok48 (Nat.le_of_ble_eq_true rfl) fun hcl hbl => ?_
  simp
  refine (v_dCheck (kk := true) (d := ⟨o.id, []⟩)).callU [.agg (dcK true ⟨o.id, []⟩)] (by simp) ?_
  simp
  refine GuardR.dec (fun h => ?_) (fun h => ?_)
  · simp [h]
    refine CondV.on (fun h2 => ?_) (fun h2 => ?_)
    · have hd : o.del = false := by simpa using h2
      have hv : ochk o = dchk ⟨o.id, o.b⟩ := by unfold ochk; rw [if_pos (.inr hd)]
      simp
      refine (v_doc (kk := kk) (o := o)).call ?_
      simp
      refine (v_dCheck (kk := kk) (d := ⟨o.id, o.b⟩)).call ?_
      simp [Try.results48]
      first | (refine GV.ans hcl ?_; simp [hv]; done) | (refine GV.ans0 ?_; simp [hv]; done)
    · have hd : o.del = true := by simpa using h2
      have hv : ochk o = if 0 < o.b.length then 3 else 0 := by unfold ochk; rw [if_neg (by simp [h, hd])]
      simp
      refine CondV.dec (fun h3 => ?_) (fun h3 => ?_)
      · have h3 : 0 < o.b.length := by omega
        rw [if_pos h3] at hv
        simp [Try.results48]
        first | (refine GV.ans hcl ?_; simp [hv]; done) | (refine GV.ans0 ?_; simp [hv]; done)
      · have h3 : ¬ 0 < o.b.length := by omega
        rw [if_neg h3] at hv
        simp [Try.results48]
        first | (refine GV.ans hcl ?_; simp [hv]; done) | (refine GV.ans0 ?_; simp [hv]; done)
  · simp [h]
    have hv : ochk o = dchk ⟨o.id, o.b⟩ := by unfold ochk; rw [if_pos (.inl h)]
    refine (v_doc (kk := kk) (o := o)).call ?_
    simp
    refine (v_dCheck (kk := kk) (d := ⟨o.id, o.b⟩)).call ?_
    simp [Try.results48]
    first | (refine GV.ans hcl ?_; simp [hv]; done) | (refine GV.ans0 ?_; simp [hv]; done)
theorem v_plainD {kk : Bool} {id : Int} {b : List Int} (h0 : 0 ≤ id) (h1 : id < 9223372036854775808) : A 95 [.agg (ocK kk ⟨true, id, b⟩)] (BS true (2 :: venc id.toNat)) := by
  intro H
  refine v_enter hC [5] (fun _ _ => kn_none rfl) Try.func95 rfl ok95 (Nat.le_of_ble_eq_true rfl) fun hcl hbl => ?_
  have hp : putB [id] = venc id.toNat := by simp [putB, vencs, h0]
  have hv := venc_length id.toNat
  simp
  refine (v_Put (kk := true) (l := [id]) (by simp) (by simpa using h1)).callU [IS true [id]] (by simp) ?_
  rw [hp]
  simp [Try.results95]
  refine ⟨by omega, ?_⟩
  first | (refine GV.ans hcl ?_; simp []; done) | (refine GV.ans0 ?_; simp []; done)
theorem ochk_del {o : Oc} (hd : o.del = true) (h : ochk o = 0) : 1 ≤ o.id ∧ o.id ≤ 65535 := by
  unfold ochk at h
  by_cases hc : dchk ⟨o.id, []⟩ = 0
  · unfold dchk at hc
    split at hc
    · cases hc
    · dsimp only at *; omega
  · rw [if_pos (.inl hc)] at h
    unfold dchk at h
    split at h
    · cases h
    · dsimp only at *; omega
theorem v_RecordD {kk : Bool} {o : Oc} (hd : o.del = true) (hz : ochk o = 0) : A 55 [.agg (ocK kk o)] (.tup [BS true (markB (2 :: venc o.id.toNat)), i6 0]) := by
  intro H
  refine v_enter hC [] (fun _ _ => kn_none rfl) Try.func55 rfl ok55 (Nat.le_of_ble_eq_true rfl) fun hcl hbl => ?_
  simp
  refine (v_ocheck (kk := kk) (o := o)).call ?_
  simp [hz]
  have hid := ochk_del hd hz
  have hv := venc_length o.id.toNat
  refine (v_plainD (kk := kk) (id := o.id) (b := o.b) (by omega) (by omega)).callU [.agg (ocK kk ⟨true, o.id, o.b⟩)] (by simp [hd]) ?_
  simp
  refine (v_Mark (kb := true) (l := 2 :: venc o.id.toNat) (by simp; omega) (fun x hx => ?_)).call ?_
  · rcases List.mem_cons.1 hx with rfl | hx
    · omega
    · exact venc_byte _ _ hx
  · simp [Try.results55]
    first | (refine GV.ans hcl ?_; simp []; done) | (refine GV.ans0 ?_; simp []; done)
theorem v_known26 : A 21 [] (bo true) := by
  intro H
  refine v_enter hC [] (fun _ _ => kn_none rfl) Try.func21 rfl ok21 (Nat.le_of_ble_eq_true rfl) fun hcl hbl => ?_
  simp
  refine (v_RecordD (kk := true) (o := ⟨true, 5, []⟩) rfl (by decide)).callU [.agg (ocK true ⟨true, 5, []⟩)] (by simp) ?_
  have hm : markB (2 :: venc 5) = 2 :: 5 :: low4 (crcS [2, 5]) := by
    rw [venc_lt 5 (by decide)]; rfl
  simp [hm, low4, Try.results21]
  first | (refine GV.ans hcl ?_; simp []; done) | (refine GV.ans0 ?_; simp []; done)
end Go.Proofs.Ytldhfdagmaklaaa.VM
end
section
set_option maxHeartbeats 8000000
set_option linter.unusedVariables false
set_option linter.unusedSimpArgs false

/- The document's check sum, and its bytes. -/
namespace Go.Proofs.Ytldhfdagmaklaaa.VM
open Go Go.Proofs AM B
set_option maxRecDepth 100000
theorem rBit_lt {r b : Nat} (h : r < 4294967296) : rBit r b < 4294967296 := by
  unfold rBit
  split
  · exact Nat.xor_lt_two_pow (n := 32) (by omega) (by decide)
  · omega
theorem rBits_lt {r c : Nat} (h : r < 4294967296) : ∀ k, rBits r c k < 4294967296
  | 0 => h
  | k + 1 => rBit_lt (rBits_lt h k)
theorem v_rSum {kb : Bool} {l : List Int} (hl : l.length < 2 ^ 40) (hb : ∀ x ∈ l, 0 ≤ x ∧ x ≤ 255) : A 88 [BS kb l] (u4 (crcS l)) := by
  intro H
  refine v_enter hC [] (fun _ _ => kn_none rfl) Try.func88 rfl ok88 (Nat.le_of_ble_eq_true rfl) fun hcl hbl => ?_
  simp
  refine v_loopX hC (fun (k : Nat) e T => T = H ∧ e 0 = BS kb l ∧ e 3 = u4 (crF 4294967295 (l.take k)) ∧ e 4 = i6 k ∧ k ≤ l.length) (fun k => l.length - k) 0 (G.refl ?_) ?_
  · simp [crF]
  · rintro k e T ⟨rfl, h0, h3, h4, hk⟩
    simp [h0, h4]
    refine CondV.dec (fun hlt => ?_) (fun hge => ?_)
    · have hlt : k < l.length := by omega
      obtain ⟨c, hc⟩ : ∃ c, l[k] = c := ⟨_, rfl⟩
      have hget : l[k]? = some c := by rw [List.getElem?_eq_getElem hlt, hc]
      have hcb := hb c (hc ▸ List.getElem_mem hlt)
      have htk : crF 4294967295 (l.take (k + 1)) = crB (crF 4294967295 (l.take k)) c := by rw [List.take_succ_eq_append_getElem hlt, hc, crF_snoc]
      have hql := crF_lt (l := l.take k) (r := 4294967295) (by omega) (fun x hx => hb x (List.mem_of_mem_take hx))
      generalize crF 4294967295 (l.take k) = q at *
      simp [h0, h3, h4]
      refine v_loopX hC (fun (j : Nat) e U => U = T ∧ e 0 = BS kb l ∧ e 3 = u4 (rBits q c.toNat j) ∧ e 4 = i6 k ∧ e 5 = i6 j ∧ j ≤ 8) (fun j => 8 - j) 0 (G.refl ?_) ?_
      · simp [h0, h3, h4, rBits]
      · rintro j e U ⟨rfl, h0, h3, h4, h5, hj⟩
        simp [h5]
        refine CondV.dec (fun hlt2 => ?_) (fun hge2 => ?_)
        · have hlt2 : j < 8 := by omega
          have hrl := rBits_lt (c := c.toNat) hql j
          have hst : rBits q c.toNat (j + 1) = rBit (rBits q c.toNat j) (c.toNat / 2 ^ j % 2) := rfl
          obtain ⟨x, hx⟩ : ∃ x, c.toNat / 2 ^ j = x := ⟨_, rfl⟩
          have hxl : x < 256 := by rw [← hx]; exact Nat.lt_of_le_of_lt (Nat.div_le_self ..) (by omega)
          have hsh : c.fdiv (2 ^ min j IntKind.u8.bits) = (x : Int) := by
            rw [show min j IntKind.u8.bits = j from Nat.min_eq_left (by show j ≤ 8; omega), ← hx, ← u32_sh]
            congr 1; omega
          rw [hx] at hst
          have hw := wrap32 (n := x) (by omega)
          generalize rBits q c.toNat j = r at *
          have ht1 : ((x : Int)).tmod 2 = ((x % 2 : Nat) : Int) := by rw [Int.tmod_eq_emod_of_nonneg (by omega)]; omega
          have ht2 : ((r : Int)).tmod 2 = ((r % 2 : Nat) : Int) := by rw [Int.tmod_eq_emod_of_nonneg (by omega)]; omega
          have hd : IntKind.u32.wrap ((r : Int) / 2) = ((r / 2 : Nat) : Int) := by simp [IntKind.wrap, IntKind.bits, IntKind.signed]; omega
          simp [h0, h3, h4, h5, hget, hsh, hw, ht1, ht2, hd, show ¬ (j : Int) < 0 by omega]
          have hp : bits BinOp.xor IntKind.u32 ((r : Int) / 2) 2197175160 = ((r / 2 ^^^ 2197175160 : Nat) : Int) := by rw [show ((r : Int) / 2) = ((r / 2 : Nat) : Int) by omega]; exact u32_pol (by omega)
          refine CondV.on (fun h => ?_) (fun h => ?_)
          · have h : r % 2 ≠ x % 2 := by intro e; simp at h; omega
            unfold rBit at hst
            rw [if_pos h] at hst
            simp [h0, h4, h5, hp, w64 (n := (j : Int) + 1) (by omega)]
            refine GH.refl ⟨j + 1, ⟨rfl, ?_, ?_, ?_, ?_, hlt2⟩, by omega⟩ <;> simp [h0, h4, hst]
          · have h : ¬ r % 2 ≠ x % 2 := by intro e; simp at h; omega
            unfold rBit at hst
            rw [if_neg h] at hst
            simp [h0, h4, h5, w64 (n := (j : Int) + 1) (by omega)]
            refine GH.refl ⟨j + 1, ⟨rfl, ?_, ?_, ?_, ?_, hlt2⟩, by omega⟩ <;> simp [h0, h4, hst]
        · have hj8 : j = 8 := by omega
          subst hj8
          rw [rByte_eq hcb, ← htk] at h3
          simp [h4, w64 (n := (k : Int) + 1) (by omega)]
          refine GH.refl ⟨k + 1, ⟨rfl, ?_, ?_, ?_, hlt⟩, by omega⟩ <;> simp [h0, h3]
    · have hkl : l.take k = l := List.take_of_length_le (by omega)
      rw [hkl] at h3
      have hql := crF_lt (l := l) (r := 4294967295) (by omega) hb
      have hx := u32_xor hql (b := 4294967295) (by omega)
      rw [Nat.xor_comm, xor_ones hql] at hx
      simp at hx
      simp [h3, hx, Try.results88]
      first | (refine GV.ans hcl ?_; simp [crcS]; done) | (refine GV.ans0 ?_; simp [crcS]; done)
theorem v_rSumO {H : Hp} {g w : Nat} {rw t : Bool} {l : List Int} (hg : H[g]? = some (.vec w (l.map bc) 1 rw t)) (hl : l.length < 2 ^ 40) (hb : ∀ x ∈ l, 0 ≤ x ∧ x ≤ 255) : VC Try.prog prims 88 [.own g w] H fun u T => u = u4 (crcS l) ∧ T = H := by
  refine v_enter hC [] (fun _ _ => kn_none rfl) Try.func88 rfl ok88 (Nat.le_of_ble_eq_true rfl) fun hcl hbl => ?_
  simp
  refine v_loopX hC (fun (k : Nat) e T => T = H ∧ e 0 = .own g w ∧ e 3 = u4 (crF 4294967295 (l.take k)) ∧ e 4 = i6 k ∧ k ≤ l.length) (fun k => l.length - k) 0 (G.refl ?_) ?_
  · simp [crF]
  · rintro k e T ⟨rfl, h0, h3, h4, hk⟩
    simp [h0, h4, hg]
    refine CondV.dec (fun hlt => ?_) (fun hge => ?_)
    · have hlt : k < l.length := by omega
      obtain ⟨c, hc⟩ : ∃ c, l[k] = c := ⟨_, rfl⟩
      have hget : l[k]? = some c := by rw [List.getElem?_eq_getElem hlt, hc]
      have hcb := hb c (hc ▸ List.getElem_mem hlt)
      have htk : crF 4294967295 (l.take (k + 1)) = crB (crF 4294967295 (l.take k)) c := by rw [List.take_succ_eq_append_getElem hlt, hc, crF_snoc]
      have hql := crF_lt (l := l.take k) (r := 4294967295) (by omega) (fun x hx => hb x (List.mem_of_mem_take hx))
      generalize crF 4294967295 (l.take k) = q at *
      simp [h0, h3, h4, hg]
      refine v_loopX hC (fun (j : Nat) e U => U = T ∧ e 0 = .own g w ∧ e 3 = u4 (rBits q c.toNat j) ∧ e 4 = i6 k ∧ e 5 = i6 j ∧ j ≤ 8) (fun j => 8 - j) 0 (G.refl ?_) ?_
      · simp [h0, h3, h4, rBits]
      · rintro j e U ⟨rfl, h0, h3, h4, h5, hj⟩
        simp [h5]
        refine CondV.dec (fun hlt2 => ?_) (fun hge2 => ?_)
        · have hlt2 : j < 8 := by omega
          have hrl := rBits_lt (c := c.toNat) hql j
          have hst : rBits q c.toNat (j + 1) = rBit (rBits q c.toNat j) (c.toNat / 2 ^ j % 2) := rfl
          obtain ⟨x, hx⟩ : ∃ x, c.toNat / 2 ^ j = x := ⟨_, rfl⟩
          have hxl : x < 256 := by rw [← hx]; exact Nat.lt_of_le_of_lt (Nat.div_le_self ..) (by omega)
          have hsh : c.fdiv (2 ^ min j IntKind.u8.bits) = (x : Int) := by
            rw [show min j IntKind.u8.bits = j from Nat.min_eq_left (by show j ≤ 8; omega), ← hx, ← u32_sh]
            congr 1; omega
          rw [hx] at hst
          have hw := wrap32 (n := x) (by omega)
          generalize rBits q c.toNat j = r at *
          have ht1 : ((x : Int)).tmod 2 = ((x % 2 : Nat) : Int) := by rw [Int.tmod_eq_emod_of_nonneg (by omega)]; omega
          have ht2 : ((r : Int)).tmod 2 = ((r % 2 : Nat) : Int) := by rw [Int.tmod_eq_emod_of_nonneg (by omega)]; omega
          have hd : IntKind.u32.wrap ((r : Int) / 2) = ((r / 2 : Nat) : Int) := by simp [IntKind.wrap, IntKind.bits, IntKind.signed]; omega
          simp [h0, h3, h4, h5, hget, hg, hsh, hw, ht1, ht2, hd, show ¬ (j : Int) < 0 by omega]
          have hp : bits BinOp.xor IntKind.u32 ((r : Int) / 2) 2197175160 = ((r / 2 ^^^ 2197175160 : Nat) : Int) := by rw [show ((r : Int) / 2) = ((r / 2 : Nat) : Int) by omega]; exact u32_pol (by omega)
          refine ⟨hlt, ?_⟩
          refine CondV.on (fun h => ?_) (fun h => ?_)
          · have h : r % 2 ≠ x % 2 := by intro e; simp at h; omega
            unfold rBit at hst
            rw [if_pos h] at hst
            simp [h0, h4, h5, hp, w64 (n := (j : Int) + 1) (by omega)]
            refine GH.refl ⟨j + 1, ⟨rfl, ?_, ?_, ?_, ?_, hlt2⟩, by omega⟩ <;> simp [h0, h4, hst]
          · have h : ¬ r % 2 ≠ x % 2 := by intro e; simp at h; omega
            unfold rBit at hst
            rw [if_neg h] at hst
            simp [h0, h4, h5, w64 (n := (j : Int) + 1) (by omega)]
            refine GH.refl ⟨j + 1, ⟨rfl, ?_, ?_, ?_, ?_, hlt2⟩, by omega⟩ <;> simp [h0, h4, hst]
        · have hj8 : j = 8 := by omega
          subst hj8
          rw [rByte_eq hcb, ← htk] at h3
          simp [h4, w64 (n := (k : Int) + 1) (by omega)]
          refine GH.refl ⟨k + 1, ⟨rfl, ?_, ?_, ?_, hlt⟩, by omega⟩ <;> simp [h0, h3]
    · have hkl : l.take k = l := List.take_of_length_le (by omega)
      rw [hkl] at h3
      have hql := crF_lt (l := l) (r := 4294967295) (by omega) hb
      have hx := u32_xor hql (b := 4294967295) (by omega)
      rw [Nat.xor_comm, xor_ones hql] at hx
      simp at hx
      simp [h3, hx, Try.results88]
      exact GV.refl ⟨by simp [crcS], rfl⟩
theorem v_rLow {n : Nat} (hn : n < 4294967296) : A 87 [u4 n] (BS true (low4 n)) := by
  intro H
  refine v_enter hC [] (fun _ _ => kn_none rfl) Try.func87 rfl ok87 (Nat.le_of_ble_eq_true rfl) fun hcl hbl => ?_
  have hw : ∀ m : Int, IntKind.u8.wrap m = m % 256 := fun m => by simp [IntKind.wrap, IntKind.bits, IntKind.signed]
  have ht : ∀ m : Nat, ((m : Int)).tmod 256 = ((m % 256 : Nat) : Int) := fun m => by rw [Int.tmod_eq_emod_of_nonneg (by omega)]; omega
  have h1 : IntKind.u32.wrap ((n : Int) / 256) = ((n / 256 : Nat) : Int) := by simp [IntKind.wrap, IntKind.bits, IntKind.signed]; omega
  have h2 : IntKind.u32.wrap ((n : Int) / 65536) = ((n / 65536 : Nat) : Int) := by simp [IntKind.wrap, IntKind.bits, IntKind.signed]; omega
  have h3 : IntKind.u32.wrap ((n : Int) / 16777216) = ((n / 16777216 : Nat) : Int) := by simp [IntKind.wrap, IntKind.bits, IntKind.signed]; omega
  have ht1 : ((n : Int) / 256).tmod 256 = (n : Int) / 256 % 256 := Int.tmod_eq_emod_of_nonneg (by omega)
  have ht2 : ((n : Int) / 65536).tmod 256 = (n : Int) / 65536 % 256 := Int.tmod_eq_emod_of_nonneg (by omega)
  have hv : low4 n = [((n : Int) % 256) % 256, ((n / 256 % 256 : Nat) : Int) % 256, ((n / 65536 % 256 : Nat) : Int) % 256, ((n / 16777216 : Nat) : Int) % 256] := by
    simp [low4]
  simp only [Int.natCast_ediv] at h1 h2 h3 hv
  simp [h1, h2, h3, ht, ht1, ht2, hw, Try.results87]
  first | (refine GV.ans hcl ?_; simp [low4]; done) | (refine GV.ans0 ?_; simp [low4]; done)
end Go.Proofs.Ytldhfdagmaklaaa.VM
end
