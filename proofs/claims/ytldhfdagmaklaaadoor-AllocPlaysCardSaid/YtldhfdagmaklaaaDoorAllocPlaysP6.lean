/- What the proof of AllocPlays rests on, part 6 of 7. -/
import Derived.Test.YtldhfdagmaklaaaDoorAllocPlaysP5
import Derived.Test.YtldhfdagmaklaaaDoorAllocPlaysS
import Derived.BigQuiet
import Derived.Carry
import Derived.ChangeSame
import Derived.Deep.AppendLies
import Derived.Deep.DeepFit
import Derived.Deep.Draws
import Derived.Deep.LoopGhost
import Derived.Deep.QuietTactic
import Derived.Deep.RegionHeld3
import Derived.Deep.Slices
import Derived.KernelRfl
import Derived.LaidMore
import Derived.Lib.Hide
import Derived.Lib.LaidTab
import Derived.MakeChecks
import Derived.Maps.AppendAt
import Derived.OpenShut
import Derived.ProofKit
import Derived.RowKit3
import Derived.Shelf.Abstract
import Derived.Test.YtldhfdagmaklaaaDoorRows
import Derived.WalkKit
import Derived.WalkSpells
section
set_option maxHeartbeats 8000000
set_option linter.unusedVariables false
set_option linter.unusedSimpArgs false

/- Words of this seat: a slice that reads as a list of cells; what stays readable when memory grows. No program is named here. -/
namespace Go.Proofs.YtldhfdagmaklaaaDoor.B
open Go.RowKit

/-- A fact that the walk's simp does not look into. -/
structure Keep (p : Prop) : Prop where
  out : p

/-- The slice v has n elements; its cells are xs (as many as the element's size a piece). -/
def Row (w : World) (v : Value) (n : Nat) (xs : List Value) : Prop :=
  ∃ A c, v = .slice A n c ∧ n ≤ c ∧ c ≤ maxLen ∧ (0 < n → ∃ g o, A = some ⟨g, o, none⟩ ∧ ∀ j u, xs[j]? = some u → w.cell? ⟨g, o + j, none⟩ = some u)

def ints (l : List Int) : List Value := l.map (Value.int .i64)
def u8s (l : List Int) : List Value := l.map (Value.int .u8)
@[simp] theorem ints_length (l : List Int) : (ints l).length = l.length := by simp [ints]
@[simp] theorem u8s_length (l : List Int) : (u8s l).length = l.length := by simp [u8s]
/-- Element j of a list (closed to simp). -/
def el (l : List Int) (j : Nat) : Int := l.getD j 0
theorem el_eq (l : List Int) (j : Nat) (h : j < l.length) : el l j = l[j] := by simp [el, h]
theorem ints_get (l : List Int) (j : Nat) (h : j < l.length) : (ints l)[j]? = some (.int .i64 (el l j)) := by simp [ints, el, h]
theorem u8s_get (l : List Int) (j : Nat) (h : j < l.length) : (u8s l)[j]? = some (.int .u8 (el l j)) := by simp [u8s, el, h]
theorem ints_append (a b : List Int) : ints (a ++ b) = ints a ++ ints b := by simp [ints]
theorem u8s_append (a b : List Int) : u8s (a ++ b) = u8s a ++ u8s b := by simp [u8s]

theorem Row.below {w w' : World} {v : Value} {n : Nat} {xs : List Value} (h : Row w v n xs) (hb : Below w.heap.size w w') : Row w' v n xs := by
  obtain ⟨A, c, rfl, h1, h2, h3⟩ := h
  refine ⟨A, c, rfl, h1, h2, fun hn => ?_⟩
  obtain ⟨g, o, e, hc⟩ := h3 hn
  refine ⟨g, o, e, fun j u hu => ?_⟩
  have hc := hc j u hu
  rw [hb.cell (World.block_lt_of_cell? w _ hc)]
  exact hc
theorem Row.of_own {w : World} {base n : Nat} {e : TypeId} {size : Nat} {v : Value} {xs : List Value} (h : w.ownsRow base e size v n xs) : Row w v n xs := by
  rcases h.2 with ⟨rfl, rfl⟩ | ⟨g, cap, cur, rfl, hb, hh, h1, h2, h3, h4⟩
  · exact ⟨none, 0, rfl, Nat.le_refl _, Nat.zero_le _, fun h => absurd h (Nat.lt_irrefl 0)⟩
  · refine ⟨_, cap, rfl, h1, h2, fun _ => ⟨g, 0, rfl, fun j u hu => ?_⟩⟩
    rw [cell_of_row w g (0 + j) cur e (0, 0) hh, Nat.zero_add]
    rw [← h4, List.getElem?_take] at hu
    split at hu
    · simpa using hu
    · cases hu
/-- A slice that reads has no element, or lies somewhere. -/
theorem Row.open_ {w : World} {v : Value} {n : Nat} {xs : List Value} (h : Row w v n xs) :
    (n = 0 ∧ ∃ A c, v = .slice A 0 c ∧ c ≤ maxLen) ∨ ∃ g o c, v = .slice (some ⟨g, o, none⟩) n c ∧ n ≤ c ∧ c ≤ maxLen ∧ ∀ j u, xs[j]? = some u → w.cell? ⟨g, o + j, none⟩ = some u := by
  obtain ⟨A, c, rfl, h1, h2, h3⟩ := h
  rcases Nat.eq_zero_or_pos n with h0 | h0
  · subst h0; exact .inl ⟨rfl, A, c, rfl, h2⟩
  · obtain ⟨g, o, rfl, hc⟩ := h3 h0
    exact .inr ⟨g, o, c, rfl, h1, h2, hc⟩
theorem bcell {W w1 : World} (hb : Below W.heap.size W w1) :
    (∀ b o, b < W.heap.size → w1.cell? ⟨b, o, none⟩ = W.cell? ⟨b, o, none⟩) ∧ (∀ b o, b < W.heap.size → w1.frozen? ⟨b, o, none⟩ = W.frozen? ⟨b, o, none⟩) :=
  ⟨fun b o h => hb.cell (p := ⟨b, o, none⟩) h, fun b o h => hb.frozen (p := ⟨b, o, none⟩) h⟩
theorem grown_set (w : World) (a : Addr) (u : Value) : w.grownBy (w.setCell a u) (some a.block) :=
  ⟨rfl, rfl, rfl, by simp [World.setCell], fun k _ hk => Below.heap_setCell _ _ _ _ (fun e => hk (by rw [e]))⟩
theorem own_set {w : World} {base n : Nat} {e : TypeId} {size : Nat} {v : Value} {xs : List Value} (h : w.ownsRow base e size v n xs) (a : Addr) (u : Value) (hne : v.ownBlock ≠ some a.block) : (w.setCell a u).ownsRow base e size v n xs :=
  h.kept (grown_set w a u) (.inr hne)
theorem heap_set_same {w : World} {b o : Nat} {cs : Array Value} {t : TypeId} {fr : Nat × Nat} (h : w.heap[b]? = some (.cells cs t fr)) (u : Value) :
    (w.setCell ⟨b, o, none⟩ u).heap[b]? = some (.cells (cs.setIfInBounds o u) t fr) := by
  simp [World.setCell, Array.getElem?_modify, h]
theorem heap_lt {w : World} {b : Nat} {o : Obj} (h : w.heap[b]? = some o) : b < w.heap.size := (Array.getElem?_eq_some_iff.1 h).1
theorem own_lt {w : World} {base n : Nat} {e : TypeId} {size : Nat} {v : Value} {xs : List Value} (h : w.ownsRow base e size v n xs) {k : Nat} (hk : v.ownBlock = some k) : k < w.heap.size := (h.lt k hk).2
theorem own_not {w : World} {base n : Nat} {e : TypeId} {size : Nat} {v : Value} {xs : List Value} (h : w.ownsRow base e size v n xs) {k : Nat} (hk : w.heap.size ≤ k) : v.ownBlock ≠ some k := fun e => by
  have := own_lt h e; omega
theorem new_blk {W : World} {o : Obj} {s : Nat} (h : W.heap.size = s) : (W.alloc o).heap[s]? = some o := by subst h; exact heap_alloc_new _ _
theorem retI {k : IntKind} {a b : Int} (h : a = b) : Ending.returned (.int k a) = .returned (.int k b) := by rw [h]
theorem retT {k : IntKind} {a b : Int} {x : Value} (h : a = b) : Ending.returned (.tuple #[.int k a, x]) = .returned (.tuple #[.int k b, x]) := by rw [h]
theorem retB {a b : Bool} (h : a = b) : Ending.returned (.bool a) = .returned (.bool b) := by rw [h]
theorem bdraw {B : Nat} {w W : World} (h : Below B w W) (n : Nat) : Below B w (W.drewN n) := ⟨h.os, h.tape, h.output, h.size, h.block⟩
theorem balloc {w W : World} (h : Below w.heap.size w W) (o : Obj) : Below w.heap.size w (W.alloc o) := h.alloc h.size o
theorem kc {w w1 : World} (h : Below w.heap.size w w1) {a : Addr} {v : Value} (hc : w.cell? a = some v) : w1.cell? a = some v := (h.cell (World.block_lt_of_cell? w a hc)).trans hc
theorem balloc' {w W : World} {B : Nat} (h : Below B w W) (o : Obj) (hB : B ≤ W.heap.size := by omega) : Below B w (W.alloc o) := h.alloc hB o
theorem own_nil' (W : World) (base : Nat) (e : TypeId) (size : Nat) : W.ownsRow base e size (.slice none 0 0) 0 [] := ⟨by simp, .inl ⟨rfl, rfl⟩⟩
theorem bnext {B : Nat} {w w1 w2 : World} (h : Below B w w1) (hB : B ≤ w1.heap.size) (k : Below w1.heap.size w1 w2) : Below B w w2 :=
  h.trans (k.mono hB)
/-- append of one element that was just laid into a block of its own. -/
theorem app1 {P : Program} {ops : Array Oper} {rest : List Oper} {o : Oper} {a : Act} {Q : Exit → Act → World → Prop} {W : World} (hgd : o.guard = none) (s x : Operand) (t : TypeId)
    (ho : o.op = .call { callee := .builtin .append, args := #[s, x], argTypes := #[t, t] })
    (base : Nat) (e te : TypeId) (i : TypeInfo) (z : Value) (size bytes : Nat) (ht : P.underlying t = some (.slice e)) (hi : P.info? e = some i) (hz : i.zero = some z)
    (hsize : i.size = size) (hby : i.bytes = bytes) (hzs : z.cells.size = size) (hsz : 0 < size)
    (v : Value) (n : Nat) (xs : List Value) (hs : a.eval s = v) (hown : W.ownsRow base e size v n xs)
    (cs : List Value) (hx : a.eval x = .slice (some ⟨W.heap.size, 0, none⟩) 1 1) (hl : cs.length = size) (h1 : ∀ u ∈ cs, u.oneCell' = true)
    (h63 : n + 1 ≤ 1000000000) (hb : bytes ≤ 100) (hbase : base ≤ W.heap.size)
    (h : ∀ g cap w', w'.ownsRow base e size (.slice (some ⟨g, 0, none⟩) (n + 1) cap) (n + 1) (xs ++ cs) → (W.alloc (.cells cs.toArray te)).grownBy w' v.ownBlock → (v.ownBlock = some g ∨ g = W.heap.size + 1) → wpList P ops Q rest (a.put o.dst (.slice (some ⟨g, 0, none⟩) (n + 1) cap)) w') :
    wpList P ops Q (o :: rest) a (W.alloc (.cells cs.toArray te)) := by
  refine wpList_append_lies _ hgd s x t ho base e i z size bytes ht hi hz hsize hby hzs hsz v n xs hs (hown.alloc _) ⟨W.heap.size, 0, none⟩ 1 1 cs hx (by simp [hl]) (fun j u hj => ?_) h1 (by omega) (by simp only [maxLen]; omega) ?_ (by simp; omega) (W.heap.size + 1) (by simp) ?_
  · rw [show (⟨W.heap.size, 0, none⟩ : Addr).add j = ⟨W.heap.size, j, none⟩ by unfold Addr.add; split <;> simp_all]
    rw [World.cell?_alloc_new]; simpa using hj
  · calc (n + 1) * bytes ≤ 1000000000 * 100 := Nat.mul_le_mul h63 hb
      _ ≤ _ := by omega
  · intro g cap w' g1 g2 g3 _
    exact h g cap w' g1 g2 g3
/-- append of the m elements of another slice. -/
theorem appN {P : Program} {ops : Array Oper} {rest : List Oper} {o : Oper} {a : Act} {Q : Exit → Act → World → Prop} {W : World} (hgd : o.guard = none) (s x : Operand) (t : TypeId)
    (ho : o.op = .call { callee := .builtin .append, args := #[s, x], argTypes := #[t, t] })
    (base : Nat) (e : TypeId) (i : TypeInfo) (z : Value) (size bytes : Nat) (ht : P.underlying t = some (.slice e)) (hi : P.info? e = some i) (hz : i.zero = some z)
    (hsize : i.size = size) (hby : i.bytes = bytes) (hzs : z.cells.size = size) (hsz : 0 < size)
    (v : Value) (n : Nat) (xs : List Value) (hs : a.eval s = v) (hown : W.ownsRow base e size v n xs)
    (xv : Value) (m : Nat) (us : List Value) (hx : a.eval x = xv) (hrow : Row W xv m us) (hl : us.length = m * size) (h1 : ∀ u ∈ us, u.oneCell' = true)
    (hm : 0 < m) (h63 : n + m ≤ 1000000000) (hb : bytes ≤ 100) (hbase : base ≤ W.heap.size)
    (h : ∀ g cap w', w'.ownsRow base e size (.slice (some ⟨g, 0, none⟩) (n + m) cap) (n + m) (xs ++ us) → W.grownBy w' v.ownBlock → (v.ownBlock = some g ∨ g = W.heap.size) → wpList P ops Q rest (a.put o.dst (.slice (some ⟨g, 0, none⟩) (n + m) cap)) w') :
    wpList P ops Q (o :: rest) a W := by
  rcases hrow.open_ with ⟨h0, _⟩ | ⟨g0, o0, c0, rfl, _, _, hc⟩
  · omega
  refine wpList_append_lies _ hgd s x t ho base e i z size bytes ht hi hz hsize hby hzs hsz v n xs hs hown ⟨g0, o0, none⟩ m c0 us hx hl (fun j u hj => ?_) h1 hm (by simp only [maxLen]; omega) ?_ hbase W.heap.size rfl ?_
  · rw [show (⟨g0, o0, none⟩ : Addr).add j = ⟨g0, o0 + j, none⟩ by unfold Addr.add; split <;> simp_all]
    exact hc j u hj
  · calc (n + m) * bytes ≤ 1000000000 * 100 := Nat.mul_le_mul h63 hb
      _ ≤ _ := by omega
  · intro g cap w' g1 g2 g3 _
    exact h g cap w' g1 g2 g3
theorem u8s_one {l : List Int} : ∀ u ∈ u8s l, u.oneCell' = true := by
  intro u hu
  simp [u8s] at hu
  obtain ⟨x, _, rfl⟩ := hu
  rfl
/-- A block laid just now, as a row. -/
theorem own_blk {w : World} {b : Nat} {cs : Array Value} {e : TypeId} {size n : Nat} (base : Nat) (h : w.heap[b]? = some (.cells cs e (0, 0))) (hb : base ≤ b) (hn : cs.size = n * size) (hm : n ≤ maxLen) :
    w.ownsRow base e size (.slice (some ⟨b, 0, none⟩) n n) n cs.toList :=
  ⟨by simpa using hn, .inr ⟨b, n, cs, rfl, hb, h, Nat.le_refl _, hm, hn, by rw [List.take_of_length_le (by simp [hn])]⟩⟩
/-- The same at a step of a region that draws its order. -/
theorem step1 {P : Program} {ops : Array Oper} {o : Oper} {a : Act} {K : Act → World → Prop} {Q : Exit → Act → World → Prop} {E : Prop} {W : World} (hgd : o.guard = none) (s x : Operand) (t : TypeId)
    (ho : o.op = .call { callee := .builtin .append, args := #[s, x], argTypes := #[t, t] })
    (base : Nat) (e te : TypeId) (i : TypeInfo) (z : Value) (size bytes : Nat) (ht : P.underlying t = some (.slice e)) (hi : P.info? e = some i) (hz : i.zero = some z)
    (hsize : i.size = size) (hby : i.bytes = bytes) (hzs : z.cells.size = size) (hsz : 0 < size)
    (v : Value) (n : Nat) (xs : List Value) (hs : a.eval s = v) (hown : W.ownsRow base e size v n xs)
    (cs : List Value) (hx : a.eval x = .slice (some ⟨W.heap.size, 0, none⟩) 1 1) (hl : cs.length = size) (h1 : ∀ u ∈ cs, u.oneCell' = true)
    (h63 : n + 1 ≤ 1000000000) (hb : bytes ≤ 100) (hbase : base ≤ W.heap.size)
    (h : ∀ g cap w', w'.ownsRow base e size (.slice (some ⟨g, 0, none⟩) (n + 1) cap) (n + 1) (xs ++ cs) → (W.alloc (.cells cs.toArray te)).grownBy w' v.ownBlock → (v.ownBlock = some g ∨ g = W.heap.size + 1) → K (a.put o.dst (.slice (some ⟨g, 0, none⟩) (n + 1) cap)) w') :
    if Region.wanted o (yielded ops a.tmps) = true then Oper.wp P o a (W.alloc (.cells cs.toArray te)).drew K Q else E := by
  refine step_append_lies _ hgd s x t ho base e i z size bytes ht hi hz hsize hby hzs hsz v n xs hs ((hown.alloc _).kept (w' := (W.alloc (.cells cs.toArray te)).drew) (row := none) ⟨rfl, rfl, rfl, Nat.le_refl _, fun _ _ _ => rfl⟩ (by cases v.ownBlock <;> simp)) ⟨W.heap.size, 0, none⟩ 1 1 cs hx (by simp [hl]) (fun j u hj => ?_) h1 (by omega) (by simp only [maxLen]; omega) ?_ (by simp; omega) (W.heap.size + 1) (by simp) ?_
  · rw [show (⟨W.heap.size, 0, none⟩ : Addr).add j = ⟨W.heap.size, j, none⟩ by unfold Addr.add; split <;> simp_all]
    rw [World.cell?_drew, World.cell?_alloc_new]; simpa using hj
  · calc (n + 1) * bytes ≤ 1000000000 * 100 := Nat.mul_le_mul h63 hb
      _ ≤ _ := by omega
  · intro g cap w' g1 g2 g3 _
    exact h g cap w' g1 ⟨g2.os, g2.tape, g2.output, g2.size, g2.block⟩ g3
/-- The same, behind a call that made memory. -/
theorem step1n {P : Program} {ops : Array Oper} {o : Oper} {a : Act} {K : Act → World → Prop} {Q : Exit → Act → World → Prop} {E : Prop} {W : World} (hgd : o.guard = none) (s x : Operand) (t : TypeId)
    (ho : o.op = .call { callee := .builtin .append, args := #[s, x], argTypes := #[t, t] })
    (base : Nat) (e te : TypeId) (i : TypeInfo) (z : Value) (size bytes : Nat) (ht : P.underlying t = some (.slice e)) (hi : P.info? e = some i) (hz : i.zero = some z)
    (hsize : i.size = size) (hby : i.bytes = bytes) (hzs : z.cells.size = size) (hsz : 0 < size)
    (v : Value) (n : Nat) (xs : List Value) (hs : a.eval s = v) (hown : W.ownsRow base e size v n xs)
    (cs : List Value) (hx : a.eval x = .slice (some ⟨W.heap.size, 0, none⟩) 1 1) (hl : cs.length = size) (h1 : ∀ u ∈ cs, u.oneCell' = true)
    (h63 : n + 1 ≤ 1000000000) (hb : bytes ≤ 100) (hbase : base ≤ W.heap.size)
    (h : ∀ g cap w', w'.ownsRow base e size (.slice (some ⟨g, 0, none⟩) (n + 1) cap) (n + 1) (xs ++ cs) → (W.alloc (.cells cs.toArray te)).grownBy w' v.ownBlock → (v.ownBlock = some g ∨ g = W.heap.size + 1) → K (a.put o.dst (.slice (some ⟨g, 0, none⟩) (n + 1) cap)) w') :
    if Region.wanted o (yielded ops a.tmps) = true then Oper.wp P o a (W.alloc (.cells cs.toArray te)) K Q else E := by
  refine step_append_lies _ hgd s x t ho base e i z size bytes ht hi hz hsize hby hzs hsz v n xs hs (hown.alloc _) ⟨W.heap.size, 0, none⟩ 1 1 cs hx (by simp [hl]) (fun j u hj => ?_) h1 (by omega) (by simp only [maxLen]; omega) ?_ (by simp; omega) (W.heap.size + 1) (by simp) ?_
  · rw [show (⟨W.heap.size, 0, none⟩ : Addr).add j = ⟨W.heap.size, j, none⟩ by unfold Addr.add; split <;> simp_all]
    rw [World.cell?_alloc_new]; simpa using hj
  · calc (n + 1) * bytes ≤ 1000000000 * 100 := Nat.mul_le_mul h63 hb
      _ ≤ _ := by omega
  · intro g cap w' g1 g2 g3 _
    exact h g cap w' g1 g2 g3
theorem ne_swap {a b : Option Nat} (h : a = none ∨ a ≠ b) : b = none ∨ b ≠ a := by
  rcases h with e | e
  · rw [e]; cases b <;> simp
  · exact .inr (Ne.symm e)
theorem own_slice {w : World} {base n : Nat} {e : TypeId} {size : Nat} {v : Value} {xs : List Value} (h : w.ownsRow base e size v n xs) : ∃ A c, v = .slice A n c := by
  rcases h.2 with ⟨rfl, rfl⟩ | ⟨g, cap, cur, rfl, _⟩
  · exact ⟨none, 0, rfl⟩
  · exact ⟨_, cap, rfl⟩
theorem addr_add0 (A : Option Addr) (c : Nat) : (if c = 0 then A else A.map (fun x => x.add 0)) = A := by cases A <;> simp [Addr.add]
/-- s[:k], whatever s is. -/
theorem run_cut {P : Program} {t e : TypeId} {i : TypeInfo} (ht : P.underlying t = some (.slice e)) (hi : P.info? e = some i) (A : Option Addr) (n c k : Nat) (h : k ≤ c) (w : World) :
    (Instr.slice t (.slice A n c) none (some (.int .i64 (k : Int))) none).run P w = .ok (.slice A k c) w := by
  have hs : (P.elem t) = e := by simp [Program.elem, ht]
  rw [run_slice_h (P := P) (t := t) (ht := by rw [hs]; exact ht) (h0 := by omega) (h2 := by omega)]
  simp [hs, sizeOf, typeInfo, hi, Result.andThen, sliced, Int.toNat_natCast]
  cases A <;> simp [Addr.add]
theorem own_below {w w1 : World} {base : Nat} {e : TypeId} {size n : Nat} {v : Value} {xs : List Value} (h : w.ownsRow base e size v n xs) (hb : Below w.heap.size w w1) : w1.ownsRow base e size v n xs :=
  h.kept (row := none) ⟨hb.os, hb.tape, hb.output, hb.size, fun k hk _ => hb.block k hk⟩ (by cases v.ownBlock <;> simp)
theorem row_blk {w : World} {b n : Nat} {cs : Array Value} {e : TypeId} {fr : Nat × Nat} (h : w.heap[b]? = some (.cells cs e fr)) (hm : n ≤ maxLen) : Row w (.slice (some ⟨b, 0, none⟩) n n) n cs.toList :=
  ⟨_, n, rfl, Nat.le_refl _, hm, fun _ => ⟨b, 0, rfl, fun j u hu => by rw [cell_of_row w b _ cs e fr h, Nat.zero_add]; simpa using hu⟩⟩
theorem grown_trans {w w1 w2 : World} {r r1 : Option Nat} (h1 : w.grownBy w1 r) (h2 : w1.grownBy w2 r1) (hr : r1 = r ∨ ∀ k, r1 = some k → w.heap.size ≤ k) : w.grownBy w2 r := by
  refine ⟨h2.os.trans h1.os, h2.tape.trans h1.tape, h2.output.trans h1.output, Nat.le_trans h1.size h2.size, fun k hk hne => ?_⟩
  rw [h2.block k (Nat.lt_of_lt_of_le hk h1.size) ?_, h1.block k hk hne]
  intro e
  rcases hr with h | h
  · exact hne (e.trans h)
  · have := h k e.symm; omega
theorem grown_alloc {w w1 : World} {r : Option Nat} (h1 : w.grownBy w1 r) (o : Obj) : w.grownBy (w1.alloc o) r :=
  ⟨h1.os, h1.tape, h1.output, by have := h1.size; simp; omega, fun k hk hne => (heap_alloc_old _ _ (Nat.lt_of_lt_of_le hk h1.size)).trans (h1.block k hk hne)⟩
theorem grown_below {w w1 : World} (h : Below w.heap.size w w1) (r : Option Nat) : w.grownBy w1 r := ⟨h.os, h.tape, h.output, h.size, fun k hk _ => h.block k hk⟩
theorem below_grown {w w0 w1 : World} {B bb : Nat} (h : Below B w w0) (hg : w0.grownBy w1 (some bb)) (hB : B ≤ w0.heap.size) (hb : B ≤ bb) : Below B w w1 := h.grown hg hB (fun k hk => by cases hk; exact hb)
theorem gcell {w0 wr : World} {bb : Nat} (hg : w0.grownBy wr (some bb)) {a : Addr} {v : Value} (h : w0.cell? a = some v) (hne : a.block ≠ bb) : wr.cell? a = some v := hg.cell h (by simpa using hne)
theorem unfrozen {w : World} {b o : Nat} {cs : Array Value} {t : TypeId} (h : w.heap[b]? = some (.cells cs t (0, 0))) : w.frozen? ⟨b, o, none⟩ = false := by simp [World.frozen?, h]
/-- A block that is not the row that was appended to. -/
theorem blk_far {wr w1 : World} {o ob : Obj} {b : Nat} {row : Option Nat} (h : wr.heap[b]? = some ob) (hg : (wr.alloc o).grownBy w1 row) (hne : row ≠ some b) : w1.heap[b]? = some ob := by
  have hlt := heap_lt h
  rw [hg.block b (by simp; omega) (fun e => hne e.symm), heap_alloc_old _ _ hlt]; exact h
end Go.Proofs.YtldhfdagmaklaaaDoor.B
end
section
set_option maxHeartbeats 8000000
set_option linter.unusedVariables false
set_option linter.unusedSimpArgs false

/- The table of the lowest ones stands in memory: from a row's condition. -/
namespace Go.Proofs.YtldhfdagmaklaaaDoor
open Go AM Go.ChangeShapes Go.WideShapes Go.ChangeAt Go.RowKit
theorem gTab : Tryd.prog.globalNamed "math/bits.deBruijn64tab" = some 0 := by kernel_rfl
theorem gTabT : (Tryd.prog.globals[0]?).map (·.type) = some 86 := by kernel_rfl
def zs64 : List Int := [0, 1, 56, 2, 57, 49, 28, 3, 61, 58, 42, 50, 38, 29, 17, 4, 62, 47, 59, 36, 45, 43, 51, 22, 53, 39, 33, 30, 24, 18, 12, 5, 63, 55, 48, 27, 60, 41, 37, 16, 46, 35, 44, 21, 52, 32, 23, 11, 54, 26, 40, 15, 34, 20, 31, 10, 25, 14, 19, 9, 13, 8, 7, 6]
abbrev laidB : List (String × DataW Unit) := [("math/bits.deBruijn64tab", Rows.laid_math_bits_deBruijn64tab)]
theorem globs_of_laid {W : World} (h : laidMetH Tryd.prog laidB W) : Globs W.heap := by
  rw [MakeChecks.laidMetH_plain _ _ _ (by kernel_rfl)] at h
  have ht : Lib.TabIs Tryd.prog W "math/bits.deBruijn64tab" .u8 zs64 := Lib.tabIs_of_head (rest := []) gTab gTabT Tryd.underlying86 Tryd.underlying5 (by kernel_rfl) (by kernel_rfl) h
  intro p hp
  obtain rfl : p = (0, (zs64.map fun z => Value.int .u8 z)) := by
    have : gcells = [(0, (zs64.map fun z => Value.int .u8 z))] := rfl
    rw [this] at hp
    simpa using hp
  unfold Lib.TabIs World.var? at ht
  rw [gTab] at ht
  simp only [Option.bind_some] at ht
  split at ht
  · rename_i cs e fr hc
    cases ht
    exact ⟨e, fr, hc⟩
  · cases ht
/-- The door's own heap meets the condition. -/
theorem door_met (os : Os) (args : Array Value) : laidMetH Tryd.prog laidB ((World.doorLaid Tryd.prog 400 os).forCall (fun _ _ => 0) ⟨#[], args, []⟩).memory := by
  rw [MakeChecks.laidMetH_plain _ _ _ (by kernel_rfl)]
  exact laidMet_of_run' 8 (by kernel_rfl) (by kernel_rfl)
end Go.Proofs.YtldhfdagmaklaaaDoor
end
section
set_option maxHeartbeats 8000000
set_option linter.unusedVariables false
set_option linter.unusedSimpArgs false

/- How an argument's reading opens into the words of Base; the end of a row's proof where nothing old has changed. -/
namespace Go.Proofs.YtldhfdagmaklaaaDoor.B
open Go Go.RowKit Go.WideShapes Go.ChangeShapes Go.Deep

section
variable {H : Type} {enc : TypeId × Value → H} {P : Program}
/-- The cells read as data of the type t. -/
def Rd (enc : TypeId × Value → H) (P : Program) (w : World) (t : TypeId) (cs : List Value) : Prop := ∃ fuel x, DataW.trod enc P w 0 (fun _ => true) true fuel t cs = some x
theorem Rd.of {w : World} {t : TypeId} {v : Value} {d : DataW H} {ps : List MemPlace} (h : DataW.Trod enc P w 0 (fun _ => true) true t v d ps) : Rd enc P w t v.cells.toList := by
  obtain ⟨m, hm⟩ := h
  exact ⟨m, _, hm⟩
theorem Rd.int {w : World} {t : TypeId} {k : IntKind} {cs : List Value} (h : Rd enc P w t cs) (ht : P.underlying t = some (.int k)) : ∃ n, cs = [.int k n] ∧ (Lit.int k n).wf = true := by
  obtain ⟨m, x, hm⟩ := h
  obtain ⟨n, h1, _, h2⟩ := DataW.trod_int ht hm
  exact ⟨n, h1, h2⟩
theorem Rd.bool {w : World} {t : TypeId} {cs : List Value} (h : Rd enc P w t cs) (ht : P.underlying t = some .bool) : ∃ b, cs = [.bool b] := by
  obtain ⟨m, x, hm⟩ := h
  obtain ⟨n, h1, _⟩ := DataW.trod_bool ht hm
  exact ⟨n, h1⟩
theorem Rd.struct1 {w : World} {t : TypeId} {f0 : Field} {cs : List Value} (h : Rd enc P w t cs) (ht : P.underlying t = some (.struct #[f0])) : cs.length = P.cellsOf t ∧ Rd enc P w f0.type ((cs.drop f0.offset).take (P.cellsOf f0.type)) := by
  obtain ⟨m, x, hm⟩ := h
  obtain ⟨y0, n, _, hl, h0⟩ := trod_struct1 ht hm
  exact ⟨hl, ⟨n, _, h0⟩⟩
theorem Rd.struct2 {w : World} {t : TypeId} {f0 f1 : Field} {cs : List Value} (h : Rd enc P w t cs) (ht : P.underlying t = some (.struct #[f0, f1])) :
    cs.length = P.cellsOf t ∧ Rd enc P w f0.type ((cs.drop f0.offset).take (P.cellsOf f0.type)) ∧ Rd enc P w f1.type ((cs.drop f1.offset).take (P.cellsOf f1.type)) := by
  obtain ⟨m, x, hm⟩ := h
  obtain ⟨y0, y1, n, _, hl, h0, h1⟩ := trod_struct2 ht hm
  exact ⟨hl, ⟨n, _, h0⟩, ⟨n, _, h1⟩⟩
theorem mapM_some {α β : Type} (f : α → Option β) : ∀ (l : List α) (r : List β), l.mapM f = some r → r.length = l.length ∧ ∀ i (h : i < l.length), ∃ y, r[i]? = some y ∧ f l[i] = some y
  | [], r, h => by simp at h; subst h; exact ⟨rfl, fun i h => by simp at h⟩
  | a :: l, r, h => by
    rw [List.mapM_cons] at h
    cases ha : f a with
    | none => simp [ha] at h
    | some y =>
      cases hl : l.mapM f with
      | none => simp [ha, hl] at h
      | some s =>
        simp [ha, hl] at h
        subst h
        obtain ⟨h1, h2⟩ := mapM_some f l s hl
        refine ⟨by simp [h1], fun i hi => ?_⟩
        cases i with
        | zero => exact ⟨y, rfl, ha⟩
        | succ i => simpa using h2 i (by simpa using hi)
/-- Cells in a row that are read: each one is there. -/
theorem cells_some {w : World} {a : Addr} {n : Nat} {cs : List Value} (h : w.cells? 0 a n = some cs) : cs.length = n ∧ ∀ i, i < n → ∃ u, cs[i]? = some u ∧ w.cell? (a.add i) = some u := by
  unfold World.cells? at h
  rw [if_pos (Nat.zero_le _)] at h
  obtain ⟨h1, h2⟩ := mapM_some _ _ _ h
  refine ⟨by simpa using h1, fun i hi => ?_⟩
  obtain ⟨y, hy, hc⟩ := h2 i (by simpa using hi)
  exact ⟨y, hy, by simpa using hc⟩
theorem sum_const {α : Type} (k : Nat) (l : List α) : (l.map fun _ => k).sum = l.length * k := by
  induction l with
  | nil => simp
  | cons a l ih => rw [List.map_cons, List.sum_cons, ih, List.length_cons, Nat.add_mul]; omega
theorem spot_none {w : World} {a : Addr} {u : Value} (h : w.cell? a = some u) : a.spot = none := by
  unfold World.cell? at h
  split at h
  · cases hs : a.spot with
    | none => rfl
    | some s => simp [hs] at h
  · cases h
theorem add_none (g o i : Nat) : (⟨g, o, none⟩ : Addr).add i = ⟨g, o + i, none⟩ := by unfold Addr.add; split <;> simp_all
/-- A slice whose elements take k cells each: the row of all its cells, and each element's own reading. -/
theorem Rd.slice {w : World} {t e : TypeId} {cs : List Value} {k : Nat} (h : Rd enc P w t cs) (ht : P.underlying t = some (.slice e)) (hk : P.cellsOf e = k) (hk0 : 0 < k) :
    ∃ v n, ∃ es : List (List Value), cs = [v] ∧ es.length = n ∧ Row w v n es.flatten ∧ ∀ i (h : i < es.length), es[i].length = k ∧ Rd enc P w e es[i] := by
  obtain ⟨m, x, hm⟩ := h
  rcases open_slice ht hm with ⟨rfl, _⟩ | ⟨a, len, cap, mm, n, D, Pl, rfl, hb, hl, hm', hmm, rfl, hx⟩
  · exact ⟨_, 0, [], rfl, rfl, ⟨none, 0, rfl, Nat.le_refl _, Nat.zero_le _, fun h => absurd h (Nat.lt_irrefl 0)⟩, fun i h => by simp at h⟩
  · simp at hmm
    obtain rfl : mm = cap := hmm
    rw [hk] at hx
    have hx' : ∀ i, ∃ cs', i < len → w.cells? 0 (a.add (i * k)) k = some cs' ∧ DataW.trod enc P w 0 (fun _ => true) true n e cs' = some (D i, Pl i) := fun i => by
      by_cases hi : i < len
      · obtain ⟨c, hc⟩ := hx i (by omega); exact ⟨c, fun _ => hc⟩
      · exact ⟨[], fun h => absurd h hi⟩
    obtain ⟨f, hf⟩ := Classical.axiomOfChoice hx'
    have hlen : ∀ i, i < len → (f i).length = k := fun i hi => (cells_some (hf i hi).1).1
    refine ⟨_, len, (List.range len).map f, rfl, by simp, ⟨some a, mm, rfl, hl, hm', fun hn => ?_⟩, fun i hi => ?_⟩
    · have h0 := (cells_some (hf 0 hn).1).2 0 hk0
      obtain ⟨u0, _, hu0⟩ := h0
      have hs := spot_none hu0
      obtain ⟨g, o, sp⟩ := a
      have hs : sp = none := by simpa [Addr.add] using hs
      subst hs
      refine ⟨g, o, rfl, fun j u hj => ?_⟩
      have hfl : ∀ (len : Nat), (∀ i, i < len → (f i).length = k) → ∀ j u, ((List.range len).map f).flatten[j]? = some u → j / k < len ∧ (f (j / k))[j % k]? = some u := by
        intro len
        induction len with
        | zero => intro _ j u h; simp at h
        | succ len ih =>
          intro hL j u h
          have hfl : ((List.range len).map f).flatten.length = len * k := by
            rw [List.length_flatten, List.map_map, show (List.range len).map (List.length ∘ f) = (List.range len).map (fun _ => k) from List.map_congr_left fun x hx => hL x (by simp at hx; omega), sum_const, List.length_range]
          rw [List.range_succ, List.map_append, List.flatten_append, List.getElem?_append] at h
          split at h
          · obtain ⟨h1, h2⟩ := ih (fun i hi => hL i (by omega)) j u h
            exact ⟨by omega, h2⟩
          · rename_i hge
            rw [hfl] at hge h
            simp at h
            have hlt : j - len * k < k := by
              have := (List.getElem?_eq_some_iff.1 h).1
              rw [hL len (by omega)] at this
              exact this
            have e1 : j / k = len := by
              rw [Nat.div_eq_iff hk0]
              constructor
              · omega
              · have : (len + 1) * k = len * k + k := by rw [Nat.add_mul]; omega
                omega
            have e2 : j % k = j - len * k := by
              have := Nat.div_add_mod j k
              rw [e1, Nat.mul_comm] at this
              omega
            rw [e1, e2]
            exact ⟨by omega, h⟩
      obtain ⟨h1, h2⟩ := hfl len hlen j u hj
      obtain ⟨y, hy, hc⟩ := (cells_some (hf (j / k) h1).1).2 (j % k) (Nat.mod_lt _ hk0)
      rw [add_none, add_none] at hc
      rw [h2] at hy
      cases hy
      rw [← hc]
      have := Nat.div_add_mod j k
      rw [Nat.mul_comm] at this
      rw [show o + j = o + j / k * k + j % k by omega]
    · simp only [List.length_map, List.length_range] at hi
      simp only [List.getElem_map, List.getElem_range]
      exact ⟨hlen i hi, ⟨n, _, (hf i hi).2⟩⟩
/-- A slice whose elements take one cell each. -/
theorem Rd.slice1 {w : World} {t e : TypeId} {A : Option Addr} {n c : Nat} (h : Rd enc P w t [.slice A n c]) (ht : P.underlying t = some (.slice e)) (hk : P.cellsOf e = 1) :
    n ≤ c ∧ c ≤ maxLen ∧ (0 < n → ∃ g o, A = some ⟨g, o, none⟩ ∧ g < w.heap.size) ∧ ∃ f : Nat → Value, ∀ i, i < n → (∀ g o, A = some ⟨g, o, none⟩ → w.cell? ⟨g, o + i, none⟩ = some (f i)) ∧ Rd enc P w e [f i] := by
  obtain ⟨m, x, hm⟩ := h
  rcases open_slice1 ht hk hm with ⟨h0, _⟩ | ⟨a, len, cap, mm, n', V, D, Pl, h0, hb, hl, hm', hmm, rfl, hx⟩
  · simp at h0
    obtain ⟨rfl, rfl, rfl⟩ := h0
    exact ⟨Nat.le_refl _, Nat.zero_le _, fun h => absurd h (Nat.lt_irrefl 0), fun _ => undef, fun i hi => absurd hi (Nat.not_lt_zero _)⟩
  · simp at h0
    obtain ⟨rfl, rfl, rfl⟩ := h0
    simp at hmm
    refine ⟨hl, hm', fun hn => ?_, V, fun i hi => ⟨fun g o e => ?_, ⟨n', _, (hx i (by omega)).2⟩⟩⟩
    · have h0 := (hx 0 (by omega)).1
      have hs := spot_none h0
      obtain ⟨g, o, sp⟩ := a
      have hs : sp = none := by simpa [Addr.add] using hs
      subst hs
      exact ⟨g, o, rfl, World.block_lt_of_cell? w _ h0⟩
    · cases e
      have h0 := (hx i (by omega)).1
      rw [add_none] at h0
      exact h0
theorem post_of_below {f : Func} {s : ChangeSpec} {apart fresh handsOn again : Bool} {W W' : World} {args : Array Value} {v : Value} {ds gs : List (DataW H)} {before pa pv : List MemPlace}
    (hW : DataW.Whole enc P f.params.toList s.vars apart W args.toList ds gs before)
    (hres : ∀ (b : Nat) (sp : Nat → Bool) (hd : Bool), DataW.TrodAll enc P W' b sp hd f.resultTypes.toList (v.resultList f.resultTypes.size) (s.fn H (ds ++ gs)).results [])
    (hargs : ∀ sp : Nat → Bool, (∀ p ∈ before, sp p.block = true) → DataW.TrodAll enc P W' 0 sp true f.params.toList args.toList (s.fn H (ds ++ gs)).args pa)
    (hvars : ∀ sp : Nat → Bool, (∀ p ∈ before, sp p.block = true) → DataW.TrodVars enc P W' sp s.vars (s.fn H (ds ++ gs)).vars pv)
    (hps : before = pa ++ pv) (hb : Below W.heap.size W W')
    (hok : ∀ (j : Nat) (t : TypeId) (r : Value), f.resultTypes[j]? = some t → (v.resultList f.resultTypes.size)[j]? = some r → Value.okWide P W' .any 0 t r) :
    s.post enc P f apart fresh handsOn again W args v W' := by
  have hlt : ∀ p ∈ before, p.block < W.heap.size := fun p hp => hW.lt p hp
  have hold : ∀ p ∈ before, (fun b => decide (b < W.heap.size)) p.block = true := fun p hp => by simpa using hlt p hp
  refine ⟨ds, gs, before, [], pa, pv, hW, hres _ _ _, hargs _ hold, hvars _ hold, World.keptBut_mono (fun p hp => ⟨hp, ?_⟩) (hb.frame (· ∈ before)), fun _ => ?_⟩
  · rw [hps, List.mem_append] at hp
    exact Or.inr hp
  · obtain ⟨_, _, _, _, _, hz, hn⟩ := hW
    refine ⟨hok, _, _, ([] ++ pa) ++ pv, ⟨[] ++ pa, pv, trodAll_append (hargs _ (fun _ _ => rfl)) (hres _ _ _), hvars _ (fun _ _ => rfl), rfl, ?_, ?_⟩, ?_⟩
    · intro b off hp
      have hin : MemPlace.cell b off ∈ before := by rw [hps]; simpa using hp
      rw [hb.frozen (hlt _ hin)]
      exact hz b off hin
    · intro ha
      have := hn ha
      rw [hps] at this
      simpa using this
    · intro p hp _
      rw [hps]
      simpa using hp
/-- An argument reads behind the call as it read ahead of it. -/
theorem trod_again {t : TypeId} (hl : laidOutB P = true) (hr : P.readableRec t = true) (hrow : t < P.types.size) {W W' : World} {v : Value} {d : DataW H} {ps : List MemPlace}
    (h : DataW.Trod enc P W 0 (fun _ => true) true t v d ps) (hb : Below W.heap.size W W') (hlt : ∀ x ∈ ps, x.block < W.heap.size) (sp : Nat → Bool) (hs : ∀ p ∈ ps, sp p.block = true) :
    DataW.Trod enc P W' 0 sp true t v d ps :=
  WideElems.Trod_stays hl hr hrow h (fun x hx => hb.same (hlt x hx)) hs
end
end Go.Proofs.YtldhfdagmaklaaaDoor.B
end
section
set_option maxHeartbeats 8000000
set_option linter.unusedVariables false
set_option linter.unusedSimpArgs false

/- What a law's arguments are for the machine of values: of whatever law. -/
namespace Go.Proofs.YtldhfdagmaklaaaDoor.VM
open Go Go.Proofs Go.RowKit Go.WideShapes Go.ChangeShapes Go.Deep AM B
section
variable {H : Type} {enc : TypeId × Value → H} {P : Program} {w : World}
theorem rd_nil {t e : TypeId} {cs : List Value} (h : Rd enc P w t cs) (ht : P.underlying t = some (.slice e)) : ∃ v, cs = [v] ∧ (v = .slice none 0 0 ∨ ∃ a n c, v = .slice (some a) n c) := by
  obtain ⟨m, x, hm⟩ := h
  rcases open_slice ht hm with ⟨rfl, _⟩ | ⟨a, len, cap, mm, n, D, Pl, rfl, _⟩
  · exact ⟨_, rfl, .inl rfl⟩
  · exact ⟨_, rfl, .inr ⟨_, _, _, rfl⟩⟩
theorem rd_sliceV {t e : TypeId} {cs : List Value} {k : Nat} (Good : List V → Prop) (h : Rd enc P w t cs) (ht : P.underlying t = some (.slice e)) (hk : P.cellsOf e = k) (hk0 : 0 < k) (hk1 : k ≤ 1048576)
    (f : ∀ es, es.length = k → Rd enc P w e es → ∃ row : List V, row.length = k ∧ CellsV w row es ∧ Good row) : ∃ v kk rows, cs = [v] ∧ CellV w (.fsl kk k rows) v ∧ rows.length ≤ maxLen ∧ ∀ r ∈ rows, Good r := by
  obtain ⟨v0, hv0, hnil⟩ := rd_nil h ht
  obtain ⟨v, n, es, h1, h2, ⟨A, c, h3, h4, h5, h6⟩, h7⟩ := h.slice ht hk hk0
  have hvv : v0 = v := by rw [hv0] at h1; cases h1; rfl
  subst hvv
  have rows : ∀ es : List (List Value), (∀ i (h : i < es.length), es[i].length = k ∧ Rd enc P w e es[i]) → ∃ rows : List (List V), RowsV w k rows es.flatten ∧ rows.length = es.length ∧ ∀ r ∈ rows, Good r := by
    intro es
    induction es with
    | nil => exact fun _ => ⟨[], rfl, rfl, fun r hr => by simp at hr⟩
    | cons a es ih =>
      intro h
      obtain ⟨rows, r1, r2, r3⟩ := ih fun i hi => h (i + 1) (by simpa using hi)
      obtain ⟨row, q1, q2, q3⟩ := f a (h 0 (by simp)).1 (h 0 (by simp)).2
      refine ⟨row :: rows, ⟨a, es.flatten, by simp, q1, q2, r1⟩, by simp [r2], fun r hr => ?_⟩
      rcases List.mem_cons.1 hr with rfl | hr
      · exact q3
      · exact r3 r hr
  obtain ⟨rows, r1, r2, r3⟩ := rows es h7
  obtain ⟨kk, hc⟩ := CellV.slice (A := A) (n := n) (c := c) hk0 hk1 (fun hA => by
    rcases hnil with hq | ⟨a, n', c', hq⟩
    · rw [h3] at hq; cases hq; exact ⟨rfl, rfl⟩
    · rw [h3, hA] at hq; cases hq) h4 h5 (by omega) r1 h6
  exact ⟨v0, kk, rows, h1, by rw [h3]; exact hc, by omega, r3⟩
theorem rd_two {t : TypeId} {f0 f1 : Field} {cs : List Value} (h : Rd enc P w t cs) (ht : P.underlying t = some (.struct #[f0, f1])) {a b : Nat} (o0 : f0.offset = 0) (c0 : P.cellsOf f0.type = a) (o1 : f1.offset = a) (c1 : P.cellsOf f1.type = b) (hc : P.cellsOf t = a + b) :
    ∃ x y, cs = x ++ y ∧ x.length = a ∧ y.length = b ∧ Rd enc P w f0.type x ∧ Rd enc P w f1.type y := by
  obtain ⟨hl, h0, h1⟩ := h.struct2 ht
  rw [o0, c0, List.drop_zero] at h0
  rw [o1, c1] at h1
  have e1 : (cs.drop a).take b = cs.drop a := List.take_of_length_le (by simp; omega)
  rw [e1] at h1
  exact ⟨cs.take a, cs.drop a, (List.take_append_drop a cs).symm, by simp; omega, by simp; omega, h0, h1⟩
end
end Go.Proofs.YtldhfdagmaklaaaDoor.VM
end
section
set_option maxHeartbeats 8000000
set_option linter.unusedVariables false
set_option linter.unusedSimpArgs false

/- Numbers as bytes, seven bits a byte: plain. -/
namespace Go.Proofs.YtldhfdagmaklaaaDoor
open B
def vencF : Nat → Nat → List Int
  | 0, _ => []
  | k + 1, n => if n < 128 then [(n : Int)] else ((n % 128 + 128 : Nat) : Int) :: vencF k (n / 128)
/-- A number's bytes. -/
def venc (n : Nat) : List Int := vencF 10 n
theorem vencF_more : ∀ (k n : Nat), n < 128 ^ k → 0 < k → vencF (k + 1) n = vencF k n := by
  intro k
  induction k with
  | zero => intro n _ h; omega
  | succ k ih =>
    intro n hn _
    by_cases h : n < 128
    · simp [vencF, h]
    · have e1 : ∀ j, vencF (j + 1) n = ((n % 128 + 128 : Nat) : Int) :: vencF j (n / 128) := fun j => by rw [vencF, if_neg h]
      rw [e1, e1]
      congr 1
      rcases Nat.eq_zero_or_pos k with h0 | h0
      · subst h0; omega
      · exact ih (n / 128) (by rw [Nat.pow_succ] at hn; omega) h0
theorem venc_lt (n : Nat) (h : n < 128) : venc n = [(n : Int)] := by simp [venc, vencF, h]
theorem venc_ge (n : Nat) (h : 128 ≤ n) (h2 : n < 18446744073709551616) : venc n = ((n % 128 + 128 : Nat) : Int) :: venc (n / 128) := by
  have e : vencF 10 n = ((n % 128 + 128 : Nat) : Int) :: vencF 9 (n / 128) := by rw [vencF, if_neg (by omega)]
  unfold venc
  rw [e, vencF_more 9 (n / 128) (by omega) (by omega)]
theorem vencF_length : ∀ k n, (vencF k n).length ≤ k := by
  intro k
  induction k with
  | zero => intro n; simp [vencF]
  | succ k ih => intro n; unfold vencF; split <;> simp [ih]
theorem venc_length (n : Nat) : (venc n).length ≤ 10 := vencF_length 10 n
theorem venc_pos (n : Nat) : 0 < (venc n).length := by unfold venc vencF; split <;> simp
theorem vencF_byte : ∀ k n x, x ∈ vencF k n → 0 ≤ x ∧ x ≤ 255 := by
  intro k
  induction k with
  | zero => intro n x h; simp [vencF] at h
  | succ k ih =>
    intro n x h
    unfold vencF at h
    split at h
    · simp at h; omega
    · rcases List.mem_cons.1 h with rfl | h
      · omega
      · exact ih _ x h
theorem venc_byte (n : Nat) (x : Int) (h : x ∈ venc n) : 0 ≤ x ∧ x ≤ 255 := vencF_byte 10 n x h
/-- Numbers' bytes, one behind the other. -/
def vencs (l : List Int) : List Int := l.flatMap fun n => venc n.toNat
theorem vencs_append (a b : List Int) : vencs (a ++ b) = vencs a ++ vencs b := by simp [vencs]
theorem vencs_length (l : List Int) : (vencs l).length ≤ 10 * l.length := by
  induction l with
  | nil => simp [vencs]
  | cons a l ih =>
    have := venc_length a.toNat
    simp only [vencs, List.flatMap_cons, List.length_append, List.length_cons] at *
    omega
theorem vencs_pos (l : List Int) : l.length ≤ (vencs l).length := by
  induction l with
  | nil => simp [vencs]
  | cons a l ih =>
    have := venc_pos a.toNat
    simp only [vencs, List.flatMap_cons, List.length_append, List.length_cons] at *
    omega
end Go.Proofs.YtldhfdagmaklaaaDoor
end
section
set_option maxHeartbeats 8000000
set_option linter.unusedVariables false
set_option linter.unusedSimpArgs false

/- varint: put and Put. -/
namespace Go.Proofs.YtldhfdagmaklaaaDoor.VM
open Go Go.Proofs AM
/-- A byte, in a row. -/
def bc (b : Int) : List V := [.lit (.int .u8 b)]
/-- A slice of bytes; of whole numbers. -/
def BS (k : Bool) (l : List Int) : V := .fsl k 1 (l.map bc)
def ic (n : Int) : List V := [i6 n]
def IS (k : Bool) (l : List Int) : V := .fsl k 1 (l.map ic)
attribute [simp] BS bc IS ic
set_option maxRecDepth 100000
theorem bits_or (r : Nat) (h : r < 256) : bits BinOp.or IntKind.u8 (r : Int) 128 = ((r % 128 + 128 : Nat) : Int) := by
  have : ∀ r : Fin 256, bits BinOp.or IntKind.u8 ((r : Nat) : Int) 128 = (((r : Nat) % 128 + 128 : Nat) : Int) := by decide +kernel
  exact this ⟨r, h⟩
theorem bits_or' (q : Nat) : bits BinOp.or IntKind.u8 ((q : Int) % 256) 128 = ((q % 128 + 128 : Nat) : Int) := by
  have := bits_or (q % 256) (by omega)
  rw [show ((q % 256 : Nat) : Int) = (q : Int) % 256 by omega] at this
  rw [this]
  congr 1
  omega
/-- Numbers' bytes, or none. -/
def putB (l : List Int) : List Int := if l.all (fun n => decide (0 ≤ n)) then vencs l else []
end Go.Proofs.YtldhfdagmaklaaaDoor.VM
end
section
set_option maxHeartbeats 8000000
set_option linter.unusedVariables false
set_option linter.unusedSimpArgs false

/- Bytes as a law's argument. -/
namespace Go.Proofs.YtldhfdagmaklaaaDoor.VM
open Go Go.Proofs Go.RowKit AM B
theorem rows_bc : ∀ {rows : List (List V)}, (∀ r ∈ rows, ∃ x : Int, (0 ≤ x ∧ x ≤ 255) ∧ r = bc x) → ∃ l : List Int, rows = l.map bc ∧ ∀ x ∈ l, 0 ≤ x ∧ x ≤ 255
  | [], _ => ⟨[], rfl, by simp⟩
  | r :: rs, h => by
    obtain ⟨e, he1, he2⟩ := h r (by simp)
    obtain ⟨l, hl, hb⟩ := rows_bc (rows := rs) fun x hx => h x (by simp [hx])
    refine ⟨e :: l, by rw [he2, hl]; rfl, fun x hx => ?_⟩
    rcases List.mem_cons.1 hx with rfl | hx
    · exact he1
    · exact hb x hx
theorem rows_ic : ∀ {rows : List (List V)}, (∀ r ∈ rows, ∃ x : Int, r = ic x) → ∃ l : List Int, rows = l.map ic
  | [], _ => ⟨[], rfl⟩
  | r :: rs, h => by
    obtain ⟨e, he⟩ := h r (by simp)
    obtain ⟨l, hl⟩ := rows_ic (rows := rs) fun x hx => h x (by simp [hx])
    exact ⟨e :: l, by rw [he, hl]; rfl⟩
/-- Whole numbers. -/
theorem rd_ints {H : Type} {enc : TypeId × Value → H} {w : World} {cs : List Value} (h : Rd enc Tryd.prog w 22 cs) : ∃ v kk, ∃ l : List Int, cs = [v] ∧ l.length < 2 ^ 63 ∧ CellV w (IS kk l) v := by
  obtain ⟨v, kk, rows, e, hc, hl, hg⟩ := rd_sliceV (fun r => ∃ x : Int, r = ic x) h Tryd.underlying22 (by kernel_rfl : Tryd.prog.cellsOf 3 = 1) (by omega) (by omega) (fun es h1 h2 => by
    obtain ⟨x, rfl, hw⟩ := h2.int Tryd.underlying3
    exact ⟨ic x, rfl, ⟨_, _, rfl, .lit rfl, rfl⟩, x, rfl⟩)
  obtain ⟨l, rfl⟩ := rows_ic hg
  exact ⟨v, kk, l, e, by simp only [List.length_map, maxLen] at hl; omega, hc⟩
theorem arg_ints {H : Type} {enc : TypeId × Value → H} {w : World} {v : Value} (h : Rd enc Tryd.prog w 22 [v]) : ∃ kk, ∃ l : List Int, l.length < 2 ^ 63 ∧ ArgV w (IS kk l) v := by
  obtain ⟨u, kk, l, e, h1, h3⟩ := rd_ints h
  cases e
  exact ⟨kk, l, h1, h3.arg⟩
end Go.Proofs.YtldhfdagmaklaaaDoor.VM
end
section
set_option maxHeartbeats 8000000
set_option linter.unusedVariables false
set_option linter.unusedSimpArgs false

/- bytes: the document's Put, Same, bytes.Equal. -/
namespace Go.Proofs.YtldhfdagmaklaaaDoor.VM
open Go Go.Proofs AM
set_option maxRecDepth 100000
theorem getL {l : List Int} {k : Nat} (h : k < l.length) : l[k]? = some l[k] := List.getElem?_eq_getElem h
def u8 (x : Int) : UInt8 := UInt8.ofNat x.toNat
theorem bytesV_bc : ∀ l : List Int, bytesV (l.map bc) = some (l.map u8)
  | [] => rfl
  | x :: l => by
    have := bytesV_bc l
    simp only [List.map_cons, bc, bytesV, byteOfV] at this ⊢
    rw [bytesV_bc l]
    rfl
theorem u8_inj {x y : Int} (hx : 0 ≤ x ∧ x ≤ 255) (hy : 0 ≤ y ∧ y ≤ 255) (h : u8 x = u8 y) : x = y := by
  have := congrArg UInt8.toNat h
  simp [u8] at this
  omega
theorem map_u8 : ∀ {l m : List Int}, (∀ x ∈ l, 0 ≤ x ∧ x ≤ 255) → (∀ x ∈ m, 0 ≤ x ∧ x ≤ 255) → (l.map u8 == m.map u8) = decide (l = m)
  | [], [], _, _ => by simp
  | [], _ :: _, _, _ => by simp
  | _ :: _, [], _, _ => by simp
  | x :: l, y :: m, hl, hm => by
    have := map_u8 (l := l) (m := m) (fun z hz => hl z (by simp [hz])) (fun z hz => hm z (by simp [hz]))
    simp only [List.map_cons, List.cons_beq_cons, this]
    by_cases hxy : x = y
    · subst hxy; simp
    · have : u8 x ≠ u8 y := fun h => hxy (u8_inj (hl x (by simp)) (hm y (by simp)) h)
      simp [hxy, this]
end Go.Proofs.YtldhfdagmaklaaaDoor.VM
end
section
set_option maxHeartbeats 8000000
set_option linter.unusedVariables false
set_option linter.unusedSimpArgs false

/- Sets of numbers as words of 64 bits: plain laws. -/
namespace Go.Proofs.YtldhfdagmaklaaaDoor.VM
open Go Go.Proofs AM
/-- Bits as a number. -/
def ofB : List Bool → Nat
  | [] => 0
  | b :: l => b.toNat + 2 * ofB l
theorem ofB_lt : ∀ l : List Bool, ofB l < 2 ^ l.length
  | [] => by simp [ofB]
  | b :: l => by
    have := ofB_lt l
    simp only [ofB, List.length_cons, Nat.pow_succ]
    have : b.toNat ≤ 1 := Bool.toNat_le b
    omega
theorem ofB_bit : ∀ (l : List Bool) (j : Nat), (ofB l).testBit j = l.getD j false
  | [], j => by simp [ofB]
  | b :: l, 0 => by
    simp only [ofB, Nat.testBit_zero, List.getD_cons_zero]
    cases b <;> simp <;> omega
  | b :: l, j + 1 => by
    have : (ofB (b :: l)) / 2 = ofB l := by
      simp only [ofB]
      have : b.toNat ≤ 1 := Bool.toNat_le b
      omega
    rw [Nat.testBit_succ, this, ofB_bit l j, List.getD_cons_succ]
/-- Word i. -/
def wd (m : List Bool) (i : Nat) : Nat := ofB ((m.drop (64 * i)).take 64)
theorem wd_lt (m : List Bool) (i : Nat) : wd m i < 18446744073709551616 := by
  have h := ofB_lt ((m.drop (64 * i)).take 64)
  have h2 : ((m.drop (64 * i)).take 64).length ≤ 64 := by rw [List.length_take]; exact Nat.min_le_left ..
  exact Nat.lt_of_lt_of_le h (Nat.pow_le_pow_right (by omega) h2)
theorem wd_bit (m : List Bool) (i j : Nat) : (wd m i).testBit j = (decide (j < 64) && m.getD (64 * i + j) false) := by
  unfold wd
  rw [ofB_bit, List.getD_eq_getElem?_getD, List.getElem?_take]
  by_cases h : j < 64
  · simp [h, List.getElem?_drop]
  · simp [h]
def nw (n : Nat) : Nat := (n + 63) / 64
def words (m : List Bool) : List Nat := (List.range (nw m.length)).map (wd m)
theorem words_len (m : List Bool) : (words m).length = nw m.length := by simp [words]
theorem words_at (m : List Bool) {i : Nat} (h : i < nw m.length) : (words m)[i]? = some (wd m i) := by simp [words, h]
/-- A number's word and bit. -/
theorem wd_num (m : List Bool) (k : Nat) : (wd m (k / 64)).testBit (k % 64) = m.getD k false := by
  rw [wd_bit]
  have h1 : k % 64 < 64 := Nat.mod_lt _ (by omega)
  have h2 : 64 * (k / 64) + k % 64 = k := Nat.div_add_mod ..
  simp [h1, h2]
theorem wd_set (m : List Bool) (k i : Nat) (b : Bool) (hk : k < m.length) (hne : m.getD k false ≠ b) : wd (m.set k b) i = if i = k / 64 then wd m i ^^^ 2 ^ (k % 64) else wd m i := by
  apply Nat.eq_of_testBit_eq
  intro j
  have h2 : 64 * (k / 64) + k % 64 = k := Nat.div_add_mod ..
  have h1 : k % 64 < 64 := Nat.mod_lt _ (by omega)
  rw [wd_bit]
  by_cases hi : i = k / 64
  · rw [if_pos hi, Nat.testBit_xor, wd_bit, Nat.testBit_two_pow]
    subst hi
    by_cases hj : j = k % 64
    · subst hj
      rw [h2]
      simp only [h1, decide_true, Bool.true_and]
      rw [List.getD_eq_getElem?_getD, List.getElem?_set_self hk]
      revert hne
      cases m.getD k false <;> cases b <;> simp
    · have hne2 : k ≠ 64 * (k / 64) + j := by omega
      have e1 : ¬ k % 64 = j := fun e => hj e.symm
      simp only [List.getD_eq_getElem?_getD, List.getElem?_set_ne hne2, e1, decide_false, Bool.xor_false]
  · rw [if_neg hi, wd_bit]
    by_cases h64 : j < 64
    · have hne2 : k ≠ 64 * i + j := by
        intro e
        apply hi
        omega
      simp only [List.getD_eq_getElem?_getD, List.getElem?_set_ne hne2]
    · simp [h64]
theorem words_set (m : List Bool) (k : Nat) (b : Bool) (hk : k < m.length) (hne : m.getD k false ≠ b) : words (m.set k b) = (words m).set (k / 64) (wd m (k / 64) ^^^ 2 ^ (k % 64)) := by
  apply List.ext_getElem?
  intro i
  have hl : nw (m.set k b).length = nw m.length := by simp
  by_cases hi : i < nw m.length
  · rw [words_at _ (by rw [hl]; exact hi), wd_set m k i b hk hne]
    by_cases e : i = k / 64
    · subst e
      rw [if_pos rfl, List.getElem?_set_self (by rw [words_len]; exact hi)]
    · rw [if_neg e, List.getElem?_set_ne (fun h => e h.symm), words_at _ hi]
  · rw [List.getElem?_eq_none (by rw [words_len, hl]; omega), List.getElem?_eq_none (by rw [List.length_set, words_len]; omega)]
theorem words_zero (n : Nat) : words (List.replicate n false) = List.replicate (nw n) 0 := by
  have h : ∀ i, wd (List.replicate n false) i = 0 := fun i => by
    apply Nat.eq_of_testBit_eq
    intro j
    rw [wd_bit]
    have : (List.replicate n false).getD (64 * i + j) false = false := by
      rw [List.getD_eq_getElem?_getD, List.getElem?_replicate]; split <;> rfl
    rw [this]
    simp
  apply List.ext_getElem?
  intro i
  simp only [words, List.length_replicate, List.getElem?_map, List.getElem?_replicate, List.getElem?_range']
  by_cases hi : i < nw n
  · simp [hi, h]
  · simp [hi]
/-- The machine's bits. -/
theorem wrap64 {n : Nat} (h : n < 18446744073709551616) : IntKind.u64.wrap (n : Int) = n := by
  simp [IntKind.wrap, IntKind.bits, IntKind.signed]; omega
theorem bv64 (n : Nat) : BitVec.ofInt 64 (n : Int) = BitVec.ofNat 64 n := by rw [BitVec.ofInt_natCast]
theorem u64_and {a b : Nat} (ha : a < 18446744073709551616) (hb : b < 18446744073709551616) : bits BinOp.and IntKind.u64 (a : Int) (b : Int) = ((a &&& b : Nat) : Int) := by
  show IntKind.u64.wrap (((BitVec.ofInt 64 (a : Int) &&& BitVec.ofInt 64 (b : Int)).toNat : Nat) : Int) = _
  rw [bv64, bv64, BitVec.toNat_and, BitVec.toNat_ofNat, BitVec.toNat_ofNat, Nat.mod_eq_of_lt ha, Nat.mod_eq_of_lt hb]
  exact wrap64 (Nat.lt_of_le_of_lt Nat.and_le_left ha)
theorem u64_xor {a b : Nat} (ha : a < 18446744073709551616) (hb : b < 18446744073709551616) : bits BinOp.xor IntKind.u64 (a : Int) (b : Int) = ((a ^^^ b : Nat) : Int) := by
  show IntKind.u64.wrap (((BitVec.ofInt 64 (a : Int) ^^^ BitVec.ofInt 64 (b : Int)).toNat : Nat) : Int) = _
  rw [bv64, bv64, BitVec.toNat_xor, BitVec.toNat_ofNat, BitVec.toNat_ofNat, Nat.mod_eq_of_lt ha, Nat.mod_eq_of_lt hb]
  exact wrap64 (Nat.xor_lt_two_pow (n := 64) ha hb)
theorem u64_or {a b : Nat} (ha : a < 18446744073709551616) (hb : b < 18446744073709551616) : bits BinOp.or IntKind.u64 (a : Int) (b : Int) = ((a ||| b : Nat) : Int) := by
  show IntKind.u64.wrap (((BitVec.ofInt 64 (a : Int) ||| BitVec.ofInt 64 (b : Int)).toNat : Nat) : Int) = _
  rw [bv64, bv64, BitVec.toNat_or, BitVec.toNat_ofNat, BitVec.toNat_ofNat, Nat.mod_eq_of_lt ha, Nat.mod_eq_of_lt hb]
  exact wrap64 (Nat.or_lt_two_pow (n := 64) ha hb)
theorem u64_shr (a k : Nat) : Int.fdiv (a : Int) (2 ^ k) = ((a >>> k : Nat) : Int) := by
  rw [Int.fdiv_eq_ediv_of_nonneg _ (by exact Int.pow_nonneg (by decide)), Nat.shiftRight_eq_div_pow]
  simp
/-- One bit, asked. -/
theorem bit_ask (a k : Nat) : (((a >>> k) &&& 1 : Nat) : Int) = if a.testBit k = true then 1 else 0 := by
  have : (a >>> k) &&& 1 = if a.testBit k = true then 1 else 0 := by
    rw [Nat.testBit]
    have h1 : a >>> k &&& 1 = 1 &&& a >>> k := Nat.and_comm ..
    rw [h1]
    have h2 : 1 &&& a >>> k < 2 := Nat.lt_of_le_of_lt Nat.and_le_left (by omega)
    by_cases h0 : 1 &&& a >>> k = 0
    · simp [h0]
    · have : 1 &&& a >>> k = 1 := by omega
      simp [this]
  rw [this]
  split <;> rfl
theorem u64_bit {a : Nat} (ha : a < 18446744073709551616) (k : Nat) : bits BinOp.and IntKind.u64 ((a : Int) >>> k) 1 = if a.testBit k = true then 1 else 0 := by
  rw [← bit_ask, ← u64_and (Nat.lt_of_le_of_lt (Nat.shiftRight_le a k) ha) (by decide)]
  simp
end Go.Proofs.YtldhfdagmaklaaaDoor.VM
end
section
set_option maxHeartbeats 8000000
set_option linter.unusedVariables false
set_option linter.unusedSimpArgs false

/- Bits of words: the lowest one, how many, which: plain laws. -/
namespace Go.Proofs.YtldhfdagmaklaaaDoor.VM
open Go Go.Proofs AM
/-- How many ones among the first n bits. -/
def pc : Nat → Nat → Nat
  | 0, _ => 0
  | n + 1, w => w % 2 + pc n (w / 2)
theorem pc_add (m : Nat) : ∀ (n w : Nat), pc (n + m) w = pc n w + pc m (w / 2 ^ n)
  | 0, w => by simp [pc]
  | n + 1, w => by
    rw [show n + 1 + m = (n + m) + 1 by omega]
    simp only [pc]
    rw [pc_add m n (w / 2), Nat.div_div_eq_div_mul, Nat.pow_succ, Nat.mul_comm 2]
    omega
theorem pc_low : ∀ (n w r : Nat), pc n (w + 2 ^ n * r) = pc n w
  | 0, _, _ => rfl
  | n + 1, w, r => by
    simp only [pc]
    have h1 : (w + 2 ^ (n + 1) * r) % 2 = w % 2 := by rw [Nat.pow_succ, Nat.mul_comm (2 ^ n) 2, Nat.mul_assoc]; omega
    have h2 : (w + 2 ^ (n + 1) * r) / 2 = w / 2 + 2 ^ n * r := by rw [Nat.pow_succ, Nat.mul_comm (2 ^ n) 2, Nat.mul_assoc]; omega
    rw [h1, h2, pc_low n]
def bitsOf (w : Nat) : List Nat := (List.range 64).filter fun j => w.testBit j
theorem filter_pc : ∀ (n w : Nat), ((List.range n).filter fun j => w.testBit j).length = pc n w
  | 0, w => rfl
  | n + 1, w => by
    have ih := filter_pc n (w / 2)
    rw [List.range_succ_eq_map, List.filter_cons]
    have e : ((List.range n).map Nat.succ).filter (fun j => w.testBit j) = ((List.range n).filter fun j => (w / 2).testBit j).map Nat.succ := by
      rw [List.filter_map]
      congr 1
      apply List.filter_congr
      intro j _
      simp [Nat.testBit_succ]
    rw [e]
    simp only [Nat.testBit_zero, pc]
    have : w % 2 = 0 ∨ w % 2 = 1 := by omega
    rcases this with h | h <;> simp [h, ih] <;> omega
theorem bitsOf_len (w : Nat) : (bitsOf w).length = pc 64 w := filter_pc 64 w
/-- A number's lowest one. -/
theorem low_one : ∀ (n w : Nat), w ≠ 0 → w < 2 ^ n → ∃ k q, k < n ∧ w = 2 ^ k * (2 * q + 1)
  | 0, w, h0, h => by simp at h; omega
  | n + 1, w, h0, h => by
    by_cases hm : w % 2 = 1
    · exact ⟨0, w / 2, by omega, by simp; omega⟩
    · obtain ⟨k, q, hk, hq⟩ := low_one n (w / 2) (by omega) (by rw [Nat.pow_succ] at h; omega)
      refine ⟨k + 1, q, by omega, ?_⟩
      rw [Nat.pow_succ, Nat.mul_comm (2 ^ k) 2, Nat.mul_assoc, ← hq]
      omega
theorem low_bit (k q i : Nat) : (2 ^ k * (2 * q + 1)).testBit i = if i < k then false else if i = k then true else q.testBit (i - (k + 1)) := by
  have e : 2 ^ k * (2 * q + 1) = 2 ^ (k + 1) * q + 2 ^ k := by rw [Nat.pow_succ, Nat.mul_add, Nat.mul_one, Nat.mul_assoc]
  rw [e, Nat.testBit_two_pow_mul_add _ (Nat.pow_lt_pow_right (by omega) (by omega)), Nat.testBit_two_pow]
  by_cases h1 : i < k
  · rw [if_pos (by omega), if_pos h1]; simp; omega
  · rw [if_neg h1]
    by_cases h2 : i = k
    · subst h2; simp
    · rw [if_neg (by omega), if_neg h2]
theorem low_pred (k q i : Nat) : (2 ^ k * (2 * q + 1) - 1).testBit i = if i < k then true else if i = k then false else q.testBit (i - (k + 1)) := by
  have hp : 0 < 2 ^ k := Nat.two_pow_pos k
  have e : 2 ^ k * (2 * q + 1) - 1 = 2 ^ (k + 1) * q + (2 ^ k - 1) := by rw [Nat.pow_succ, Nat.mul_add, Nat.mul_one, Nat.mul_assoc]; omega
  have hlt : 2 ^ k - 1 < 2 ^ (k + 1) := by rw [Nat.pow_succ]; omega
  rw [e, Nat.testBit_two_pow_mul_add _ hlt, Nat.testBit_two_pow_sub_one]
  by_cases h1 : i < k
  · rw [if_pos (by omega), if_pos h1]; simp [h1]
  · rw [if_neg h1]
    by_cases h2 : i = k
    · subst h2; simp
    · rw [if_neg (by omega), if_neg h2]
theorem low_drop (k q i : Nat) : (2 ^ k * (2 * q + 1) &&& (2 ^ k * (2 * q + 1) - 1)).testBit i = if i ≤ k then false else (2 ^ k * (2 * q + 1)).testBit i := by
  rw [Nat.testBit_and, low_bit, low_pred]
  by_cases h1 : i < k
  · simp [h1, Nat.le_of_lt h1]
  · by_cases h2 : i = k
    · simp [h2]
    · have : ¬ i ≤ k := by omega
      simp [h1, h2, this]
theorem bitsOf_step {k q : Nat} (hk : k < 64) : bitsOf (2 ^ k * (2 * q + 1)) = k :: bitsOf (2 ^ k * (2 * q + 1) &&& (2 ^ k * (2 * q + 1) - 1)) := by
  unfold bitsOf
  have e : List.range 64 = List.range k ++ k :: (List.range (63 - k)).map (k + 1 + ·) := by
    rw [show 64 = k + (1 + (63 - k)) by omega, List.range_add, List.range_add]
    simp [Nat.add_assoc]
  rw [e, List.filter_append, List.filter_append, List.filter_cons, List.filter_cons]
  have f1 : ∀ (p : Nat → Bool), (∀ j, j < k → p j = false) → (List.range k).filter p = [] := fun p h => by
    rw [List.filter_eq_nil_iff]; intro j hj; rw [h j (List.mem_range.1 hj)]; simp
  rw [f1 _ (fun j hj => by rw [low_bit, if_pos hj]), f1 _ (fun j hj => by rw [low_drop, if_pos (by omega)])]
  have g1 : (2 ^ k * (2 * q + 1)).testBit k = true := by rw [low_bit, if_neg (by omega), if_pos rfl]
  have g2 : (2 ^ k * (2 * q + 1) &&& (2 ^ k * (2 * q + 1) - 1)).testBit k = false := by rw [low_drop, if_pos (by omega)]
  rw [if_pos g1, if_neg (by rw [g2]; simp)]
  simp only [List.nil_append, List.cons.injEq, true_and]
  apply List.filter_congr
  intro j hj
  obtain ⟨x, _, rfl⟩ := List.mem_map.1 hj
  rw [low_drop, if_neg (by omega)]
theorem bitsOf_zero : bitsOf 0 = [] := by
  unfold bitsOf
  rw [List.filter_eq_nil_iff]; intro j _; simp
/-- The lowest one alone. -/
theorem low_neg {k q : Nat} (hk : k < 64) (h : 2 ^ k * (2 * q + 1) < 18446744073709551616) : 2 ^ k * (2 * q + 1) &&& (18446744073709551616 - 2 ^ k * (2 * q + 1)) = 2 ^ k := by
  have hp : 0 < 2 ^ k * (2 * q + 1) := Nat.mul_pos (Nat.two_pow_pos k) (by omega)
  apply Nat.eq_of_testBit_eq
  intro i
  have e : 18446744073709551616 - 2 ^ k * (2 * q + 1) = 2 ^ 64 - ((2 ^ k * (2 * q + 1) - 1) + 1) := by omega
  rw [Nat.testBit_and, e, Nat.testBit_two_pow_sub_succ (by omega), low_bit, low_pred, Nat.testBit_two_pow]
  by_cases h1 : i < k
  · simp [h1]; omega
  · by_cases h2 : i = k
    · subst h2; simp [hk]
    · have h3 : ¬ k = i := fun e => h2 e.symm
      simp [h1, h2, h3]
      intro h; simp [h]
/-- A set's numbers. -/
def allN (m : List Bool) : List Nat := (List.range m.length).filter fun i => m.getD i false
theorem filter_more (m : List Bool) (n : Nat) (h : m.length ≤ n) : (List.range n).filter (fun i => m.getD i false) = allN m := by
  have e : List.range n = List.range m.length ++ (List.range (n - m.length)).map (m.length + ·) := by
    rw [← List.range_add, Nat.add_sub_cancel' h]
  rw [e, List.filter_append]
  have : ((List.range (n - m.length)).map (m.length + ·)).filter (fun i => m.getD i false) = [] := by
    rw [List.filter_eq_nil_iff]
    intro j hj
    obtain ⟨x, _, rfl⟩ := List.mem_map.1 hj
    simp
  rw [this, List.append_nil]; rfl
theorem word_nums (m : List Bool) (i : Nat) : (bitsOf (wd m i)).map (64 * i + ·) = ((List.range 64).map (64 * i + ·)).filter fun j => m.getD j false := by
  unfold bitsOf
  rw [List.filter_map]
  congr 1
  apply List.filter_congr
  intro j hj
  rw [wd_bit]
  simp [List.mem_range.1 hj]
def upTo (m : List Bool) (i : Nat) : List Nat := (List.range (64 * i)).filter fun j => m.getD j false
theorem upTo_succ (m : List Bool) (i : Nat) : upTo m (i + 1) = upTo m i ++ (bitsOf (wd m i)).map (64 * i + ·) := by
  unfold upTo
  rw [word_nums, show 64 * (i + 1) = 64 * i + 64 by omega, List.range_add, List.filter_append]
theorem upTo_end (m : List Bool) : upTo m (nw m.length) = allN m := filter_more m _ (by unfold nw; omega)
theorem upTo_len (m : List Bool) : ∀ i, (upTo m i).length ≤ 64 * i
  | i => Nat.le_trans (List.length_filter_le ..) (by simp)
theorem allN_len (m : List Bool) : (allN m).length ≤ m.length := Nat.le_trans (List.length_filter_le ..) (by simp)
theorem upTo_pc (m : List Bool) (i : Nat) : (upTo m (i + 1)).length = (upTo m i).length + pc 64 (wd m i) := by
  rw [upTo_succ, List.length_append, List.length_map, bitsOf_len]
/-- The parallel count: three rounds, byte by byte. -/
theorem and_step {b c r s : Nat} (hb : b < 256) (hc : c < 256) : (b + 256 * r) &&& (c + 256 * s) = (b &&& c) + 256 * (r &&& s) := by
  apply Nat.eq_of_testBit_eq
  intro i
  have e1 : b + 256 * r = 2 ^ 8 * r + b := by omega
  have e2 : c + 256 * s = 2 ^ 8 * s + c := by omega
  have e3 : (b &&& c) + 256 * (r &&& s) = 2 ^ 8 * (r &&& s) + (b &&& c) := by omega
  rw [e1, e2, e3, Nat.testBit_and, Nat.testBit_two_pow_mul_add _ hb, Nat.testBit_two_pow_mul_add _ hc, Nat.testBit_two_pow_mul_add _ (Nat.lt_of_le_of_lt Nat.and_le_left hb)]
  split <;> simp
def g1 (b : Nat) : Nat := (b / 2 &&& 85) + (b &&& 85)
def g2 (b : Nat) : Nat := (b / 4 &&& 51) + (b &&& 51)
def g3 (b : Nat) : Nat := (b / 16 + b) &&& 15
theorem s1 {b r M : Nat} (hb : b < 256) : ((b + 256 * r) / 2 &&& (85 + 256 * M)) + ((b + 256 * r) &&& (85 + 256 * M)) = g1 b + 256 * ((r / 2 &&& M) + (r &&& M)) := by
  have e : (b + 256 * r) / 2 = (b / 2 + (r % 2) * 128) + 256 * (r / 2) := by omega
  rw [e, and_step (by omega) (by decide), and_step hb (by decide)]
  have key : ∀ x : Fin 256, ∀ y : Fin 2, ((x : Nat) / 2 + (y : Nat) * 128 &&& 85) = ((x : Nat) / 2 &&& 85) := by decide +kernel
  have := key ⟨b, hb⟩ ⟨r % 2, by omega⟩
  simp only at this
  rw [this]
  unfold g1
  omega
theorem s2 {b r M : Nat} (hb : b < 256) : ((b + 256 * r) / 4 &&& (51 + 256 * M)) + ((b + 256 * r) &&& (51 + 256 * M)) = g2 b + 256 * ((r / 4 &&& M) + (r &&& M)) := by
  have e : (b + 256 * r) / 4 = (b / 4 + (r % 4) * 64) + 256 * (r / 4) := by omega
  rw [e, and_step (by omega) (by decide), and_step hb (by decide)]
  have key : ∀ x : Fin 256, ∀ y : Fin 4, ((x : Nat) / 4 + (y : Nat) * 64 &&& 51) = ((x : Nat) / 4 &&& 51) := by decide +kernel
  have := key ⟨b, hb⟩ ⟨r % 4, by omega⟩
  simp only at this
  rw [this]
  unfold g2
  omega
theorem s3 {b r M : Nat} (hb : b ≤ 68) (hr : r % 16 ≤ 4) : ((b + 256 * r) / 16 + (b + 256 * r)) &&& (15 + 256 * M) = g3 b + 256 * ((r / 16 + r) &&& M) := by
  have e : (b + 256 * r) / 16 + (b + 256 * r) = (b / 16 + b + (r % 16) * 16) + 256 * (r / 16 + r) := by omega
  rw [e, and_step (by omega) (by decide)]
  have key : ∀ x : Fin 69, ∀ y : Fin 5, ((x : Nat) / 16 + (x : Nat) + (y : Nat) * 16 &&& 15) = ((x : Nat) / 16 + (x : Nat) &&& 15) := by decide +kernel
  have := key ⟨b, by omega⟩ ⟨r % 16, by omega⟩
  simp only at this
  rw [this]
  rfl
theorem g_all : ∀ b : Fin 256, g1 b < 256 ∧ g2 (g1 b) ≤ 68 ∧ g2 (g1 b) % 16 ≤ 4 ∧ g3 (g2 (g1 b)) = pc 8 b ∧ pc 8 b ≤ 8 := by decide +kernel
/-- The three rounds over eight bytes. -/
theorem count3 {x b0 b1 b2 b3 b4 b5 b6 b7 : Nat} (h0 : b0 < 256) (h1 : b1 < 256) (h2 : b2 < 256) (h3 : b3 < 256) (h4 : b4 < 256) (h5 : b5 < 256) (h6 : b6 < 256) (h7 : b7 < 256)
    (hx : x = b0 + 256 * (b1 + 256 * (b2 + 256 * (b3 + 256 * (b4 + 256 * (b5 + 256 * (b6 + 256 * (b7 + 256 * 0)))))))) :
    let x1 := (x / 2 &&& 6148914691236517205) + (x &&& 6148914691236517205)
    let x2 := (x1 / 4 &&& 3689348814741910323) + (x1 &&& 3689348814741910323)
    x1 < 18446744073709551616 ∧ x2 < 18446744073709551616 ∧ x2 / 16 + x2 < 18446744073709551616 ∧
    (x2 / 16 + x2) &&& 1085102592571150095 = pc 8 b0 + 256 * (pc 8 b1 + 256 * (pc 8 b2 + 256 * (pc 8 b3 + 256 * (pc 8 b4 + 256 * (pc 8 b5 + 256 * (pc 8 b6 + 256 * (pc 8 b7 + 256 * 0))))))) := by
  intro x1 x2
  have q0 := g_all ⟨b0, h0⟩
  have q1 := g_all ⟨b1, h1⟩
  have q2 := g_all ⟨b2, h2⟩
  have q3 := g_all ⟨b3, h3⟩
  have q4 := g_all ⟨b4, h4⟩
  have q5 := g_all ⟨b5, h5⟩
  have q6 := g_all ⟨b6, h6⟩
  have q7 := g_all ⟨b7, h7⟩
  simp only at q0 q1 q2 q3 q4 q5 q6 q7
  have e1 : x1 = g1 b0 + 256 * (g1 b1 + 256 * (g1 b2 + 256 * (g1 b3 + 256 * (g1 b4 + 256 * (g1 b5 + 256 * (g1 b6 + 256 * (g1 b7 + 256 * 0))))))) := by
    show (x / 2 &&& 6148914691236517205) + (x &&& 6148914691236517205) = _
    rw [show 6148914691236517205 = 85 + 256 * (85 + 256 * (85 + 256 * (85 + 256 * (85 + 256 * (85 + 256 * (85 + 256 * (85 + 256 * 0))))))) from rfl, hx, s1 h0, s1 h1, s1 h2, s1 h3, s1 h4, s1 h5, s1 h6, s1 h7]
    simp
  have e2 : x2 = g2 (g1 b0) + 256 * (g2 (g1 b1) + 256 * (g2 (g1 b2) + 256 * (g2 (g1 b3) + 256 * (g2 (g1 b4) + 256 * (g2 (g1 b5) + 256 * (g2 (g1 b6) + 256 * (g2 (g1 b7) + 256 * 0))))))) := by
    show (x1 / 4 &&& 3689348814741910323) + (x1 &&& 3689348814741910323) = _
    rw [show 3689348814741910323 = 51 + 256 * (51 + 256 * (51 + 256 * (51 + 256 * (51 + 256 * (51 + 256 * (51 + 256 * (51 + 256 * 0))))))) from rfl, e1, s2 q0.1, s2 q1.1, s2 q2.1, s2 q3.1, s2 q4.1, s2 q5.1, s2 q6.1, s2 q7.1]
    simp
  refine ⟨by omega, by omega, by omega, ?_⟩
  rw [show 1085102592571150095 = 15 + 256 * (15 + 256 * (15 + 256 * (15 + 256 * (15 + 256 * (15 + 256 * (15 + 256 * (15 + 256 * 0))))))) from rfl, e2, s3 q0.2.1 (by omega), s3 q1.2.1 (by omega), s3 q2.2.1 (by omega), s3 q3.2.1 (by omega), s3 q4.2.1 (by omega), s3 q5.2.1 (by omega), s3 q6.2.1 (by omega), s3 q7.2.1 (by omega), q0.2.2.2.1, q1.2.2.2.1, q2.2.2.2.1, q3.2.2.2.1, q4.2.2.2.1, q5.2.2.2.1, q6.2.2.2.1, q7.2.2.2.1]
  simp
theorem pc_split {x b0 b1 b2 b3 b4 b5 b6 b7 : Nat} (h0 : b0 < 256) (h1 : b1 < 256) (h2 : b2 < 256) (h3 : b3 < 256) (h4 : b4 < 256) (h5 : b5 < 256) (h6 : b6 < 256)
    (hx : x = b0 + 256 * (b1 + 256 * (b2 + 256 * (b3 + 256 * (b4 + 256 * (b5 + 256 * (b6 + 256 * (b7 + 256 * 0)))))))) :
    pc 64 x = pc 8 b0 + pc 8 b1 + pc 8 b2 + pc 8 b3 + pc 8 b4 + pc 8 b5 + pc 8 b6 + pc 8 b7 := by
  have st : ∀ (n b r : Nat), b < 256 → pc (8 + n) (b + 256 * r) = pc 8 b + pc n r := fun n b r hb => by
    rw [pc_add, show b + 256 * r = b + 2 ^ 8 * r by rfl, pc_low]
    congr 2
    omega
  rw [show 64 = 8 + (8 + (8 + (8 + (8 + (8 + (8 + 8)))))) from rfl, hx, st _ _ _ h0, st _ _ _ h1, st _ _ _ h2, st _ _ _ h3, st _ _ _ h4, st _ _ _ h5, st _ _ _ h6]
  simp only [Nat.mul_zero, Nat.add_zero]
  omega
end Go.Proofs.YtldhfdagmaklaaaDoor.VM
end
section
set_option maxHeartbeats 8000000
set_option linter.unusedVariables false
set_option linter.unusedSimpArgs false

/- bitmap: may, Has, flip, Add, Drop. -/
namespace Go.Proofs.YtldhfdagmaklaaaDoor.VM
open Go Go.Proofs AM
set_option maxRecDepth 100000
def wc (n : Nat) : List V := [.lit (.int .u64 n)]
attribute [simp] wc
/-- A set in memory: to be read. -/
def SetV (H : Hp) (g : Nat) (m : List Bool) : Prop := m.length ≤ 2048 ∧ ∃ r1 gw v r2 t, H[g]? = some (.mem [i6 m.length, .own gw v] r1) ∧ H[gw]? = some (.vec v ((words m).map wc) 1 r2 t)
theorem SetV.lock {H : Hp} {g : Nat} {m : List Bool} (h : SetV H g m) : SetV (lockV H) g m := by
  obtain ⟨h0, r1, gw, v, r2, t, h1, h2⟩ := h
  exact ⟨h0, false, gw, v, false, t, by simp [lockV, h1, Ob.lock], by simp [lockV, h2, Ob.lock]⟩
theorem SetV.app {H X : Hp} {g : Nat} {m : List Bool} (h : SetV H g m) : SetV (H ++ X) g m := by
  obtain ⟨h0, r1, gw, v, r2, t, h1, h2⟩ := h
  exact ⟨h0, r1, gw, v, r2, t, by rw [List.getElem?_append_left (get_lt h1)]; exact h1, by rw [List.getElem?_append_left (get_lt h2)]; exact h2⟩
/-- A call that reads. -/
theorem CALLv.rd {S : Hp → Prop} {q : Bool} {f : FuncId} {args : List V} {v : V} {H : Hp} {k : KVV} (hl : S H → S (lockV H)) (h : ∀ H, S H → VC Tryd.prog prims f args H fun u T => u = v ∧ T = H) (hS : S H) (hk : k.run v H) : @CALLv Tryd.prog prims q f args H k := by
  refine ⟨H, .refl, ?_⟩
  cases q with
  | false => exact (h H hS).mono fun u T ⟨e1, e2⟩ => by subst e2; subst e1; exact hk
  | true => exact (h (lockV H) (hl hS)).mono fun u T ⟨e1, e2⟩ => by subst e2; subst e1; exact ⟨[], by simp, by simp, by simpa using hk⟩
/-- A reading of a set. -/
def RdS (f : FuncId) (g : Nat) (m : List Bool) (xs : List V) (v : V) : Prop := ∀ H, SetV H g m → VC Tryd.prog prims f (.ptr g 0 :: xs) H fun u T => u = v ∧ T = H
theorem RdS.call {q : Bool} {f : FuncId} {g : Nat} {m : List Bool} {xs : List V} {v : V} {H : Hp} {k : KVV} (h : RdS f g m xs v) (hS : SetV H g m) (hk : k.run v H) : @CALLv Tryd.prog prims q f (.ptr g 0 :: xs) H k := CALLv.rd (S := fun H => SetV H g m) SetV.lock h hS hk
def nilP : V := .lit (.pointer none)
attribute [simp] nilP
def mayM (m : List Bool) (no : Int) : Bool := decide (0 ≤ no ∧ no < m.length)
def hasM (m : List Bool) (no : Int) : Bool := mayM m no && m.getD no.toNat false
theorem v_may0 {no : Int} : A 32 [nilP, i6 no] (bo false) := by
  intro H
  refine v_enter hC [] (fun _ _ => kn_none rfl) Tryd.func32 rfl ok32 (Nat.le_of_ble_eq_true rfl) fun hcl hbl => ?_
  simp [Tryd.results32]
  first | (refine GV.ans hcl ?_; simp []; done) | (refine GV.ans0 ?_; simp []; done)
theorem v_may {g : Nat} {m : List Bool} {no : Int} : RdS 32 g m [i6 no] (bo (mayM m no)) := by
  rintro H ⟨h0, r1, gw, v, r2, t, h1, h2⟩
  refine v_enter hC [] (fun _ _ => kn_none rfl) Tryd.func32 rfl ok32 (Nat.le_of_ble_eq_true rfl) fun hcl hbl => ?_
  simp [h1]
  refine GuardR.dec (fun h => ?_) (fun h => ?_)
  · simp [h, h1, Tryd.results32]
    first | (refine GV.ans hcl ?_; simp [mayM, h]; done) | (refine GV.ans0 ?_; simp [mayM, h]; done)
  · simp [h, Tryd.results32]
    first | (refine GV.ans hcl ?_; simp [mayM, h]; done) | (refine GV.ans0 ?_; simp [mayM, h]; done)
theorem v_Has {g : Nat} {m : List Bool} {no : Int} : RdS 11 g m [i6 no] (bo (hasM m no)) := by
  intro H hS
  have hS' := hS
  obtain ⟨h0, r1, gw, v, r2, t, h1, h2⟩ := hS'
  refine v_enter hC [] (fun _ _ => kn_none rfl) Tryd.func11 rfl ok11 (Nat.le_of_ble_eq_true rfl) fun hcl hbl => ?_
  simp
  refine (v_may (no := no)).call hS ?_
  simp
  cases hm : mayM m no with
  | false =>
    simp [hm, Tryd.results11]
    first | (refine GV.ans hcl ?_; simp [hasM, hm]; done) | (refine GV.ans0 ?_; simp [hasM, hm]; done)
  | true =>
    obtain ⟨k, hk, hkm⟩ : ∃ k : Nat, no = (k : Int) ∧ k < m.length := by
      have := of_decide_eq_true hm
      exact ⟨no.toNat, by omega, by omega⟩
    subst hk
    have hw : k / 64 < nw m.length := by unfold nw; omega
    have hwl : k / 64 < (words m).length := by rw [words_len]; exact hw
    have d1 : IntKind.i64.wrap ((k : Int) / 64) = (k : Int) / 64 := w64 (by omega)
    have d2 : ((k : Int)).tmod 64 = (k : Int) % 64 := Int.tmod_eq_emod_of_nonneg (by omega)
    have d3 : ¬ (k : Int) % 64 < 0 := by omega
    have d4 : (0 : Int) ≤ (k : Int) / 64 := by omega
    have d5 : ((k : Int) / 64).toNat = k / 64 := by omega
    have d6 : min ((k : Int) % 64).toNat IntKind.u64.bits = k % 64 := by simp [IntKind.bits]; omega
    have d7 : (words m)[k / 64] = wd m (k / 64) := by simp [words]
    have d8 := u64_bit (wd_lt m (k / 64)) (k % 64)
    rw [wd_num] at d8
    simp [hm, h1, h2, hwl, d1, d2, d3, d4, d5, d6, d7, u64_shr, d8, Tryd.results11]
    refine GV.ans0 ?_
    simp [hasM, hm]
/-- One number more or fewer; how many there were. -/
def flip1 (b : Bool) (m : List Bool) (no : Int) : List Bool := if mayM m no && (m.getD no.toNat false != b) then m.set no.toNat b else m
def flipM (b : Bool) (m : List Bool) (l : List Int) : List Bool := l.foldl (flip1 b) m
def flipN (b : Bool) : List Bool → List Int → Nat
  | _, [] => 0
  | m, no :: l => (if mayM m no && (m.getD no.toNat false != b) then 1 else 0) + flipN b (flip1 b m no) l
theorem flip1_len (b : Bool) (m : List Bool) (no : Int) : (flip1 b m no).length = m.length := by unfold flip1; split <;> simp
theorem flipM_len (b : Bool) : ∀ (l : List Int) (m : List Bool), (flipM b m l).length = m.length
  | [], m => rfl
  | no :: l, m => by show (flipM b (flip1 b m no) l).length = _; rw [flipM_len b l, flip1_len]
theorem flipN_le (b : Bool) : ∀ (l : List Int) (m : List Bool), flipN b m l ≤ l.length
  | [], m => Nat.le_refl _
  | no :: l, m => by
    have := flipN_le b l (flip1 b m no)
    simp only [flipN, List.length_cons]
    split <;> omega
theorem flip_no {b : Bool} {m : List Bool} {no : Int} {l : List Int} (h : (mayM m no && (m.getD no.toNat false != b)) = false) : flip1 b m no = m ∧ flipN b m (no :: l) = flipN b m l := by
  have h1 : flip1 b m no = m := by unfold flip1; rw [h]; rfl
  refine ⟨h1, ?_⟩
  show (if _ then 1 else 0) + _ = _
  rw [h, h1]
  simp
theorem flip_yes {b : Bool} {m : List Bool} {no : Int} {l : List Int} (h : (mayM m no && (m.getD no.toNat false != b)) = true) : flip1 b m no = m.set no.toNat b ∧ flipN b m (no :: l) = 1 + flipN b (flip1 b m no) l := by
  have h1 : flip1 b m no = m.set no.toNat b := by unfold flip1; rw [if_pos h]
  refine ⟨h1, ?_⟩
  show (if _ then 1 else 0) + _ = _
  rw [if_pos h]
/-- A set that is one's own. -/
def SetW (H : Hp) (g gw v : Nat) (t : Bool) (m : List Bool) : Prop := m.length ≤ 2048 ∧ H[g]? = some (.mem [i6 m.length, .own gw v] true) ∧ H[gw]? = some (.vec v ((words m).map wc) 1 true t)
theorem SetW.v {H : Hp} {g gw v : Nat} {t : Bool} {m : List Bool} (h : SetW H g gw v t m) : SetV H g m := ⟨h.1, true, gw, v, true, t, h.2.1, h.2.2⟩
def putW (H : Hp) (gw v : Nat) (t : Bool) (m : List Bool) : Hp := H.set gw (.vec v ((words m).map wc) 1 true t)
theorem SetW.put {H : Hp} {g gw v : Nat} {t : Bool} {m m' : List Bool} (h : SetW H g gw v t m) (hm : m'.length = m.length) : SetW (putW H gw v t m') g gw v t m' := by
  obtain ⟨h0, h1, h2⟩ := h
  have hne : gw ≠ g := fun e => by rw [e, h1] at h2; cases h2
  exact ⟨by omega, by unfold putW; rw [List.getElem?_set_ne hne, hm]; exact h1, by unfold putW; rw [List.getElem?_set_self (get_lt h2)]⟩
theorem putW_put {H : Hp} {gw v : Nat} {t : Bool} {m m' : List Bool} : putW (putW H gw v t m) gw v t m' = putW H gw v t m' := by unfold putW; rw [List.set_set]
theorem SetW.self {H : Hp} {g gw v : Nat} {t : Bool} {m : List Bool} (h : SetW H g gw v t m) : putW H gw v t m = H := set_self h.2.2
theorem v_flip {H : Hp} {g gw v : Nat} {t : Bool} {m : List Bool} {kk b : Bool} {l : List Int} (hS : SetW H g gw v t m) (hl : l.length < 2 ^ 48) :
    VC Tryd.prog prims 49 [.ptr g 0, IS kk l, bo b] H fun u T => u = i6 (flipN b m l) ∧ T = putW H gw v t (flipM b m l) := by
  refine v_enter hC [] (fun _ _ => kn_none rfl) Tryd.func49 rfl ok49 (Nat.le_of_ble_eq_true rfl) fun hcl hbl => ?_
  simp
  refine v_loopX hC (fun (k : Nat) e T => T = putW H gw v t (flipM b m (l.take k)) ∧ e 0 = .ptr g 0 ∧ e 2 = bo b ∧ e 10 = IS kk l ∧ e 11 = i6 l.length ∧ e 12 = i6 k ∧ k ≤ l.length ∧ ∃ n : Nat, n ≤ k ∧ e 7 = i6 n ∧ flipN b m l = n + flipN b (flipM b m (l.take k)) (l.drop k)) (fun k => l.length - k) 0 (G.refl ?_) ?_
  · simp [hS.self, flipM]
  · rintro k e T ⟨rfl, h0, h2, h10, h11, h12, hk, n, hn, h7, hv⟩
    simp [h11, h12]
    refine CondV.dec (fun hlt => ?_) (fun hge => ?_)
    · have hlt : k < l.length := by omega
      obtain ⟨M, hM⟩ : ∃ M, flipM b m (l.take k) = M := ⟨_, rfl⟩
      have hMl : M.length = m.length := by rw [← hM, flipM_len]
      obtain ⟨no, hno⟩ : ∃ no, l[k] = no := ⟨_, rfl⟩
      have hM1 : flipM b m (l.take (k + 1)) = flip1 b M no := by
        rw [List.take_add_one, List.getElem?_eq_getElem hlt, hno]
        show List.foldl _ _ _ = _
        rw [List.foldl_append]
        show List.foldl _ (flipM b m (l.take k)) _ = _
        rw [hM]
        rfl
      rw [hM] at hv ⊢
      rw [List.drop_eq_getElem_cons hlt, hno] at hv
      have hW : SetW (putW H gw v t M) g gw v t M := hS.put hMl
      simp [h0, h2, h10, h12, getL hlt, hno]
      refine (v_may (no := no)).call hW.v ?_
      simp
      cases hm : mayM M no with
      | false =>
        obtain ⟨f1, f2⟩ := flip_no (b := b) (m := M) (no := no) (l := l.drop (k + 1)) (by rw [hm]; rfl)
        rw [f1] at hM1
        simp [hm, h7, h12, w64 (n := (k : Int) + 1) (by omega)]
        refine GH.refl ⟨k + 1, ⟨by rw [hM1], by simp [h0], by simp [h2], by simp [h10], by simp [h11], by simp, by omega, n, by omega, by simp [h7], by rw [hM1, hv, f2]⟩, by omega⟩
      | true =>
        simp [hm, h0]
        refine (v_Has (no := no)).call hW.v ?_
        simp [h2, hasM, hm]
        refine CondV.on (fun hd => ?_) (fun hd => ?_)
        · obtain ⟨f1, f2⟩ := flip_yes (b := b) (m := M) (no := no) (l := l.drop (k + 1)) (by rw [hm]; simpa using hd)
          rw [f1] at hM1 f2
          obtain ⟨j, rfl, hj⟩ : ∃ j : Nat, no = (j : Int) ∧ j < M.length := by
            have := of_decide_eq_true hm
            exact ⟨no.toNat, by omega, by omega⟩
          have hws := words_set M j b hj (by simpa using hd)
          simp only [Int.toNat_natCast] at hM1 f2
          rw [← hM1] at hws f2
          have hwl : j / 64 < (words M).length := by rw [words_len]; unfold nw; omega
          have d1 : IntKind.i64.wrap ((j : Int) / 64) = (j : Int) / 64 := w64 (by have := hS.1; omega)
          have d2 : ((j : Int)).tmod 64 = (j : Int) % 64 := Int.tmod_eq_emod_of_nonneg (by omega)
          have d3 : ¬ (j : Int) % 64 < 0 := by omega
          have d4 : (0 : Int) ≤ (j : Int) / 64 := by omega
          have d5 : ((j : Int) / 64).toNat = j / 64 := by omega
          have d6 : min ((j : Int) % 64).toNat IntKind.u64.bits = j % 64 := by simp [IntKind.bits]; omega
          have d7 : (words M)[j / 64] = wd M (j / 64) := by simp [words]
          obtain ⟨X, hX⟩ : ∃ X, wd M (j / 64) ^^^ 2 ^ (j % 64) = X := ⟨_, rfl⟩
          have d8 : bits BinOp.xor IntKind.u64 (wd M (j / 64) : Int) (IntKind.u64.wrap (2 ^ (j % 64))) = (X : Int) := by
            have hp : 2 ^ (j % 64) < 18446744073709551616 := Nat.lt_of_lt_of_le (Nat.pow_lt_pow_right (by omega) (show j % 64 < 64 by omega)) (by decide)
            rw [← hX, ← u64_xor (wd_lt _ _) hp, show (2 : Int) ^ (j % 64) = ((2 ^ (j % 64) : Nat) : Int) by simp, wrap64 hp]
          rw [hX] at hws
          have hrow : (List.map wc (words M)).set (j / 64) [.lit (.int .u64 X)] = (words (flipM b m (l.take (k + 1)))).map wc := by rw [hws, List.map_set]; rfl
          have hput : (putW H gw v t M).set gw (.vec v ((words (flipM b m (l.take (k + 1)))).map wc) 1 true t) = putW H gw v t (flipM b m (l.take (k + 1))) := putW_put
          obtain ⟨q0, q1, q2⟩ := hW
          simp
          refine v_draw (ord := [0, 1, 2, 3, 4, 5, 6, 7, 8, 9, 10, 11, 12, 13]) (m := 0) (by decide +kernel) (by decide +kernel) ?_
          simp [h0, h2, h7, h12, q1, q2, hwl, d1, d2, d3, d4, d5, d6, d7, d8, hrow, hput, w64 (n := (k : Int) + 1) (by omega), w64 (n := (n : Int) + 1) (by omega)]
          refine GH.refl ⟨k + 1, ⟨rfl, by simp [h0], by simp [h2], by simp [h10], by simp [h11], by simp, by omega, n + 1, by omega, by simp, by rw [hv, f2]; omega⟩, by omega⟩
        · obtain ⟨f1, f2⟩ := flip_no (b := b) (m := M) (no := no) (l := l.drop (k + 1)) (by rw [hm]; simpa using hd)
          rw [f1] at hM1
          simp [h7, h12, w64 (n := (k : Int) + 1) (by omega)]
          refine GH.refl ⟨k + 1, ⟨by rw [hM1], by simp [h0], by simp [h2], by simp [h10], by simp [h11], by simp, by omega, n, by omega, by simp [h7], by rw [hM1, hv, f2]⟩, by omega⟩
    · have hk : k = l.length := by omega
      subst hk
      simp [h7, Tryd.results49]
      refine GV.refl ⟨?_, ?_⟩
      · rw [hv]; simp [flipN]
      · simp
end Go.Proofs.YtldhfdagmaklaaaDoor.VM
end
section
set_option maxHeartbeats 8000000
set_option linter.unusedVariables false
set_option linter.unusedSimpArgs false

/- math/bits: OnesCount64, TrailingZeros64. -/
namespace Go.Proofs.YtldhfdagmaklaaaDoor.VM
open Go Go.Proofs AM
set_option maxRecDepth 100000
theorem u64_sh (a k : Nat) (hk : k ≤ 64) : Int.fdiv (a : Int) (2 ^ min k IntKind.u64.bits) = ((a / 2 ^ k : Nat) : Int) := by
  rw [show min k IntKind.u64.bits = k by simp [IntKind.bits]; omega, u64_shr, Nat.shiftRight_eq_div_pow]
theorem dv {a d r : Nat} (h : a < d) : (a + d * r) / d = r := by
  rw [Nat.add_mul_div_left _ _ (by omega), Nat.div_eq_of_lt h, Nat.zero_add]
theorem fold8 {x3 x4 x5 x6 a0 a1 a2 a3 a4 a5 a6 a7 : Nat} (hc : x3 = a0 + 256 * (a1 + 256 * (a2 + 256 * (a3 + 256 * (a4 + 256 * (a5 + 256 * (a6 + 256 * (a7 + 256 * 0))))))))
    (q0 : a0 ≤ 8) (q1 : a1 ≤ 8) (q2 : a2 ≤ 8) (q3 : a3 ≤ 8) (q4 : a4 ≤ 8) (q5 : a5 ≤ 8) (q6 : a6 ≤ 8) (q7 : a7 ≤ 8) (hx4 : x3 + x3 / 256 = x4) (hx5 : x4 + x4 / 65536 = x5) (hx6 : x5 + x5 / 4294967296 = x6) :
    x6 % 128 = a0 + a1 + a2 + a3 + a4 + a5 + a6 + a7 := by
  obtain ⟨r7, e7⟩ : ∃ r, a7 + 256 * 0 = r := ⟨_, rfl⟩
  rw [e7] at hc
  obtain ⟨r6, e6⟩ : ∃ r, a6 + 256 * r7 = r := ⟨_, rfl⟩
  rw [e6] at hc
  obtain ⟨r5, e5⟩ : ∃ r, a5 + 256 * r6 = r := ⟨_, rfl⟩
  rw [e5] at hc
  obtain ⟨r4, e4⟩ : ∃ r, a4 + 256 * r5 = r := ⟨_, rfl⟩
  rw [e4] at hc
  obtain ⟨r3, e3⟩ : ∃ r, a3 + 256 * r4 = r := ⟨_, rfl⟩
  rw [e3] at hc
  obtain ⟨r2, e2⟩ : ∃ r, a2 + 256 * r3 = r := ⟨_, rfl⟩
  rw [e2] at hc
  obtain ⟨r1, e1⟩ : ∃ r, a1 + 256 * r2 = r := ⟨_, rfl⟩
  rw [e1] at hc
  have d3 : x3 / 256 = r1 := by rw [hc]; exact dv (by omega)
  have h4 : x4 = (a0 + a1 + 256 * (a1 + a2)) + 65536 * (r2 + r3) := by
    rw [← hx4, d3, hc, ← e1, ← e2]
    clear hx4 hx5 hx6 d3 hc e7 e6 e5 e4
    omega
  have d4 : x4 / 65536 = r2 + r3 := by
    rw [h4]
    refine dv ?_
    clear hx4 hx5 hx6 d3 hc h4 e7 e6 e5 e4 e3 e2 e1
    omega
  have h5 : x5 = (a0 + a1 + a2 + a3 + 256 * (a1 + a2 + a3 + a4) + 65536 * (a2 + a3 + a4 + a5) + 16777216 * (a3 + a4 + a5 + a6)) + 4294967296 * (r4 + r5 + r6 + r7) := by
    rw [← hx5, d4, h4, ← e2, ← e3, ← e4, ← e5, ← e6]
    clear hx4 hx5 hx6 d3 hc h4 d4 e1 e2 e3 e4 e5 e6 e7 q0 q1 q2 q3 q4 q5 q6 q7
    omega
  have d5 : x5 / 4294967296 = r4 + r5 + r6 + r7 := by
    rw [h5]
    refine dv ?_
    clear hx4 hx5 hx6 d3 hc h4 d4 h5 e7 e6 e5 e4 e3 e2 e1
    omega
  have h6 : x6 = (a0 + a1 + a2 + a3 + a4 + a5 + a6 + a7) + 128 * (2 * (a1 + a2 + a3 + a4) + 512 * (a2 + a3 + a4 + a5) + 131072 * (a3 + a4 + a5 + a6) + 33554432 * (r4 + r5 + r6 + r7) + 2 * r5 + 2 * r6 + 2 * r7) := by
    rw [← hx6, d5, h5, ← e4, ← e5, ← e6, ← e7]
    clear hx4 hx5 hx6 d3 hc h4 d4 h5 d5 e1 e2 e3 e4 e5 e6 e7 q0 q1 q2 q3 q4 q5 q6 q7
    omega
  rw [h6, Nat.add_mul_mod_self_left]
  exact Nat.mod_eq_of_lt (by clear hx4 hx5 hx6 d3 hc h4 d4 h5 d5 h6 e7 e6 e5 e4 e3 e2 e1; omega)
theorem v_Ones {x : Nat} (hx : x < 18446744073709551616) : A 56 [.lit (.int .u64 x)] (i6 (pc 64 x)) := by
  intro H
  have hsum : x = x % 256 + 256 * (x / 256 % 256 + 256 * (x / 65536 % 256 + 256 * (x / 16777216 % 256 + 256 * (x / 4294967296 % 256 + 256 * (x / 1099511627776 % 256 + 256 * (x / 281474976710656 % 256 + 256 * (x / 72057594037927936 % 256 + 256 * 0))))))) := by omega
  have hb : ∀ n, n % 256 < 256 := fun n => Nat.mod_lt _ (by omega)
  have hc := count3 (hb _) (hb _) (hb _) (hb _) (hb _) (hb _) (hb _) (hb _) hsum
  have hp := pc_split (hb _) (hb _) (hb _) (hb _) (hb _) (hb _) (hb _) hsum
  have p8 : ∀ n, pc 8 (n % 256) ≤ 8 := fun n => (g_all ⟨n % 256, hb n⟩).2.2.2.2
  have q0 := p8 x
  have q1 := p8 (x / 256)
  have q2 := p8 (x / 65536)
  have q3 := p8 (x / 16777216)
  have q4 := p8 (x / 4294967296)
  have q5 := p8 (x / 1099511627776)
  have q6 := p8 (x / 281474976710656)
  have q7 := p8 (x / 72057594037927936)
  rw [hp]
  clear hsum hp p8
  generalize pc 8 (x % 256) = a0 at *
  generalize pc 8 (x / 256 % 256) = a1 at *
  generalize pc 8 (x / 65536 % 256) = a2 at *
  generalize pc 8 (x / 16777216 % 256) = a3 at *
  generalize pc 8 (x / 4294967296 % 256) = a4 at *
  generalize pc 8 (x / 1099511627776 % 256) = a5 at *
  generalize pc 8 (x / 281474976710656 % 256) = a6 at *
  generalize pc 8 (x / 72057594037927936 % 256) = a7 at *
  dsimp only at hc
  obtain ⟨x1, hx1⟩ : ∃ x1, (x / 2 &&& 6148914691236517205) + (x &&& 6148914691236517205) = x1 := ⟨_, rfl⟩
  rw [hx1] at hc
  obtain ⟨x2, hx2⟩ : ∃ x2, (x1 / 4 &&& 3689348814741910323) + (x1 &&& 3689348814741910323) = x2 := ⟨_, rfl⟩
  rw [hx2] at hc
  obtain ⟨x3, hx3⟩ : ∃ x3, (x2 / 16 + x2) &&& 1085102592571150095 = x3 := ⟨_, rfl⟩
  rw [hx3] at hc
  obtain ⟨l1, l2, l3, hc⟩ := hc
  have F1 : IntKind.u64.wrap (bits BinOp.and IntKind.u64 ((x : Int).fdiv (2 ^ min 1 IntKind.u64.bits)) 6148914691236517205 + bits BinOp.and IntKind.u64 (x : Int) 6148914691236517205) = (x1 : Int) := by
    rw [u64_sh _ _ (by omega), show (6148914691236517205 : Int) = ((6148914691236517205 : Nat) : Int) from rfl, u64_and (by omega) (by omega), u64_and hx (by omega), ← Int.natCast_add]
    simp only [Nat.pow_one]
    rw [hx1, wrap64 l1]
  have F2 : IntKind.u64.wrap (bits BinOp.and IntKind.u64 ((x1 : Int).fdiv (2 ^ min 2 IntKind.u64.bits)) 3689348814741910323 + bits BinOp.and IntKind.u64 (x1 : Int) 3689348814741910323) = (x2 : Int) := by
    rw [u64_sh _ _ (by omega), show (3689348814741910323 : Int) = ((3689348814741910323 : Nat) : Int) from rfl, u64_and (by omega) (by omega), u64_and l1 (by omega), ← Int.natCast_add]
    simp only [Nat.reducePow]
    rw [hx2, wrap64 l2]
  have F3 : bits BinOp.and IntKind.u64 (IntKind.u64.wrap ((x2 : Int).fdiv (2 ^ min 4 IntKind.u64.bits) + (x2 : Int))) 1085102592571150095 = (x3 : Int) := by
    rw [u64_sh _ _ (by omega), ← Int.natCast_add]
    simp only [Nat.reducePow]
    rw [wrap64 l3, show (1085102592571150095 : Int) = ((1085102592571150095 : Nat) : Int) from rfl, u64_and l3 (by omega), hx3]
  obtain ⟨x4, hx4⟩ : ∃ x4, x3 + x3 / 256 = x4 := ⟨_, rfl⟩
  obtain ⟨x5, hx5⟩ : ∃ x5, x4 + x4 / 65536 = x5 := ⟨_, rfl⟩
  obtain ⟨x6, hx6⟩ : ∃ x6, x5 + x5 / 4294967296 = x6 := ⟨_, rfl⟩
  have b3 : x3 ≤ 578721382704613384 := by omega
  have b4 : x4 ≤ 600000000000000000 := by omega
  have b5 : x5 ≤ 700000000000000000 := by omega
  have b6 : x6 ≤ 800000000000000000 := by omega
  have F4 : IntKind.u64.wrap ((x3 : Int) + (x3 : Int).fdiv (2 ^ min 8 IntKind.u64.bits)) = (x4 : Int) := by
    rw [u64_sh _ _ (by omega), ← Int.natCast_add]
    simp only [Nat.reducePow]
    rw [hx4, wrap64 (by omega)]
  have F5 : IntKind.u64.wrap ((x4 : Int) + (x4 : Int).fdiv (2 ^ min 16 IntKind.u64.bits)) = (x5 : Int) := by
    rw [u64_sh _ _ (by omega), ← Int.natCast_add]
    simp only [Nat.reducePow]
    rw [hx5, wrap64 (by omega)]
  have F6 : IntKind.u64.wrap ((x5 : Int) + (x5 : Int).fdiv (2 ^ min 32 IntKind.u64.bits)) = (x6 : Int) := by
    rw [u64_sh _ _ (by omega), ← Int.natCast_add]
    simp only [Nat.reducePow]
    rw [hx6, wrap64 (by omega)]
  have e7 := fold8 hc q0 q1 q2 q3 q4 q5 q6 q7 hx4 hx5 hx6
  have F7 : bits BinOp.and IntKind.i64 (IntKind.i64.wrap (x6 : Int)) 127 = ((a0 + a1 + a2 + a3 + a4 + a5 + a6 + a7 : Nat) : Int) := by
    rw [w64 (by omega), ← e7]
    show IntKind.i64.wrap (((BitVec.ofInt 64 (x6 : Int) &&& BitVec.ofInt 64 ((127 : Nat) : Int)).toNat : Nat) : Int) = _
    rw [bv64, bv64, BitVec.toNat_and, BitVec.toNat_ofNat, BitVec.toNat_ofNat, Nat.mod_eq_of_lt (by omega), Nat.mod_eq_of_lt (by omega), show (127 : Nat) = 2 ^ 7 - 1 from rfl, Nat.and_two_pow_sub_one_eq_mod]
    exact w64 (by omega)
  refine v_enter hC [] (fun _ _ => kn_none rfl) Tryd.func56 rfl ok56 (Nat.le_of_ble_eq_true rfl) fun hcl hbl => ?_
  simp [F1, F2, F3, F4, F5, F6, F7, Tryd.results56]
  first | (refine GV.ans hcl ?_; simp []; done) | (refine GV.ans0 ?_; simp []; done)
def tabN : List Nat := [0, 1, 56, 2, 57, 49, 28, 3, 61, 58, 42, 50, 38, 29, 17, 4, 62, 47, 59, 36, 45, 43, 51, 22, 53, 39, 33, 30, 24, 18, 12, 5, 63, 55, 48, 27, 60, 41, 37, 16, 46, 35, 44, 21, 52, 32, 23, 11, 54, 26, 40, 15, 34, 20, 31, 10, 25, 14, 19, 9, 13, 8, 7, 6]
def tab64 : List Value := tabN.map fun n => .int .u8 (n : Nat)
theorem gV_tab : gV 0 = .fptr (tab64.map .lit) := rfl
theorem tab_at : ∀ k : Fin 64, tabN[(2 ^ (k : Nat) * 285870213051353865 % 18446744073709551616) / 288230376151711744]? = some (k : Nat) := by decide +kernel
theorem tz_at {k : Nat} (hk : k < 64) : ∃ y : Nat, (IntKind.u64.wrap (((2 ^ k : Nat) : Int) * 285870213051353865)).fdiv (2 ^ min 58 IntKind.u64.bits) = (y : Int) ∧ y < 64 ∧ tab64[y]? = some (.int .u8 k) := by
  have ht := tab_at ⟨k, hk⟩
  dsimp only at ht
  generalize 2 ^ k = z at *
  have h1 : IntKind.u64.wrap ((z : Int) * 285870213051353865) = ((z * 285870213051353865 % 18446744073709551616 : Nat) : Int) := by
    simp [IntKind.wrap, IntKind.bits, IntKind.signed]
  obtain ⟨u, hu⟩ : ∃ u, z * 285870213051353865 % 18446744073709551616 = u := ⟨_, rfl⟩
  have hul : u < 18446744073709551616 := by rw [← hu]; exact Nat.mod_lt _ (by decide)
  rw [hu] at h1 ht
  rw [h1, u64_sh _ _ (by omega)]
  refine ⟨u / 2 ^ 58, rfl, ?_, ?_⟩
  · rw [Nat.div_lt_iff_lt_mul (by decide)]; exact hul
  · rw [show (2 : Nat) ^ 58 = 288230376151711744 by decide]
    simp [tab64, ht]
theorem v_TZ {k q : Nat} (hk : k < 64) (hx : 2 ^ k * (2 * q + 1) < 18446744073709551616) : A 55 [.lit (.int .u64 ((2 ^ k * (2 * q + 1) : Nat) : Int))] (i6 k) := by
  intro H
  have hpos : 0 < 2 ^ k * (2 * q + 1) := Nat.mul_pos (Nat.two_pow_pos k) (by omega)
  have hl := low_neg hk hx
  generalize 2 ^ k * (2 * q + 1) = x at hx hpos hl
  refine v_enter hC [] (fun _ _ => kn_none rfl) Tryd.func55 rfl ok55 (Nat.le_of_ble_eq_true rfl) fun hcl hbl => ?_
  have t1 : bits BinOp.and IntKind.u64 (x : Int) (IntKind.u64.wrap (-(x : Int))) = ((2 ^ k : Nat) : Int) := by
    have : IntKind.u64.wrap (-(x : Int)) = ((18446744073709551616 - x : Nat) : Int) := by
      simp [IntKind.wrap, IntKind.bits, IntKind.signed]; omega
    rw [this, u64_and hx (by omega), hl]
  obtain ⟨y, t2, t3, t4⟩ := tz_at hk
  rw [← t1] at t2
  have t5 : tab64.length = 64 := rfl
  have t6 : tab64[y]'(by rw [t5]; exact t3) = .int .u8 (k : Int) := (List.getElem?_eq_some_iff.1 t4).2
  have t7 : IntKind.i64.wrap (k : Int) = k := w64 (by omega)
  have t8 : y ≤ 64 := by omega
  simp [show ¬ x = 0 by omega, gV_tab, t2, t3, t5, t6, t7, t8, Tryd.results55]
  first | (refine GV.ans hcl ?_; simp []; done) | (refine GV.ans0 ?_; simp []; done)
end Go.Proofs.YtldhfdagmaklaaaDoor.VM
end
section
set_option maxHeartbeats 8000000
set_option linter.unusedVariables false
set_option linter.unusedSimpArgs false

/- bitmap: New, Copy, Size, Count, All. -/
namespace Go.Proofs.YtldhfdagmaklaaaDoor.VM
open Go Go.Proofs AM
set_option maxRecDepth 100000
/-- Two new objects are kept. -/
theorem GV.keep2 {H : Hp} {x : V} {R : V → Hp → Prop} {X : Hp} (g1 g2 : Nat) (y1 y2 : Ob) (v : V) (hcl : Cl H) (hne : g1 ≠ g2) (hg1 : ∃ z, (H ++ X)[g1]? = some z ∧ H.length ≤ g1 ∧ UpO H.length [g1, g2] [] (H ++ X) y1 z) (hg2 : ∃ z, (H ++ X)[g2]? = some z ∧ H.length ≤ g2 ∧ UpO H.length [g1, g2] [] (H ++ X) y2 z)
    (hup : Up H.length [g1, g2] [] (H ++ X) v x) (h : R v (H ++ [y1, y2])) : GV H.length R x (H ++ X) := fun K φ σ a hR hv => by
  obtain ⟨z1, hz1, hl1, hy1⟩ := hg1
  obtain ⟨z2, hz2, hl2, hy2⟩ := hg2
  have k1 := get_lt hz1
  have k2 := get_lt hz2
  obtain ⟨K', φ', h1, h2, h3⟩ := ghostA (L := [g1, g2]) (E := []) (H0 := H) (Z := []) (Z' := []) (X := X) (Y := [y1, y2]) hR hcl (by simp) (by
      intro g hg
      simp only [List.mem_cons, List.not_mem_nil, or_false] at hg
      simp only [List.length_nil, Nat.add_zero, List.nil_append]
      rcases hg with rfl | rfl
      · exact ⟨hl1, k1⟩
      · exact ⟨hl2, k2⟩) (by simp) (by simp [hne]) rfl rfl (fun j g' x' y' hj hx hy => by
    have hj2 := get_lt hj
    simp at hj2
    rcases (show j = 0 ∨ j = 1 by omega) with rfl | rfl
    · simp at hj hy
      subst hj; subst hy
      rw [hz1] at hx; cases hx
      exact hy1
    · simp at hj hy
      subst hj; subst hy
      rw [hz2] at hx; cases hx
      exact hy2)
  simp only [List.map_nil, List.append_nil, List.length_nil, Nat.add_zero, List.nil_append] at h1 h2 h3
  exact ⟨K', φ', v, H ++ [y1, y2], h1, h2, h3 hup hv, h⟩
/-- The objects of a set. -/
def setO (n w : Nat) (t : Bool) (m : List Bool) : Hp := [.mem [i6 m.length, .own (n + 1) w] true, .vec w ((words m).map wc) 1 true t]
def AnsS (f : FuncId) (args : List V) (v : Nat → V) (m : List Bool) : Prop := ∀ H, VC Tryd.prog prims f args H fun u T => ∃ w t, u = v H.length ∧ T = H ++ setO H.length w t m
theorem AnsS.call {q : Bool} {f : FuncId} {args : List V} {v : Nat → V} {m : List Bool} {H : Hp} (h : AnsS f args v m) {k : KVV} (hk : ∀ w t, k.run (v H.length) (H ++ setO H.length w t m)) : @CALLv Tryd.prog prims q f args H k := by
  refine ⟨H, .refl, ?_⟩
  cases q with
  | false => exact (h H).mono fun u T ⟨w, t, e1, e2⟩ => by subst e2; subst e1; exact hk w t
  | true =>
    refine (h (lockV H)).mono fun u T hu => ?_
    obtain ⟨w, t, e1, e2⟩ := hu
    subst e2; subst e1
    have hl : (lockV H).length = H.length := by simp [lockV]
    exact ⟨setO (lockV H).length w t m, rfl, by simp [setO, Ob.rwOk], by rw [hl]; exact hk w t⟩
theorem setO_w {H X : Hp} {w : Nat} {t : Bool} {m : List Bool} (hm : m.length ≤ 2048) : SetW (H ++ (setO H.length w t m ++ X)) H.length (H.length + 1) w t m :=
  ⟨hm, by simp [setO], by simp [setO]⟩
theorem GV.set {H X : Hp} {x v : V} {g1 g2 w : Nat} {t : Bool} {m : List Bool} {R : V → Hp → Prop} (hcl : Cl H) (h1 : (H ++ X)[g1]? = some (.mem [i6 m.length, .own g2 w] true)) (h2 : (H ++ X)[g2]? = some (.vec w ((words m).map wc) 1 true t)) (l1 : H.length ≤ g1) (l2 : H.length ≤ g2)
    (hup : Up H.length [g1, g2] [] (H ++ X) v x) (h : R v (H ++ setO H.length w t m)) : GV H.length R x (H ++ X) :=
  GV.keep2 g1 g2 (.mem [i6 m.length, .own (H.length + 1) w] true) (.vec w ((words m).map wc) 1 true t) v hcl (fun e => by subst e; rw [h1] at h2; cases h2)
    ⟨_, h1, l1, by simp⟩ ⟨_, h2, l2, by simp [pureVs, pureV]⟩ hup h
theorem v_Add {H : Hp} {g gw v : Nat} {t : Bool} {m : List Bool} {kk : Bool} {l : List Int} (hS : SetW H g gw v t m) (hl : l.length < 2 ^ 48) :
    VC Tryd.prog prims 30 [.ptr g 0, IS kk l] H fun u T => u = i6 (flipN true m l) ∧ T = putW H gw v t (flipM true m l) := by
  refine v_enter hC [] (fun _ _ => kn_none rfl) Tryd.func30 rfl ok30 (Nat.le_of_ble_eq_true rfl) fun hcl hbl => ?_
  simp
  refine CALLv.at (v_flip (kk := kk) (b := true) hS hl) fun u T hu => ?_
  obtain ⟨e1, e2⟩ := hu
  subst e1; subst e2
  simp [Tryd.results30]
  exact GV.refl ⟨rfl, rfl⟩
theorem v_Drop {H : Hp} {g gw v : Nat} {t : Bool} {m : List Bool} {kk : Bool} {l : List Int} (hS : SetW H g gw v t m) (hl : l.length < 2 ^ 48) :
    VC Tryd.prog prims 36 [.ptr g 0, IS kk l] H fun u T => u = i6 (flipN false m l) ∧ T = putW H gw v t (flipM false m l) := by
  refine v_enter hC [] (fun _ _ => kn_none rfl) Tryd.func36 rfl ok36 (Nat.le_of_ble_eq_true rfl) fun hcl hbl => ?_
  simp
  refine CALLv.at (v_flip (kk := kk) (b := false) hS hl) fun u T hu => ?_
  obtain ⟨e1, e2⟩ := hu
  subst e1; subst e2
  simp [Tryd.results36]
  exact GV.refl ⟨rfl, rfl⟩
def newM (n : Nat) (l : List Int) : List Bool := flipM true (List.replicate n false) l
theorem newM_len (n : Nat) (l : List Int) : (newM n l).length = n := by unfold newM; rw [flipM_len]; simp
theorem v_New0 {kk : Bool} {n : Int} {l : List Int} (hn : n < 1 ∨ 2048 < n) : A 47 [i6 n, IS kk l] (.tup [nilP, i6 1]) := by
  intro H
  refine v_enter hC [] (fun _ _ => kn_none rfl) Tryd.func47 rfl ok47 (Nat.le_of_ble_eq_true rfl) fun hcl hbl => ?_
  simp
  by_cases hc : n < 1
  · simp [hc, Tryd.results47]
    first | (refine GV.ans hcl ?_; simp []; done) | (refine GV.ans0 ?_; simp []; done)
  · have hd : 2048 < n := by omega
    simp [hc, hd, Tryd.results47]
    first | (refine GV.ans hcl ?_; simp []; done) | (refine GV.ans0 ?_; simp []; done)
theorem v_New {kk : Bool} {n : Nat} {l : List Int} (hn : 1 ≤ n) (hn1 : n ≤ 2048) (hl : l.length < 2 ^ 48) : AnsS 47 [i6 n, IS kk l] (fun g => .tup [.ptr g 0, i6 0]) (newM n l) := by
  intro H
  refine v_enter hC [] (fun _ _ => kn_none rfl) Tryd.func47 rfl ok47 (Nat.le_of_ble_eq_true rfl) fun hcl hbl => ?_
  have a1 : ¬ (n : Int) < 1 := by omega
  have a2 : ¬ 2048 < (n : Int) := by omega
  have a3 : ((n : Int) + 64 - 1).tdiv 64 = ((nw n : Nat) : Int) := by unfold nw; rw [Int.tdiv_eq_ediv_of_nonneg (by omega)]; omega
  have a4 : nw n ≤ 32 := by unfold nw; omega
  have a5 : IntKind.i64.wrap ((n : Int) + 64) = (n : Int) + 64 := w64 (by omega)
  have a6 : IntKind.i64.wrap ((n : Int) + 64 - 1) = (n : Int) + 64 - 1 := w64 (by omega)
  have a7 : IntKind.i64.wrap ((nw n : Nat) : Int) = ((nw n : Nat) : Int) := w64 (by omega)
  simp [a1, a2, a3, a5, a6, a7]
  refine ⟨by omega, CALLv.at (v_Add (g := H.length + 1) (gw := H.length) (v := 0) (t := true) (m := List.replicate n false) (kk := kk) ⟨by simpa using hn1, by simp, by simp [words_zero]⟩ hl) fun u T hu => ?_⟩
  obtain ⟨e1, e2⟩ := hu
  subst e1; subst e2
  have hput : putW (H ++ [.vec 0 (List.replicate (nw n) [.lit (.int .u64 0)]) 1 true true, .mem [.lit (.int .i64 n), .own H.length 0] true]) H.length 0 true (newM n l) = H ++ [.vec 0 ((words (newM n l)).map wc) 1 true true, .mem [.lit (.int .i64 n), .own H.length 0] true] := by
    unfold putW
    rw [List.set_append_right _ _ (Nat.le_refl _)]
    simp
  rw [show flipM true (List.replicate n false) l = newM n l from rfl, hput]
  simp [Tryd.results47]
  refine GV.set (m := newM n l) (g1 := H.length + 1) (g2 := H.length) (w := 0) (t := true) (v := .tup [.ptr H.length 0, i6 0]) hcl (by simp [newM_len]) (by simp) (by omega) (by omega) (by simp) ⟨0, true, rfl, rfl⟩
theorem v_Copy0 : A 50 [nilP] nilP := by
  intro H
  refine v_enter hC [] (fun _ _ => kn_none rfl) Tryd.func50 rfl ok50 (Nat.le_of_ble_eq_true rfl) fun hcl hbl => ?_
  simp [Tryd.results50]
  first | (refine GV.ans hcl ?_; simp []; done) | (refine GV.ans0 ?_; simp []; done)
theorem v_Copy {H : Hp} {g : Nat} {m : List Bool} (hS : SetV H g m) : VC Tryd.prog prims 50 [.ptr g 0] H fun u T => ∃ w t, u = .ptr H.length 0 ∧ T = H ++ setO H.length w t m := by
  obtain ⟨h0, r1, gw, v, r2, t, h1, h2⟩ := hS
  refine v_enter hC [] (fun _ _ => kn_none rfl) Tryd.func50 rfl ok50 (Nat.le_of_ble_eq_true rfl) fun hcl hbl => ?_
  simp
  refine v_draw (ord := [0, 1, 2, 3, 4, 5, 6, 7, 8, 9, 10, 11, 12]) (m := 10) (by decide +kernel) (by decide +kernel) ?_
  have hwl : (words m).length ≤ 32 := by rw [words_len]; unfold nw; omega
  have g1 : ∀ X : Hp, (H ++ X)[g]? = some (.mem [i6 m.length, .own gw v] r1) := fun X => by rw [List.getElem?_append_left (get_lt h1)]; exact h1
  have g2 : ∀ X : Hp, (H ++ X)[gw]? = some (.vec v ((words m).map wc) 1 r2 t) := fun X => by rw [List.getElem?_append_left (get_lt h2)]; exact h2
  simp [h1, h2]
  refine ⟨by omega, ?_⟩
  refine v_draw (ord := [0, 1, 2, 3, 4, 5, 6, 7, 8]) (m := 8) (by decide +kernel) (by decide +kernel) ?_
  simp [g1, g2, Tryd.results50]
  exact GV.set (m := m) (g1 := H.length + 1) (g2 := H.length) (w := 0) (t := true) (v := .ptr H.length 0) hcl (by simp) (by simp) (by omega) (by omega) (by simp) ⟨0, true, rfl, rfl⟩
theorem v_Count0 : A 41 [nilP] (i6 0) := by
  intro H
  refine v_enter hC [] (fun _ _ => kn_none rfl) Tryd.func41 rfl ok41 (Nat.le_of_ble_eq_true rfl) fun hcl hbl => ?_
  simp [Tryd.results41]
  first | (refine GV.ans hcl ?_; simp []; done) | (refine GV.ans0 ?_; simp []; done)
theorem v_Count {g : Nat} {m : List Bool} : RdS 41 g m [] (i6 (allN m).length) := by
  rintro H ⟨h0, r1, gw, v, r2, t, h1, h2⟩
  refine v_enter hC [] (fun _ _ => kn_none rfl) Tryd.func41 rfl ok41 (Nat.le_of_ble_eq_true rfl) fun hcl hbl => ?_
  have hwl : (words m).length = nw m.length := words_len m
  have hnw : nw m.length ≤ 32 := by unfold nw; omega
  simp [h1, h2]
  refine v_loopX hC (fun (k : Nat) e T => T = H ∧ e 3 = i6 (upTo m k).length ∧ e 11 = .own gw v ∧ e 12 = i6 (nw m.length) ∧ e 13 = i6 k ∧ k ≤ nw m.length) (fun k => nw m.length - k) 0 (G.refl ?_) ?_
  · simp [upTo, hwl]
  · rintro k e T ⟨rfl, e3, e11, e12, e13, hk⟩
    simp [e12, e13]
    refine CondV.dec (fun hlt => ?_) (fun hge => ?_)
    · have hlt : k < nw m.length := by omega
      have d7 : (words m)[k]'(by omega) = wd m k := by simp [words]
      have hul := upTo_len m (k + 1)
      have hup := upTo_pc m k
      simp [e3, e11, e12, e13, h2, hwl, hlt, d7]
      refine (v_Ones (wd_lt m k)).call ?_
      have hw : IntKind.i64.wrap (((upTo m k).length : Int) + (pc 64 (wd m k) : Int)) = ((upTo m (k + 1)).length : Int) := by rw [hup]; push_cast; exact w64 (by omega)
      simp [e3, e13, hw, w64 (n := (k : Int) + 1) (by omega)]
      exact GH.refl ⟨k + 1, ⟨rfl, by simp, by simp [e11], by simp [e12], by simp, by omega⟩, by omega⟩
    · have hk : k = nw m.length := by omega
      subst hk
      simp [e3, upTo_end, Tryd.results41]
      exact GV.refl ⟨rfl, rfl⟩
/-- Numbers as whole ones. -/
def is_ (l : List Nat) : List Int := List.map (fun (n : Nat) => (n : Int)) l
theorem is_len (l : List Nat) : (is_ l).length = l.length := by simp [is_]
theorem is_app (l l' : List Nat) : is_ (l ++ l') = is_ l ++ is_ l' := by simp [is_]
theorem v_All0 : A 37 [nilP] (.lit (.slice none 0 0)) := by
  intro H
  refine v_enter hC [] (fun _ _ => kn_none rfl) Tryd.func37 rfl ok37 (Nat.le_of_ble_eq_true rfl) fun hcl hbl => ?_
  simp [Tryd.results37]
  first | (refine GV.ans hcl ?_; simp []; done) | (refine GV.ans0 ?_; simp []; done)
theorem v_All {g : Nat} {m : List Bool} : RdS 37 g m [] (IS true (is_ (allN m))) := by
  rintro H ⟨h0, r1, gw, v, r2, t, h1, h2⟩
  refine v_enter hC [] (fun _ _ => kn_none rfl) Tryd.func37 rfl ok37 (Nat.le_of_ble_eq_true rfl) fun hcl hbl => ?_
  have hwl : (words m).length = nw m.length := words_len m
  have hnw : nw m.length ≤ 32 := by unfold nw; omega
  have g2 : ∀ X : Hp, (H ++ X)[gw]? = some (.vec v ((words m).map wc) 1 r2 t) := fun X => by rw [List.getElem?_append_left (get_lt h2)]; exact h2
  simp [h1, h2]
  refine v_loopX hC (fun (k : Nat) e T => ∃ w, T = H ++ [.vec w ((is_ (upTo m k)).map ic) 1 true true] ∧ e 3 = .own H.length w ∧ e 11 = .own gw v ∧ e 12 = i6 (nw m.length) ∧ e 13 = i6 k ∧ k ≤ nw m.length) (fun k => nw m.length - k) 0 (G.nilT0 (s := 1) 3 hcl (Nat.le_refl _) (by omega) (by simp) ?_) ?_
  · have hgw := get_lt h2
    simp [upTo, is_, hwl, hgw]
  · rintro k e T ⟨w, rfl, e3, e11, e12, e13, hk⟩
    simp [e12, e13]
    refine CondV.dec (fun hlt => ?_) (fun hge => ?_)
    · have hlt : k < nw m.length := by omega
      have d7 : (words m)[k]'(by omega) = wd m k := by simp [words]
      have hul := upTo_len m (k + 1)
      simp [e3, e11, e12, e13, g2, hwl, hlt, d7]
      refine v_loopX hC (fun (X : List Nat × Nat) e T => ∃ w, T = H ++ [.vec w ((is_ (upTo m k ++ X.1.map (64 * k + ·))).map ic) 1 true true] ∧ e 3 = .own H.length w ∧ e 4 = i6 k ∧ e 5 = .lit (.int .u64 X.2) ∧ e 11 = .own gw v ∧ e 12 = i6 (nw m.length) ∧ e 13 = i6 k ∧ X.2 < 18446744073709551616 ∧ bitsOf (wd m k) = X.1 ++ bitsOf X.2) (fun X => X.2) ([], wd m k) (G.refl ?_) ?_
      · exact ⟨w, by simp, by simp [e3], by simp, by simp, by simp [e11], by simp [e12], by simp [e13], wd_lt m k, by simp⟩
      · rintro ⟨ds, x⟩ e T ⟨w, rfl, e3, e4, e5, e11, e12, e13, hx, hb⟩
        simp only at e5 hx hb
        simp [e5]
        by_cases h0 : x = 0
        · subst h0
          rw [bitsOf_zero, List.append_nil] at hb
          simp [e3, e13, w64 (n := (k : Int) + 1) (by omega)]
          rw [← hb, ← upTo_succ]
          exact GH.refl ⟨k + 1, ⟨w, rfl, by simp [e3], by simp [e11], by simp [e12], by simp, by omega⟩, by omega⟩
        · obtain ⟨j, q, hj, rfl⟩ := low_one 64 x h0 hx
          rw [bitsOf_step hj] at hb
          have htz := v_TZ hj hx
          have hlo : 2 ^ j * (2 * q + 1) &&& (2 ^ j * (2 * q + 1) - 1) < 2 ^ j * (2 * q + 1) := Nat.lt_of_le_of_lt Nat.and_le_right (by omega)
          generalize 2 ^ j * (2 * q + 1) = x at *
          simp [e3, e4, e5, h0]
          refine htz.call ?_
          have c1 : IntKind.i64.wrap (64 * (k : Int)) = 64 * (k : Int) := w64 (by omega)
          have c2 : IntKind.i64.wrap (64 * (k : Int) + (j : Int)) = 64 * (k : Int) + (j : Int) := w64 (by omega)
          have c3 : bits BinOp.and IntKind.u64 (x : Int) (IntKind.u64.wrap ((x : Int) - 1)) = ((x &&& (x - 1) : Nat) : Int) := by
            rw [show (x : Int) - 1 = ((x - 1 : Nat) : Int) by omega, wrap64 (by omega), u64_and hx (by omega)]
          have hdl : ds.length ≤ 64 := by
            have h1 : (bitsOf (wd m k)).length ≤ 64 := Nat.le_trans (List.length_filter_le ..) (by simp)
            rw [hb, List.length_append] at h1
            omega
          have hul0 := upTo_len m k
          obtain ⟨z, hz⟩ : ∃ z, x &&& (x - 1) = z := ⟨_, rfl⟩
          rw [hz] at c3 hb hlo
          simp [e3, e4, e5, c1, c2, c3]
          refine ⟨by simp [is_]; omega, GH.refl ⟨(ds ++ [j], z), ⟨w + 1, ?_, by simp, by simp [e4], by simp, by simp [e11], by simp [e12], by simp [e13], by simp only; omega, by simp only [hb]; simp⟩, by simp only; omega⟩⟩
          simp [is_]
    · have hk : k = nw m.length := by omega
      subst hk
      simp [e3, upTo_end, Tryd.results37]
      refine GV.ret (IS true (is_ (allN m))) hcl ?_ ⟨rfl, rfl⟩
      simp
end Go.Proofs.YtldhfdagmaklaaaDoor.VM
end
section
set_option maxHeartbeats 8000000
set_option linter.unusedVariables false
set_option linter.unusedSimpArgs false

/- bitmap: from, Lowest, Free, Runs, Bytes. -/
namespace Go.Proofs.YtldhfdagmaklaaaDoor.VM
open Go Go.Proofs AM
set_option maxRecDepth 100000
/-- The lowest number from one on that is there, or isn't. -/
def fromM (m : List Bool) (no : Int) (b : Bool) : Option Nat := (List.range m.length).find? fun i => decide (no ≤ (i : Int)) && (m.getD i false == b)
theorem fromM_some {m : List Bool} {no : Int} {b : Bool} {k : Nat} (hk : k < m.length) (hno : no ≤ k) (hb : m.getD k false = b) (hlow : ∀ j, j < k → no ≤ (j : Int) → m.getD j false ≠ b) : fromM m no b = some k := by
  unfold fromM
  rw [List.find?_range_eq_some]
  refine ⟨by simp only [hno, hb]; simp, by simpa using hk, fun j hj => ?_⟩
  by_cases hn : no ≤ (j : Int)
  · have := hlow j hj hn
    simp only [hn]
    simpa using this
  · simp [hn]
theorem fromM_none {m : List Bool} {no : Int} {b : Bool} (hlow : ∀ j, j < m.length → no ≤ (j : Int) → m.getD j false ≠ b) : fromM m no b = none := by
  unfold fromM
  rw [List.find?_eq_none]
  intro j hj
  have hj := List.mem_range.1 hj
  by_cases hn : no ≤ (j : Int)
  · have := hlow j hj hn
    simp only [hn]
    simpa using this
  · simp [hn]
def fromV (m : List Bool) (no : Int) (b : Bool) : V := match fromM m no b with
  | some k => .tup [i6 k, i6 0]
  | none => .tup [i6 0, i6 7]
/-- Runs of numbers. -/
def rc (r : Nat × Nat) : List V := [i6 r.1, i6 r.2]
attribute [simp] rc
def runStep (R : List (Nat × Nat)) (no : Nat) : List (Nat × Nat) := if 0 < R.length ∧ (R.getD (R.length - 1) (0, 0)).1 + (R.getD (R.length - 1) (0, 0)).2 = no then R.set (R.length - 1) ((R.getD (R.length - 1) (0, 0)).1, (R.getD (R.length - 1) (0, 0)).2 + 1) else R ++ [(no, 1)]
def runsF (l : List Nat) : List (Nat × Nat) := l.foldl runStep []
theorem runStep_len (R : List (Nat × Nat)) (no : Nat) : (runStep R no).length ≤ R.length + 1 := by unfold runStep; split <;> simp
theorem runsF_snoc (l : List Nat) (no : Nat) : runsF (l ++ [no]) = runStep (runsF l) no := by unfold runsF; rw [List.foldl_append]; rfl
theorem runsF_bd (B : Nat) : ∀ (l : List Nat) (R : List (Nat × Nat)) (n : Nat), (∀ x ∈ l, x < B) → (∀ r ∈ R, r.1 < B ∧ r.2 ≤ n) → ∀ r ∈ l.foldl runStep R, r.1 < B ∧ r.2 ≤ n + l.length + 1
  | [], R, n, _, hR => fun r hr => by have := hR r hr; simp; omega
  | x :: l, R, n, hl, hR => fun r hr => by
    have := runsF_bd B l (runStep R x) (n + 1) (fun y hy => hl y (by simp [hy])) (fun r hr => by
      unfold runStep at hr
      split at hr
      · rename_i hc
        rcases List.mem_or_eq_of_mem_set hr with hr | hr
        · have := hR r hr; omega
        · have hm : R.getD (R.length - 1) (0, 0) ∈ R := by
            rw [List.getD_eq_getElem?_getD, List.getElem?_eq_getElem (by omega)]; exact List.getElem_mem _
          have := hR _ hm
          rw [hr]; simp only; omega
      · rcases List.mem_append.1 hr with hr | hr
        · have := hR r hr; omega
        · simp at hr; subst hr; simp only; exact ⟨hl x (by simp), by omega⟩) r hr
    simp only [List.length_cons]
    omega
theorem runsF_len : ∀ (l : List Nat) (R : List (Nat × Nat)), (l.foldl runStep R).length ≤ R.length + l.length
  | [], R => by simp
  | x :: l, R => by
    have h1 := runsF_len l (runStep R x)
    have h2 := runStep_len R x
    simp only [List.foldl_cons, List.length_cons]
    omega
theorem allN_lt {m : List Bool} {x : Nat} (h : x ∈ allN m) : x < m.length := by
  unfold allN at h
  exact List.mem_range.1 (List.mem_filter.1 h).1
/-- A set's bytes. -/
def byt (m : List Bool) (i : Nat) : Nat := ofB ((m.drop (8 * i)).take 8)
def bytesM (m : List Bool) : List Int := List.map (fun (i : Nat) => (byt m i : Int)) (List.range ((m.length + 7) / 8))
theorem byt_bit (m : List Bool) (i j : Nat) : (byt m i).testBit j = (decide (j < 8) && m.getD (8 * i + j) false) := by
  unfold byt
  rw [ofB_bit, List.getD_eq_getElem?_getD, List.getElem?_take]
  by_cases h : j < 8
  · simp [h, List.getElem?_drop]
  · simp [h]
theorem byt_lt (m : List Bool) (i : Nat) : byt m i < 256 := by
  have h := ofB_lt ((m.drop (8 * i)).take 8)
  have h2 : ((m.drop (8 * i)).take 8).length ≤ 8 := by rw [List.length_take]; exact Nat.min_le_left ..
  exact Nat.lt_of_lt_of_le h (Nat.pow_le_pow_right (by omega) h2)
theorem wd_byt (m : List Bool) (i : Nat) : (wd m (i / 8) >>> (8 * (i % 8))) % 256 = byt m i := by
  apply Nat.eq_of_testBit_eq
  intro j
  rw [show 256 = 2 ^ 8 from rfl, Nat.testBit_mod_two_pow, Nat.testBit_shiftRight, wd_bit, byt_bit]
  by_cases h : j < 8
  · have h1 : 8 * (i % 8) + j < 64 := by omega
    have h2 : 64 * (i / 8) + (8 * (i % 8) + j) = 8 * i + j := by omega
    simp [h, h1, h2]
  · simp [h]
theorem bytesM_len (m : List Bool) : (bytesM m).length = (m.length + 7) / 8 := by simp [bytesM]
end Go.Proofs.YtldhfdagmaklaaaDoor.VM
end
section
set_option maxHeartbeats 8000000
set_option linter.unusedVariables false
set_option linter.unusedSimpArgs false

/- bitmap: Union, Without, Common, Same. -/
namespace Go.Proofs.YtldhfdagmaklaaaDoor.VM
open Go Go.Proofs AM
set_option maxRecDepth 100000
theorem v_flip0 {kk b : Bool} {l : List Int} (hl : l.length < 2 ^ 48) : A 49 [nilP, IS kk l, bo b] (i6 0) := by
  intro H
  refine v_enter hC [] (fun _ _ => kn_none rfl) Tryd.func49 rfl ok49 (Nat.le_of_ble_eq_true rfl) fun hcl hbl => ?_
  simp
  refine v_loopX hC (fun (k : Nat) e T => T = H ∧ e 0 = nilP ∧ e 2 = bo b ∧ e 7 = i6 0 ∧ e 10 = IS kk l ∧ e 11 = i6 l.length ∧ e 12 = i6 k ∧ k ≤ l.length) (fun k => l.length - k) 0 (G.refl ?_) ?_
  · simp
  · rintro k e T ⟨rfl, h0, h2, h7, h10, h11, h12, hk⟩
    simp [h11, h12]
    refine CondV.dec (fun hlt => ?_) (fun hge => ?_)
    · have hlt : k < l.length := by omega
      simp [h0, h2, h10, h12, getL hlt]
      refine v_may0.call ?_
      simp [h12, w64 (n := (k : Int) + 1) (by omega)]
      exact GH.refl ⟨k + 1, ⟨rfl, by simp [h0], by simp [h2], by simp [h7], by simp [h10], by simp [h11], by simp, by omega⟩, by omega⟩
    · simp [h7, Tryd.results49]
      first | (refine GV.ans hcl ?_; simp []; done) | (refine GV.ans0 ?_; simp []; done)
theorem v_Add0 {kk : Bool} {l : List Int} (hl : l.length < 2 ^ 48) : A 30 [nilP, IS kk l] (i6 0) := by
  intro H
  refine v_enter hC [] (fun _ _ => kn_none rfl) Tryd.func30 rfl ok30 (Nat.le_of_ble_eq_true rfl) fun hcl hbl => ?_
  simp
  refine (v_flip0 (kk := kk) (b := true) hl).call ?_
  simp [Tryd.results30]
  first | (refine GV.ans hcl ?_; simp []; done) | (refine GV.ans0 ?_; simp []; done)
theorem v_Drop0 {kk : Bool} {l : List Int} (hl : l.length < 2 ^ 48) : A 36 [nilP, IS kk l] (i6 0) := by
  intro H
  refine v_enter hC [] (fun _ _ => kn_none rfl) Tryd.func36 rfl ok36 (Nat.le_of_ble_eq_true rfl) fun hcl hbl => ?_
  simp
  refine (v_flip0 (kk := kk) (b := false) hl).call ?_
  simp [Tryd.results36]
  first | (refine GV.ans hcl ?_; simp []; done) | (refine GV.ans0 ?_; simp []; done)
/-- A list of numbers, or none. -/
def IsL (u : V) (l : List Int) : Prop := u = IS true l ∨ (l = [] ∧ u = .lit (.slice none 0 0))
theorem isL_up {f : FuncId} {H : Hp} {x u : V} {l : List Int} {R : V → Hp → Prop} (hx : Up H.length [] [] H x x) (hu : IsL u l) (h : VC Tryd.prog prims f [x, IS true l] H R) : VC Tryd.prog prims f [x, u] H R := by
  rcases hu with rfl | ⟨rfl, rfl⟩
  · exact h
  · exact VC.up (args' := [x, IS true []]) (by simp [hx]) h
/-- A set or nil, and its numbers. -/
def AllV (H : Hp) (x : V) (l : List Int) : Prop := (∃ g m, x = .ptr g 0 ∧ SetV H g m ∧ l = is_ (allN m)) ∨ (x = nilP ∧ l = [])
theorem AllV.len {H : Hp} {x : V} {l : List Int} (h : AllV H x l) : l.length ≤ 2048 := by
  rcases h with ⟨g, m, _, h1, rfl⟩ | ⟨_, rfl⟩
  · rw [is_len]; exact Nat.le_trans (allN_len m) h1.1
  · simp
theorem AllV.app {H X : Hp} {x : V} {l : List Int} (h : AllV H x l) : AllV (H ++ X) x l := h.imp (fun ⟨g, m, h1, h2, h3⟩ => ⟨g, m, h1, h2.app, h3⟩) id
theorem AllV.lock {H : Hp} {x : V} {l : List Int} (h : AllV H x l) : AllV (lockV H) x l := h.imp (fun ⟨g, m, h1, h2, h3⟩ => ⟨g, m, h1, h2.lock, h3⟩) id
theorem v_AllX {H : Hp} {x : V} {l : List Int} (h : AllV H x l) : VC Tryd.prog prims 37 [x] H fun u T => IsL u l ∧ T = H := by
  rcases h with ⟨g, m, rfl, h1, rfl⟩ | ⟨rfl, rfl⟩
  · exact (v_All H h1).mono fun u T ⟨e1, e2⟩ => ⟨.inl e1, e2⟩
  · exact (v_All0 H).mono fun u T ⟨e1, e2⟩ => ⟨.inr ⟨rfl, e1⟩, e2⟩
/-- The copy of a set or nil. -/
theorem set_app (H : Hp) (X : Hp) (w : Nat) (t : Bool) (m m' : List Bool) (hm : m'.length = m.length) : putW (H ++ (setO H.length w t m ++ X)) (H.length + 1) w t m' = H ++ (setO H.length w t m' ++ X) := by
  unfold putW setO
  rw [List.set_append_right _ _ (by omega)]
  simp [hm]
theorem v_Without0 {x : V} {l : List Int} {H : Hp} (hx : AllV H x l) : VC Tryd.prog prims 39 [nilP, x] H fun u T => u = nilP ∧ T = H := by
  have hb := hx.len
  refine v_enter hC [] (fun _ _ => kn_none rfl) Tryd.func39 rfl ok39 (Nat.le_of_ble_eq_true rfl) fun hcl hbl => ?_
  simp
  refine v_Copy0.call ?_
  simp
  refine CALLv.at (v_AllX hx) fun u T hu => ?_
  obtain ⟨hu, e2⟩ := hu
  subst e2
  simp
  refine CALLv.at (isL_up (by simp) hu (v_Drop0 (kk := true) (l := l) (by omega) T)) fun u2 T2 hu2 => ?_
  obtain ⟨e1, e2⟩ := hu2
  subst e1; subst e2
  simp [Tryd.results39]
  exact GV.refl ⟨rfl, rfl⟩
theorem v_Without {x : V} {l : List Int} {H : Hp} {a : Nat} {m : List Bool} (ha : SetV H a m) (hx : AllV H x l) : VC Tryd.prog prims 39 [.ptr a 0, x] H fun u T => ∃ w t, u = .ptr H.length 0 ∧ T = H ++ setO H.length w t (flipM false m l) := by
  have hb := hx.len
  refine v_enter hC [] (fun _ _ => kn_none rfl) Tryd.func39 rfl ok39 (Nat.le_of_ble_eq_true rfl) fun hcl hbl => ?_
  simp
  refine CALLv.at (v_Copy ha) fun u T hu => ?_
  obtain ⟨w, t, e1, e2⟩ := hu
  subst e1; subst e2
  simp
  refine CALLv.at (v_AllX hx.app) fun u T hu => ?_
  obtain ⟨hu, e2⟩ := hu
  subst e2
  simp
  have hW : SetW (H ++ setO H.length w t m) H.length (H.length + 1) w t m := by simpa using setO_w (X := []) ha.1
  refine CALLv.at (isL_up (by simp [setO]) hu (v_Drop (kk := true) (l := l) hW (by omega))) fun u2 T2 hu2 => ?_
  obtain ⟨e1, e2⟩ := hu2
  subst e1; subst e2
  have := set_app H [] w t m (flipM false m l) (flipM_len ..)
  simp only [List.append_nil] at this
  rw [this]
  simp [Tryd.results39]
  exact GV.refl ⟨w, t, rfl, rfl⟩
end Go.Proofs.YtldhfdagmaklaaaDoor.VM
end
section
set_option maxHeartbeats 8000000
set_option linter.unusedVariables false
set_option linter.unusedSimpArgs false

/- bitmap: Union of two, Same. -/
namespace Go.Proofs.YtldhfdagmaklaaaDoor.VM
open Go Go.Proofs AM
set_option maxRecDepth 100000
theorem v_Union0 {x : V} {l : List Int} {H : Hp} {gl wl : Nat} {r t : Bool} (hx : AllV H x l) (hxc : x.isCell = true) (hl : H[gl]? = some (.vec wl [[x]] 1 r t)) : VC Tryd.prog prims 38 [nilP, .own gl wl] H fun u T => u = nilP ∧ T = H := by
  have hb := hx.len
  refine v_enter hC [] (fun _ _ => kn_none rfl) Tryd.func38 rfl ok38 (Nat.le_of_ble_eq_true rfl) fun hcl hbl => ?_
  simp
  refine v_Copy0.call ?_
  simp [hl]
  refine v_once hC ?_
  simp [hl]
  refine CALLv.at (v_AllX hx) fun u T hu => ?_
  obtain ⟨hu, e2⟩ := hu
  subst e2
  simp
  refine CALLv.at (isL_up (by simp) hu (v_Add0 (kk := true) (l := l) (by omega) T)) fun u2 T2 hu2 => ?_
  obtain ⟨e1, e2⟩ := hu2
  subst e1; subst e2
  have w1 : IntKind.i64.wrap 1 = 1 := rfl
  simp [w1]
  refine v_once hC ?_
  simp [w1, Tryd.results38]
  exact GV.refl ⟨rfl, rfl⟩
theorem v_Union {x : V} {l : List Int} {H : Hp} {gl wl a : Nat} {r t : Bool} {m : List Bool} (ha : SetV H a m) (hx : AllV H x l) (hxc : x.isCell = true) (hl : H[gl]? = some (.vec wl [[x]] 1 r t)) : VC Tryd.prog prims 38 [.ptr a 0, .own gl wl] H fun u T => ∃ w t, u = .ptr H.length 0 ∧ T = H ++ setO H.length w t (flipM true m l) := by
  have hb := hx.len
  have g2 : ∀ X : Hp, (H ++ X)[gl]? = some (.vec wl [[x]] 1 r t) := fun X => by rw [List.getElem?_append_left (get_lt hl)]; exact hl
  refine v_enter hC [] (fun _ _ => kn_none rfl) Tryd.func38 rfl ok38 (Nat.le_of_ble_eq_true rfl) fun hcl hbl => ?_
  simp
  refine CALLv.at (v_Copy ha) fun u T hu => ?_
  obtain ⟨w, t2, e1, e2⟩ := hu
  subst e1; subst e2
  simp [g2]
  refine v_once hC ?_
  simp [g2]
  refine CALLv.at (v_AllX hx.app) fun u T hu => ?_
  obtain ⟨hu, e2⟩ := hu
  subst e2
  simp
  have hW : SetW (H ++ setO H.length w t2 m) H.length (H.length + 1) w t2 m := by simpa using setO_w (X := []) ha.1
  refine CALLv.at (isL_up (by simp [setO]) hu (v_Add (kk := true) (l := l) hW (by omega))) fun u2 T2 hu2 => ?_
  obtain ⟨e1, e2⟩ := hu2
  subst e1; subst e2
  have := set_app H [] w t2 m (flipM true m l) (flipM_len ..)
  simp only [List.append_nil] at this
  rw [this]
  have w1 : IntKind.i64.wrap 1 = 1 := rfl
  simp [w1]
  refine v_once hC ?_
  simp [w1, Tryd.results38]
  exact GV.refl ⟨w, t2, rfl, rfl⟩
/-- Two slices of words in memory. -/
def Two (H : Hp) (ga va gb vb : Nat) (A B : List Nat) : Prop := (∃ r t, H[ga]? = some (.vec va (A.map wc) 1 r t)) ∧ ∃ r t, H[gb]? = some (.vec vb (B.map wc) 1 r t)
theorem Two.lock {H : Hp} {ga va gb vb : Nat} {A B : List Nat} (h : Two H ga va gb vb A B) : Two (lockV H) ga va gb vb A B := by
  obtain ⟨⟨r, t, h1⟩, r2, t2, h2⟩ := h
  exact ⟨⟨false, t, by simp [lockV, h1, Ob.lock]⟩, false, t2, by simp [lockV, h2, Ob.lock]⟩
theorem v_EqU {H : Hp} {ga va gb vb : Nat} {A B : List Nat} (hA : A.length < 2 ^ 48) (hT : Two H ga va gb vb A B) : VC Tryd.prog prims 57 [.own ga va, .own gb vb] H fun u T => u = bo (decide (A = B)) ∧ T = H := by
  obtain ⟨⟨r, t, h1⟩, r2, t2, h2⟩ := hT
  refine v_enter hC [] (fun _ _ => kn_none rfl) Tryd.func57 rfl ok57 (Nat.le_of_ble_eq_true rfl) fun hcl hbl => ?_
  simp [h1, h2]
  by_cases hlen : A.length = B.length
  · simp [hlen, h1]
    refine v_loopX hC (fun (k : Nat) e T => T = H ∧ e 0 = .own ga va ∧ e 1 = .own gb vb ∧ e 12 = i6 A.length ∧ e 13 = i6 k ∧ k ≤ A.length ∧ ∀ j (h : j < k) (h1 : j < A.length) (h2 : j < B.length), A[j] = B[j]) (fun k => A.length - k) 0 (G.refl ?_) ?_
    · simp [hlen]
    · rintro k e T ⟨rfl, e0, e1, e12, e13, hk, hall⟩
      simp [e12, e13]
      refine CondV.dec (fun hlt => ?_) (fun hge => ?_)
      · have hlt : k < A.length := by omega
        have hltB : k < B.length := by omega
        simp [e0, e1, e13]
        refine v_draw (ord := [0, 1, 2, 3, 4, 5, 6, 7, 8]) (m := 8) (by decide +kernel) (by decide +kernel) ?_
        simp [e0, e1, e13, h1, h2, hlt, hltB]
        refine CondV.on (fun hd => ?_) (fun hd => ?_)
        · have hd : ¬ A[k] = B[k] := by
            have := hd
            simp at this
            omega
          have : ¬ A = B := fun e => hd (by subst e; rfl)
          simp [Tryd.results57]
          exact GV.refl ⟨by simp [this], rfl⟩
        · have hd : A[k] = B[k] := by
            have := hd
            simp at this
            omega
          simp [e13, w64 (n := (k : Int) + 1) (by omega)]
          exact GH.refl ⟨k + 1, ⟨rfl, by simp [e0], by simp [e1], by simp [e12], by simp, by omega, fun j hj h1 h2 => by
            by_cases e : j = k
            · subst e; exact hd
            · exact hall j (by omega) h1 h2⟩, by omega⟩
      · have : A = B := List.ext_getElem hlen fun j h1 h2 => hall j (by omega) h1 h2
        subst this
        simp [Tryd.results57]
        exact GV.refl ⟨by simp, rfl⟩
  · have : ¬ A = B := fun e => hlen (by rw [e])
    have hi : ¬ (A.length : Int) = (B.length : Int) := by omega
    simp [hlen, hi, Tryd.results57]
    exact GV.refl ⟨by simp [this], rfl⟩
theorem words_inj {a b : List Bool} (hl : a.length = b.length) (h : words a = words b) : a = b := by
  apply List.ext_getElem hl
  intro k h1 h2
  have hk : k / 64 < nw a.length := by unfold nw; omega
  have e : wd a (k / 64) = wd b (k / 64) := by
    have e1 := words_at a hk
    have e2 := words_at b (i := k / 64) (by rw [← hl]; exact hk)
    rw [h, e2] at e1
    exact (Option.some.inj e1).symm
  have f1 := wd_num a k
  have f2 := wd_num b k
  rw [e, f2] at f1
  rw [List.getD_eq_getElem?_getD, List.getD_eq_getElem?_getD, List.getElem?_eq_getElem h1, List.getElem?_eq_getElem h2] at f1
  exact f1.symm
theorem mem_allN {m : List Bool} {k : Nat} : k ∈ allN m ↔ k < m.length ∧ m.getD k false = true := by
  unfold allN; rw [List.mem_filter, List.mem_range]
theorem allN_inj {a b : List Bool} (hl : a.length = b.length) (h : allN a = allN b) : a = b := by
  apply List.ext_getElem hl
  intro k h1 h2
  have e : k ∈ allN a ↔ k ∈ allN b := by rw [h]
  rw [mem_allN, mem_allN] at e
  simp only [List.getD_eq_getElem?_getD, List.getElem?_eq_getElem h1, List.getElem?_eq_getElem h2, Option.getD_some, h1, h2, true_and] at e
  cases h3 : a[k] <;> cases h4 : b[k] <;> simp_all
/-- The same sets? -/
theorem v_SameN : A 46 [nilP, nilP] (bo true) := by
  intro H
  refine v_enter hC [] (fun _ _ => kn_none rfl) Tryd.func46 rfl ok46 (Nat.le_of_ble_eq_true rfl) fun hcl hbl => ?_
  simp [Tryd.results46]
  first | (refine GV.ans hcl ?_; simp []; done) | (refine GV.ans0 ?_; simp []; done)
theorem v_SameNP {g : Nat} : A 46 [nilP, .ptr g 0] (bo false) := by
  intro H
  refine v_enter hC [] (fun _ _ => kn_none rfl) Tryd.func46 rfl ok46 (Nat.le_of_ble_eq_true rfl) fun hcl hbl => ?_
  simp [Tryd.results46]
  first | (refine GV.ans hcl ?_; simp []; done) | (refine GV.ans0 ?_; simp []; done)
theorem v_bSame {H : Hp} {a b : Nat} {ma mb : List Bool} (ha : SetV H a ma) (hb : SetV H b mb) : VC Tryd.prog prims 46 [.ptr a 0, .ptr b 0] H fun u T => u = bo (decide (ma = mb)) ∧ T = H := by
  obtain ⟨h0, r1, gw, v, r2, t, h1, h2⟩ := ha
  obtain ⟨h0', r1', gw', v', r2', t', h1', h2'⟩ := hb
  refine v_enter hC [] (fun _ _ => kn_none rfl) Tryd.func46 rfl ok46 (Nat.le_of_ble_eq_true rfl) fun hcl hbl => ?_
  simp
  refine v_draw (ord := [0, 1, 2, 3, 4, 5, 6, 7, 8, 9, 10, 11, 12, 13, 14, 15, 16, 17, 18, 19, 20]) (m := 18) (by decide +kernel) (by decide +kernel) ?_
  simp [h1, h1']
  by_cases hl : ma.length = mb.length
  · simp [hl, h1, h1']
    refine CALLv.rd (S := fun H => Two H gw v gw' v' (words ma) (words mb)) Two.lock (fun H hT => v_EqU (by rw [words_len]; unfold nw; omega) hT) ⟨⟨_, _, h2⟩, _, _, h2'⟩ ?_
    simp [Tryd.results46]
    refine GV.refl ⟨?_, rfl⟩
    by_cases e : ma = mb
    · subst e; simp
    · have : ¬ words ma = words mb := fun h => e (words_inj hl h)
      simp [e, this]
  · have e : ¬ ma = mb := fun e => hl (by rw [e])
    have hi : ¬ (ma.length : Int) = (mb.length : Int) := by omega
    simp [hl, hi, Tryd.results46]
    exact GV.refl ⟨by simp [e], rfl⟩
end Go.Proofs.YtldhfdagmaklaaaDoor.VM
end
section
set_option maxHeartbeats 8000000
set_option linter.unusedVariables false
set_option linter.unusedSimpArgs false

/- The document's sets: New, All, From, Bytes, Same. -/
namespace Go.Proofs.YtldhfdagmaklaaaDoor.VM
open Go Go.Proofs AM
set_option maxRecDepth 100000
def bb (b : Bool) : List V := [bo b]
def BL (k : Bool) (m : List Bool) : V := .fsl k 1 (m.map bb)
attribute [simp] bb BL
theorem getB {m : List Bool} {k : Nat} (h : k < m.length) : m[k]? = some m[k] := List.getElem?_eq_getElem h
theorem getD_lt {m : List Bool} {k : Nat} (h : k < m.length) : m[k] = m.getD k false := by rw [List.getD_eq_getElem?_getD, getB h]; rfl
theorem v_SameI {kk km : Bool} {l m : List Int} (hl : l.length < 2 ^ 48) : A 19 [IS kk l, IS km m] (bo (decide (l = m))) := by
  intro H
  refine v_enter hC [] (fun _ _ => kn_none rfl) Tryd.func19 rfl ok19 (Nat.le_of_ble_eq_true rfl) fun hcl hbl => ?_
  simp
  by_cases hlen : l.length = m.length
  · simp [hlen]
    refine v_loopX hC (fun (k : Nat) e T => T = H ∧ e 0 = IS kk l ∧ e 1 = IS km m ∧ e 5 = i6 k ∧ k ≤ l.length ∧ ∀ j (h : j < k) (h1 : j < l.length) (h2 : j < m.length), l[j] = m[j]) (fun k => l.length - k) 0 (G.refl ?_) ?_
    · simp
    · rintro k e T ⟨rfl, h0, h1, h5, hk, hall⟩
      simp [h0, h1, h5]
      refine CondV.dec (fun hlt => ?_) (fun hge => ?_)
      · have hlt : k < l.length := by omega
        simp [h0, h1, h5]
        refine v_draw (ord := [0, 1, 2, 3, 4, 5, 6, 7, 8]) (m := 8) (by decide +kernel) (by decide +kernel) ?_
        simp [h0, h1, h5, getL hlt, getL (show k < m.length by omega)]
        by_cases hd : l[k] = m[k]'(by omega)
        · simp [hd, h5, w64 (n := (k : Int) + 1) (by omega)]
          exact GH.refl ⟨k + 1, ⟨rfl, by simp [h0], by simp [h1], by simp, by omega, fun j hj h1 h2 => by
            by_cases e : j = k
            · subst e; exact hd
            · exact hall j (by omega) h1 h2⟩, by omega⟩
        · have : ¬ l = m := fun e => hd (by subst e; rfl)
          simp [hd, Tryd.results19]
          exact GV.refl ⟨by simp [this], rfl⟩
      · have : l = m := List.ext_getElem hlen fun j h1 h2 => hall j (by omega) h1 h2
        subst this
        simp [Tryd.results19]
        exact GV.refl ⟨by simp, rfl⟩
  · have : ¬ l = m := fun e => hlen (by rw [e])
    have hi : ¬ (l.length : Int) = (m.length : Int) := by omega
    simp [hlen, hi, Tryd.results19]
    exact GV.refl ⟨by simp [this], rfl⟩
theorem flip1_set (m : List Bool) (no : Int) : flip1 true m no = if mayM m no = true then m.set no.toNat true else m := by
  unfold flip1
  cases hm : mayM m no with
  | false => simp
  | true =>
    simp only [Bool.true_and, if_true]
    cases hd : m.getD no.toNat false with
    | false => simp
    | true =>
      have hlt : no.toNat < m.length := by have := of_decide_eq_true hm; omega
      rw [← getD_lt hlt] at hd
      simp only [bne_self_eq_false, Bool.false_eq_true, if_false]
      rw [← hd, List.set_getElem_self]
def upA (m : List Bool) (k : Nat) : List Nat := (List.range k).filter fun i => m.getD i false
theorem upA_succ (m : List Bool) (k : Nat) : upA m (k + 1) = if m.getD k false = true then upA m k ++ [k] else upA m k := by
  unfold upA
  rw [List.range_succ, List.filter_append, List.filter_cons]
  split <;> simp_all
def fromI (m : List Bool) (no : Int) (b : Bool) : Int := match fromM m no b with
  | some k => (k : Int)
  | none => -1
end Go.Proofs.YtldhfdagmaklaaaDoor.VM
end
section
set_option maxHeartbeats 8000000
set_option linter.unusedVariables false
set_option linter.unusedSimpArgs false

/- alloc: plain words: of each page what it is. -/
namespace Go.Proofs.YtldhfdagmaklaaaDoor.VM
open Go Go.Proofs AM B
set_option maxRecDepth 100000
def isC (k : Int) : Bool := k == 2 || k == 4
def isS (k : Int) : Bool := k == 3
def isP (k : Int) : Bool := k == 4
def isF (k : Int) : Bool := k == 1
/-- Pages as they may be: two reserved, the others free, committed, shadow or pending. -/
def okK (K : List Int) : Prop := ∃ K', K = 0 :: 0 :: K' ∧ K.length ≤ 2048 ∧ ∀ k ∈ K', 1 ≤ k ∧ k ≤ 4
def kindK (K : List Int) (p : Int) : Int := if 0 ≤ p ∧ p < K.length then K.getD p.toNat 0 else 5
theorem okK.len {K : List Int} (h : okK K) : 2 ≤ K.length ∧ K.length ≤ 2048 := by
  obtain ⟨K', rfl, h1, _⟩ := h
  exact ⟨by simp, h1⟩
theorem okK.low {K : List Int} (h : okK K) {i : Nat} (hi : i < 2) : K.getD i 0 = 0 := by
  obtain ⟨K', rfl, _, _⟩ := h
  rcases (show i = 0 ∨ i = 1 by omega) with rfl | rfl <;> rfl
theorem okK.high {K : List Int} (h : okK K) {i : Nat} (h2 : 2 ≤ i) (hi : i < K.length) : 1 ≤ K.getD i 0 ∧ K.getD i 0 ≤ 4 := by
  obtain ⟨K', rfl, _, hk⟩ := h
  obtain ⟨j, rfl⟩ : ∃ j, i = j + 2 := ⟨i - 2, by omega⟩
  simp only [List.length_cons] at hi
  simp only [List.getD_cons_succ]
  refine hk _ ?_
  rw [List.getD_eq_getElem?_getD, List.getElem?_eq_getElem (by omega)]
  exact List.getElem_mem (by omega)
theorem okK.set {K : List Int} (h : okK K) {i : Nat} (h2 : 2 ≤ i) {v : Int} (hv : 1 ≤ v ∧ v ≤ 4) : okK (K.set i v) := by
  obtain ⟨K', rfl, h1, hk⟩ := h
  obtain ⟨j, rfl⟩ : ∃ j, i = j + 2 := ⟨i - 2, by omega⟩
  refine ⟨K'.set j v, by simp, by rw [List.length_set]; exact h1, fun k hk' => ?_⟩
  rcases List.mem_or_eq_of_mem_set hk' with hk' | rfl
  · exact hk k hk'
  · exact hv
theorem okK.map {K : List Int} (h : okK K) {f : Int → Int} (h0 : f 0 = 0) (hf : ∀ k, 1 ≤ k ∧ k ≤ 4 → 1 ≤ f k ∧ f k ≤ 4) : okK (K.map f) := by
  obtain ⟨K', rfl, h1, hk⟩ := h
  refine ⟨K'.map f, by simp [h0], by rw [List.length_map]; exact h1, fun k hk' => ?_⟩
  obtain ⟨x, hx, rfl⟩ := List.mem_map.1 hk'
  exact hf x (hk x hx)
theorem map_getD {f : Int → Bool} (hf : f 0 = false) (K : List Int) (i : Nat) : (K.map f).getD i false = f (K.getD i 0) := by
  rw [List.getD_eq_getElem?_getD, List.getD_eq_getElem?_getD, List.getElem?_map]
  cases K[i]? with
  | none => exact hf.symm
  | some x => rfl
theorem hasM_map {f : Int → Bool} (hf : f 0 = false) {K : List Int} {p : Int} (hp : 0 ≤ p ∧ p < K.length) : hasM (K.map f) p = f (K.getD p.toNat 0) := by
  unfold hasM mayM
  rw [List.length_map, map_getD hf, decide_eq_true hp]; rfl
/-- The pages of a kind. -/
def kAll (K : List Int) (k : Int) : List Nat := (List.range K.length).filter fun i => K.getD i 0 == k
theorem allN_map {f : Int → Bool} (hf : f 0 = false) (K : List Int) : allN (K.map f) = (List.range K.length).filter fun i => f (K.getD i 0) := by
  unfold allN
  rw [List.length_map]
  refine List.filter_congr fun i _ => ?_
  rw [map_getD hf]
theorem range_getD (K : List Int) : (List.range K.length).map (fun i => K.getD i 0) = K := by
  apply List.ext_getElem
  · simp
  · intro i h1 h2
    simp [h2]
theorem count_range (K : List Int) (f : Int → Bool) : ((List.range K.length).filter fun i => f (K.getD i 0)).length = K.countP f := by
  conv => rhs; rw [← range_getD K, List.countP_map]
  rw [List.countP_eq_length_filter]; rfl
theorem count4 : ∀ {K : List Int}, (∀ k ∈ K, 1 ≤ k ∧ k ≤ 4) → K.countP isC + K.countP isS + K.countP isF = K.length
  | [], _ => rfl
  | k :: K, h => by
    have ih := count4 (K := K) fun x hx => h x (by simp [hx])
    have hk := h k (by simp)
    rw [List.countP_cons, List.countP_cons, List.countP_cons, List.length_cons]
    rcases (show k = 1 ∨ k = 2 ∨ k = 3 ∨ k = 4 by omega) with rfl | rfl | rfl | rfl <;> simp [isC, isS, isF] at ih ⊢ <;> omega
theorem freeK {K : List Int} (h : okK K) : (kAll K 1).length + 2 + (allN (K.map isC)).length + (allN (K.map isS)).length = K.length := by
  unfold kAll
  rw [allN_map rfl, allN_map rfl, count_range K isC, count_range K isS, show ((List.range K.length).filter fun i => K.getD i 0 == 1).length = K.countP isF from count_range K isF]
  obtain ⟨K', rfl, _, hk⟩ := h
  have := count4 hk
  simp only [List.countP_cons, List.length_cons]
  simp [isC, isS, isF] at this ⊢
  omega
/-- The free pages below p. -/
def frK (K : List Int) (p : Nat) : List Nat := (List.range p).filter fun i => K.getD i 0 == 1
theorem frK_succ (K : List Int) (p : Nat) : frK K (p + 1) = if K.getD p 0 = 1 then frK K p ++ [p] else frK K p := by
  unfold frK
  rw [List.range_succ, List.filter_append]
  by_cases h : K.getD p 0 = 1
  · rw [if_pos h]; simp only [List.filter_cons, h]; rfl
  · rw [if_neg h]
    have : (K.getD p 0 == 1) = false := by simpa using h
    simp only [List.filter_cons, this]
    simp
theorem frK_2 {K : List Int} (h : okK K) : frK K 2 = [] := by
  unfold frK
  have h0 := h.low (i := 0) (by omega)
  have h1 := h.low (i := 1) (by omega)
  simp only [show List.range 2 = [0, 1] from rfl, List.filter_cons, h0, h1]
  rfl
theorem frK_pre {K : List Int} {p : Nat} (hp : p ≤ K.length) : frK K p <+: kAll K 1 := by
  unfold frK kAll
  obtain ⟨d, hd⟩ : ∃ d, K.length = p + d := ⟨K.length - p, by omega⟩
  rw [hd, List.range_add, List.filter_append]
  exact List.prefix_append _ _
theorem frK_take {K : List Int} {p : Nat} (hp : p ≤ K.length) : frK K p = (kAll K 1).take (frK K p).length := (List.prefix_iff_eq_take.1 (frK_pre hp))
theorem mem_kAll {K : List Int} {k : Int} {i : Nat} : i ∈ kAll K k ↔ i < K.length ∧ K.getD i 0 = k := by unfold kAll; simp
/-- Pages that are set. -/
def setK (K : List Int) (l : List Nat) (v : Int) : List Int := l.foldl (fun K i => K.set i v) K
theorem setK_len (l : List Nat) (v : Int) : ∀ K : List Int, (setK K l v).length = K.length := by
  induction l with
  | nil => intro K; rfl
  | cons i l ih => intro K; show (setK (K.set i v) l v).length = _; rw [ih, List.length_set]
theorem setK_ok {v : Int} (hv : 1 ≤ v ∧ v ≤ 4) : ∀ {l : List Nat} {K : List Int}, okK K → (∀ i ∈ l, 2 ≤ i) → okK (setK K l v)
  | [], _, h, _ => h
  | i :: l, K, h, hl => by
    show okK (setK (K.set i v) l v)
    exact setK_ok hv (h.set (hl i (by simp)) hv) fun j hj => hl j (by simp [hj])
theorem getD_set (K : List Int) (i j : Nat) (v : Int) : (K.set i v).getD j 0 = if i = j ∧ j < K.length then v else K.getD j 0 := by
  rw [List.getD_eq_getElem?_getD, List.getD_eq_getElem?_getD, List.getElem?_set]
  by_cases h : i = j
  · subst h
    by_cases h2 : i < K.length
    · simp [h2]
    · simp [h2]
  · simp [h]
theorem flip1_in {b : Bool} {m : List Bool} {i : Nat} (h : i < m.length) : flip1 b m (i : Int) = m.set i b := by
  unfold flip1 mayM
  rw [decide_eq_true (show (0 : Int) ≤ i ∧ (i : Int) < m.length by omega), Bool.true_and, Int.toNat_natCast]
  by_cases hb : m.getD i false = b
  · rw [if_neg (by rw [hb]; simp)]
    apply List.ext_getElem
    · simp
    · intro j h1 h2
      rw [List.getElem_set]
      split
      · rename_i hj; subst hj
        have e : m.getD i false = m[i] := by rw [List.getD_eq_getElem?_getD, List.getElem?_eq_getElem h]; rfl
        rw [← e, hb]
      · rfl
  · rw [if_pos (by simpa using hb)]
theorem map_set_b (f : Int → Bool) (K : List Int) (i : Nat) (v : Int) : (K.set i v).map f = (K.map f).set i (f v) := List.map_set ..
theorem set_same {m : List Bool} {i : Nat} {b : Bool} (h : i < m.length → m.getD i false = b) : m.set i b = m := by
  apply List.ext_getElem
  · simp
  · intro j h1 h2
    rw [List.getElem_set]
    split
    · rename_i hj; subst hj
      have := h h2
      rw [← this, List.getD_eq_getElem?_getD, List.getElem?_eq_getElem h2]; rfl
    · rfl
theorem flipM_setK {f : Int → Bool} {v : Int} : ∀ {l : List Nat} {K : List Int}, (∀ i ∈ l, i < K.length) → flipM (f v) (K.map f) (is_ l) = (setK K l v).map f
  | [], K, _ => rfl
  | i :: l, K, h => by
    show flipM (f v) (flip1 (f v) (K.map f) (i : Int)) (is_ l) = (setK (K.set i v) l v).map f
    rw [flip1_in (by rw [List.length_map]; exact h i (by simp)), ← map_set_b]
    exact flipM_setK fun j hj => by rw [List.length_set]; exact h j (by simp [hj])
theorem setK_same {f : Int → Bool} (hf : f 0 = false) {v : Int} : ∀ {l : List Nat} {K : List Int}, (∀ i ∈ l, f (K.getD i 0) = f v) → (setK K l v).map f = K.map f
  | [], K, _ => rfl
  | i :: l, K, h => by
    show (setK (K.set i v) l v).map f = _
    rw [setK_same hf (K := K.set i v) fun j hj => ?_, map_set_b, set_same fun _ => by rw [map_getD hf]; exact h i (by simp)]
    rw [getD_set]
    split
    · rfl
    · exact h j (by simp [hj])
end Go.Proofs.YtldhfdagmaklaaaDoor.VM
end
section
set_option maxHeartbeats 8000000
set_option linter.unusedVariables false
set_option linter.unusedSimpArgs false

/- alloc: an allocator's objects; Kind, Free, within, twice, Pages. -/
namespace Go.Proofs.YtldhfdagmaklaaaDoor.VM
open Go Go.Proofs AM B
set_option maxRecDepth 100000
/-- An allocator that is read. -/
def AV (H : Hp) (g : Nat) (K : List Int) : Prop := ∃ r gc gs gp, H[g]? = some (.mem [i6 K.length, .ptr gc 0, .ptr gs 0, .ptr gp 0] r) ∧ SetV H gc (K.map isC) ∧ SetV H gs (K.map isS) ∧ SetV H gp (K.map isP)
theorem AV.lock {H : Hp} {g : Nat} {K : List Int} (h : AV H g K) : AV (lockV H) g K := by
  obtain ⟨r, gc, gs, gp, h1, h2, h3, h4⟩ := h
  exact ⟨false, gc, gs, gp, by simp [lockV, h1, Ob.lock], h2.lock, h3.lock, h4.lock⟩
theorem AV.app {H X : Hp} {g : Nat} {K : List Int} (h : AV H g K) : AV (H ++ X) g K := by
  obtain ⟨r, gc, gs, gp, h1, h2, h3, h4⟩ := h
  exact ⟨r, gc, gs, gp, by rw [List.getElem?_append_left (get_lt h1), h1], h2.app, h3.app, h4.app⟩
def RdA (f : FuncId) (g : Nat) (K : List Int) (xs : List V) (v : V) : Prop := ∀ H, AV H g K → VC Tryd.prog prims f (.ptr g 0 :: xs) H fun u T => u = v ∧ T = H
theorem RdA.call {q : Bool} {f : FuncId} {g : Nat} {K : List Int} {xs : List V} {v : V} {H : Hp} {k : KVV} (h : RdA f g K xs v) (hS : AV H g K) (hk : k.run v H) : @CALLv Tryd.prog prims q f (.ptr g 0 :: xs) H k := CALLv.rd (S := fun H => AV H g K) AV.lock h hS hk
theorem v_Kind {g : Nat} {K : List Int} {p : Int} (hK : okK K) : RdA 26 g K [i6 p] (i6 (kindK K p)) := by
  intro H h
  obtain ⟨r, gc, gs, gp, h1, h2, h3, h4⟩ := h
  refine v_enter hC [] (fun _ _ => kn_none rfl) Tryd.func26 rfl ok26 (Nat.le_of_ble_eq_true rfl) fun hcl hbl => ?_
  have hl := hK.len
  by_cases h0 : p < 0
  · have e : kindK K p = 5 := by unfold kindK; rw [if_neg (by omega)]
    simp [h0, e, Tryd.results26]
    exact GV.refl ⟨by rw [e]; rfl, rfl⟩
  by_cases hn : (K.length : Int) ≤ p
  · have e : kindK K p = 5 := by unfold kindK; rw [if_neg (by omega)]
    simp [h0, h1, hn, e, Tryd.results26]
    exact GV.refl ⟨by rw [e]; rfl, rfl⟩
  have e : kindK K p = K.getD p.toNat 0 := by unfold kindK; rw [if_pos (by omega)]
  by_cases h2' : p < 2
  · have e2 := hK.low (i := p.toNat) (by omega)
    simp [h0, h1, hn, h2', e, e2, Tryd.results26]
    exact GV.refl ⟨by rw [e, e2]; rfl, rfl⟩
  have hh := hK.high (i := p.toNat) (by omega) (by omega)
  obtain ⟨x, hx⟩ : ∃ x, K.getD p.toNat 0 = x := ⟨_, rfl⟩
  have hP := hasM_map (f := isP) rfl (K := K) (p := p) (by omega)
  have hC := hasM_map (f := isC) rfl (K := K) (p := p) (by omega)
  have hS := hasM_map (f := isS) rfl (K := K) (p := p) (by omega)
  rw [hx] at e hh hP hC hS
  simp [h0, h1, hn, h2']
  refine (v_Has (m := K.map isP) (no := p)).call h4 ?_
  rcases (show x = 1 ∨ x = 2 ∨ x = 3 ∨ x = 4 by omega) with rfl | rfl | rfl | rfl
  · simp [hP, isP, h1]
    refine (v_Has (m := K.map isC) (no := p)).call h2 ?_
    simp [hC, isC, h1]
    refine (v_Has (m := K.map isS) (no := p)).call h3 ?_
    simp [hS, isS, Tryd.results26]
    exact GV.refl ⟨by rw [e]; rfl, rfl⟩
  · simp [hP, isP, h1]
    refine (v_Has (m := K.map isC) (no := p)).call h2 ?_
    simp [hC, isC, Tryd.results26]
    exact GV.refl ⟨by rw [e]; rfl, rfl⟩
  · simp [hP, isP, h1]
    refine (v_Has (m := K.map isC) (no := p)).call h2 ?_
    simp [hC, isC, h1]
    refine (v_Has (m := K.map isS) (no := p)).call h3 ?_
    simp [hS, isS, Tryd.results26]
    exact GV.refl ⟨by rw [e]; rfl, rfl⟩
  · simp [hP, isP, Tryd.results26]
    exact GV.refl ⟨by rw [e]; rfl, rfl⟩
theorem v_aFree {g : Nat} {K : List Int} (hK : okK K) : RdA 16 g K [] (i6 (kAll K 1).length) := by
  intro H h
  obtain ⟨r, gc, gs, gp, h1, h2, h3, h4⟩ := h
  refine v_enter hC [] (fun _ _ => kn_none rfl) Tryd.func16 rfl ok16 (Nat.le_of_ble_eq_true rfl) fun hcl hbl => ?_
  have hl := hK.len
  have hf := freeK hK
  simp
  refine v_draw (ord := [0, 1, 2, 3, 4, 5, 6, 7, 8, 9, 10, 11, 12, 13, 14, 15, 16, 17, 18, 19]) (m := 18) (by decide +kernel) (by decide +kernel) ?_
  simp [h1]
  refine (v_Count (m := K.map isC)).call h2 ?_
  simp [h1]
  refine (v_Count (m := K.map isS)).call h3 ?_
  simp [Tryd.results16]
  refine GV.refl ⟨?_, rfl⟩
  rw [w64 (n := (K.length : Int) - 2) (by omega), w64 (n := (K.length : Int) - 2 - (allN (K.map isC)).length) (by omega), w64 (by omega)]
  congr 3
  omega
theorem v_Pages {g : Nat} {K : List Int} : RdA 27 g K [] (i6 K.length) := by
  intro H h
  obtain ⟨r, gc, gs, gp, h1, h2, h3, h4⟩ := h
  refine v_enter hC [] (fun _ _ => kn_none rfl) Tryd.func27 rfl ok27 (Nat.le_of_ble_eq_true rfl) fun hcl hbl => ?_
  simp [h1, Tryd.results27]
  exact GV.refl ⟨rfl, rfl⟩
end Go.Proofs.YtldhfdagmaklaaaDoor.VM
end
section
set_option maxHeartbeats 8000000
set_option linter.unusedVariables false
set_option linter.unusedSimpArgs false

/- alloc: twice, ContainsFunc, within, what stands ahead of Give and Adopt. -/
namespace Go.Proofs.YtldhfdagmaklaaaDoor.VM
open Go Go.Proofs AM B
set_option maxRecDepth 100000
theorem rowsR_ints {K : Kn} {φ : List Rz} : ∀ {l : List Int} {vals : List Value}, RowsR K 1 (l.map ic) φ vals → vals.mapM intV = some l
  | [], vals, h => by
    simp only [List.map_nil, RowsR] at h; subst h; rfl
  | x :: l, vals, h => by
    simp only [List.map_cons, RowsR, ic, VRs] at h
    obtain ⟨a, us, rfl, _, ⟨a0, us0, rfl, hv, rfl⟩, hr⟩ := h
    obtain ⟨rfl, _⟩ := hv
    have ih := rowsR_ints hr
    rw [List.cons_append, List.nil_append, List.mapM_cons, ih]
    rfl
theorem v_twice {kk : Bool} {l : List Int} (hl : l.length ≤ 12) : A 34 [IS kk l] (bo (TW.twB l)) := by
  intro H K φ σ us hR ha
  obtain ⟨a, us', e, hv, e2⟩ := ha
  subst e2
  obtain ⟨vals, h1, h2⟩ := srcV_sound (P := Tryd.prog) (tx := 22) hR (s := 1) (xs := l.map ic) (by omega) (by unfold srcV; rw [Tryd.underlying22]; rfl) hv
  refine ac_prim (v := .bool (TW.twB l)) (σ' := σ) ?_ ⟨K, φ, bo (TW.twB l), H, .refl _ _ _, hR, ⟨rfl, rfl⟩, rfl, rfl⟩
  rw [prims_tw]
  unfold twA
  rw [if_pos rfl, e]
  simp only [h1, List.length_map]
  rw [if_pos hl, rowsR_ints h2]
  rfl
theorem v_IndexI {H : Hp} {kk : Bool} {l : List Int} {F : FuncId} {c : V} {pr : Int → Bool} (hl : l.length < 2 ^ 48) (hF : ∀ x ∈ l, VC Tryd.prog prims F [i6 x, c] H fun u T => u = bo (pr x) ∧ T = H) :
    VC Tryd.prog prims 54 [IS kk l, .fn F [] [c]] H fun u T => (∃ r, u = i6 r ∧ decide (0 ≤ r) = l.any pr) ∧ T = H := by
  refine v_enter hC [] (fun _ _ => kn_none rfl) Tryd.func54 rfl ok54 (Nat.le_of_ble_eq_true rfl) fun hcl hbl => ?_
  simp
  refine v_loopX hC (fun (k : Nat) e T => T = H ∧ e 0 = IS kk l ∧ e 1 = .fn F [] [c] ∧ e 7 = i6 l.length ∧ e 8 = i6 k ∧ k ≤ l.length ∧ ∀ j y, j < k → l[j]? = some y → pr y = false) (fun k => l.length - k) 0 (G.refl ?_) ?_
  · simp
  · rintro k e T ⟨rfl, h0, h1, h7, h8, hk, hall⟩
    simp [h0, h1, h7, h8]
    refine CondV.dec (fun hlt => ?_) (fun hge => ?_)
    · have hlt : k < l.length := by omega
      obtain ⟨x, hx⟩ : ∃ x, l[k]? = some x := ⟨_, List.getElem?_eq_getElem hlt⟩
      have hmem : x ∈ l := List.mem_of_getElem? hx
      simp [h0, h1, h7, h8, hx]
      refine CALLv.at (hF _ hmem) fun u T' hu => ?_
      obtain ⟨e1, e2⟩ := hu
      subst e1; subst e2
      simp
      refine CondV.on (fun hb => ?_) (fun hb => ?_)
      · have ha : l.any pr = true := List.any_eq_true.2 ⟨_, hmem, hb⟩
        simp [Tryd.results54]
        exact GV.refl ⟨⟨(k : Int), rfl, by rw [ha]; simp⟩, rfl⟩
      · simp [h0, h1, h7, h8, w64 (n := (k : Int) + 1) (by omega)]
        refine GH.refl ⟨k + 1, ⟨rfl, by simp [h0], by simp [h1], by simp [h7], by simp, hlt, fun j y hj hy => ?_⟩, by omega⟩
        by_cases hjk : j = k
        · subst hjk; rw [hx] at hy; cases hy; exact hb
        · exact hall j y (by omega) hy
    · have ha : l.any pr = false := by
        rw [List.any_eq_false]
        intro x hx
        obtain ⟨j, hj, rfl⟩ := List.mem_iff_getElem.1 hx
        have := hall j _ (by omega) (List.getElem?_eq_getElem hj)
        simpa using this
      simp [Tryd.results54]
      exact GV.refl ⟨⟨-1, rfl, by rw [ha]; rfl⟩, rfl⟩
theorem v_ContainsI {H : Hp} {kk : Bool} {l : List Int} {F : FuncId} {c : V} {pr : Int → Bool} (hl : l.length < 2 ^ 48) (hF : ∀ x ∈ l, VC Tryd.prog prims F [i6 x, c] H fun u T => u = bo (pr x) ∧ T = H) :
    VC Tryd.prog prims 35 [IS kk l, .fn F [] [c]] H fun u T => u = bo (l.any pr) ∧ T = H := by
  refine v_enter hC [] (fun _ _ => kn_none rfl) Tryd.func35 rfl ok35 (Nat.le_of_ble_eq_true rfl) fun hcl hbl => ?_
  simp
  refine CALLv.at (v_IndexI (kk := kk) hl hF) fun u T hu => ?_
  obtain ⟨⟨r, e1, hr⟩, e2⟩ := hu
  subst e1; subst e2
  simp [Tryd.results35]
  exact GV.refl ⟨by rw [← hr]; rfl, rfl⟩
/-- Are all pages from the first that may be taken to the last? -/
def inK (n : Nat) (l : List Int) : Bool := !(l.any fun p => decide (p < 2) || decide ((n : Int) ≤ p))
theorem v_within {g : Nat} {K : List Int} {kk : Bool} {l : List Int} (hl : l.length < 2 ^ 48) : ∀ H, AV H g K → VC Tryd.prog prims 29 [.ptr g 0, IS kk l] H fun u T => u = i6 (if inK K.length l = true then 0 else 10) ∧ T = H := by
  intro H h
  obtain ⟨r, gc, gs, gp, h1, h2, h3, h4⟩ := h
  refine v_enter hC [] (fun _ _ => kn_none rfl) Tryd.func29 rfl ok29 (Nat.le_of_ble_eq_true rfl) fun hcl hbl => ?_
  have hX : ∀ X, (H ++ X)[g]? = some (.mem [i6 K.length, .ptr gc 0, .ptr gs 0, .ptr gp 0] r) := fun X => by rw [List.getElem?_append_left (get_lt h1), h1]
  simp
  refine CALLv.at (v_ContainsI (kk := kk) (F := 48) (c := .ptr H.length 0) (pr := fun p => decide (p < 2) || decide ((K.length : Int) ≤ p)) hl (fun x _ => ?_)) fun u T hu => ?_
  · have h5 := hX [.mem [.ptr g 0] true]
    have h6 : (H ++ [.mem [.ptr g 0] true])[H.length]? = some (.mem [.ptr g 0] true) := by simp
    generalize H ++ [.mem [.ptr g 0] true] = U at h5 h6
    obtain ⟨b, hb⟩ : ∃ b, b = H.length := ⟨_, rfl⟩
    rw [← hb] at h6 ⊢
    clear hcl hbl
    refine v_enter hC [] (fun _ _ => kn_none rfl) Tryd.func48 rfl ok48 (Nat.le_of_ble_eq_true rfl) fun hcl hbl => ?_
    by_cases hx : x < 2
    · simp [hx, Tryd.results48]
      exact GV.refl ⟨by simp [hx], rfl⟩
    · simp [hx, h5, h6, Tryd.results48]
      exact GV.refl ⟨by simp [hx], rfl⟩
  · obtain ⟨e1, e2⟩ := hu
    subst e1; subst e2
    have hv : inK K.length l = !(l.any fun p => decide (p < 2) || decide ((K.length : Int) ≤ p)) := rfl
    cases hc : (l.any fun p => decide (p < 2) || decide ((K.length : Int) ≤ p)) with
    | true =>
      rw [hc] at hv
      simp [Tryd.results29]
      first | (refine GV.ans hcl ?_; simp [hv]; done) | (refine GV.ans0 ?_; simp [hv]; done)
    | false =>
      rw [hc] at hv
      simp [Tryd.results29]
      first | (refine GV.ans hcl ?_; simp [hv]; done) | (refine GV.ans0 ?_; simp [hv]; done)
end Go.Proofs.YtldhfdagmaklaaaDoor.VM
end
section
set_option maxHeartbeats 8000000
set_option linter.unusedVariables false
set_option linter.unusedSimpArgs false

/- alloc: an allocator of one's own; New, Take, Adopt, Give. -/
namespace Go.Proofs.YtldhfdagmaklaaaDoor.VM
open Go Go.Proofs AM B
set_option maxRecDepth 100000
theorem GV.retSet {H X : Hp} {g : Nat} {y : Ob} {x v : V} {R : V → Hp → Prop} (hcl : Cl H) (hy : y.bel H.length) (hup : Up H.length [] [] (H.set g y ++ X) v x) (h : R v (H.set g y)) : GV H.length R x (H.set g y ++ X) := by
  have h2 := GV.ret (H := H.set g y) (X := X) (x := x) (R := R) v (Cl.set hcl hy) (by rw [List.length_set]; exact hup) h
  rw [List.length_set] at h2
  exact h2
theorem CALLv.atF {P : Program} {prim : CallF} {H H0 : Hp} {f : FuncId} {args : List V} {R : V → Hp → Prop} {k : KVV} (hf : Frz H H0) (h : VC P prim f args H0 R) (hk : ∀ v T, R v T → k.run v T) : @CALLv P prim false f args H k := ⟨H0, hf, h.mono hk⟩
theorem CALLv.rdS {S : Hp → Prop} {q : Bool} {f : FuncId} {args : List V} {v : Nat → V} {m : List Bool} {H : Hp} {k : KVV} (hl : S H → S (lockV H)) (h : ∀ H, S H → VC Tryd.prog prims f args H fun u T => ∃ w t, u = v H.length ∧ T = H ++ setO H.length w t m) (hS : S H) (hk : ∀ w t, k.run (v H.length) (H ++ setO H.length w t m)) : @CALLv Tryd.prog prims q f args H k := by
  refine ⟨H, .refl, ?_⟩
  cases q with
  | false => exact (h H hS).mono fun u T ⟨w, t, e1, e2⟩ => by subst e2; subst e1; exact hk w t
  | true =>
    refine (h (lockV H) (hl hS)).mono fun u T hu => ?_
    obtain ⟨w, t, e1, e2⟩ := hu
    subst e2; subst e1
    have hlen : (lockV H).length = H.length := by simp [lockV]
    exact ⟨setO (lockV H).length w t m, rfl, by simp [setO, Ob.rwOk], by rw [hlen]; exact hk w t⟩
/-- Where an allocator's sets stand. -/
structure Ax where
  gc : Nat
  wc : Nat
  vc : Nat
  tc : Bool
  gs : Nat
  ws : Nat
  vs : Nat
  ts : Bool
  gp : Nat
  wp : Nat
  vp : Nat
  tp : Bool
/-- An allocator of one's own. -/
structure AW (H : Hp) (g : Nat) (x : Ax) (K : List Int) : Prop where
  ob : H[g]? = some (.mem [i6 K.length, .ptr x.gc 0, .ptr x.gs 0, .ptr x.gp 0] true)
  c : SetW H x.gc x.wc x.vc x.tc (K.map isC)
  s : SetW H x.gs x.ws x.vs x.ts (K.map isS)
  p : SetW H x.gp x.wp x.vp x.tp (K.map isP)
  cs : x.wc ≠ x.ws
  cp : x.wc ≠ x.wp
  sp : x.ws ≠ x.wp
theorem AW.v {H : Hp} {g : Nat} {x : Ax} {K : List Int} (h : AW H g x K) : AV H g K := ⟨true, x.gc, x.gs, x.gp, h.ob, h.c.v, h.s.v, h.p.v⟩
/-- What may be changed. -/
def fp (g : Nat) (x : Ax) : List Nat := [g, x.wc, x.ws, x.wp]
def FrA (H T : Hp) (l : List Nat) : Prop := H.length ≤ T.length ∧ ∀ i, i < H.length → i ∉ l → T[i]? = H[i]?
theorem FrA.refl (H : Hp) (l : List Nat) : FrA H H l := ⟨Nat.le_refl _, fun _ _ _ => rfl⟩
def NewF (H : Hp) (g : Nat) (x x' : Ax) : Prop := ∀ i ∈ fp g x', i ∈ fp g x ∨ H.length ≤ i
structure Mut (H T : Hp) (g : Nat) (x x' : Ax) (K' : List Int) : Prop where
  aw : AW T g x' K'
  fr : FrA H T (fp g x)
  nw : NewF H g x x'
theorem Mut.refl {H : Hp} {g : Nat} {x : Ax} {K : List Int} (h : AW H g x K) : Mut H H g x x K := ⟨h, .refl _ _, fun _ hi => .inl hi⟩
theorem SetW.app {H X : Hp} {g gw v : Nat} {t : Bool} {m : List Bool} (h : SetW H g gw v t m) : SetW (H ++ X) g gw v t m :=
  ⟨h.1, by rw [List.getElem?_append_left (get_lt h.2.1), h.2.1], by rw [List.getElem?_append_left (get_lt h.2.2), h.2.2]⟩
theorem AW.app {H X : Hp} {g : Nat} {x : Ax} {K : List Int} (h : AW H g x K) : AW (H ++ X) g x K :=
  ⟨by rw [List.getElem?_append_left (get_lt h.ob), h.ob], h.c.app, h.s.app, h.p.app, h.cs, h.cp, h.sp⟩
theorem SetW.other {H : Hp} {g gw v gw' v' : Nat} {t t' : Bool} {m m' : List Bool} (h : SetW H g gw v t m) (hx : ∃ l r, H[gw']? = some (.vec v' l 1 r t')) (hne : gw ≠ gw') : SetW (putW H gw' v' t' m') g gw v t m := by
  obtain ⟨l, r, hx⟩ := hx
  have h1 : g ≠ gw' := fun e => by
    have := h.2.1
    rw [e, hx] at this; cases this
  exact ⟨h.1, by unfold putW; rw [List.getElem?_set_ne (Ne.symm h1), h.2.1], by unfold putW; rw [List.getElem?_set_ne (Ne.symm hne), h.2.2]⟩
theorem AW.obj {H : Hp} {g : Nat} {x : Ax} {K : List Int} (h : AW H g x K) {gw v : Nat} {l : List (List V)} {t r : Bool} (hx : H[gw]? = some (.vec v l 1 r t)) {m : List Bool} {v' : Nat} {t' : Bool} : (putW H gw v' t' m)[g]? = some (.mem [i6 K.length, .ptr x.gc 0, .ptr x.gs 0, .ptr x.gp 0] true) := by
  have h1 : g ≠ gw := fun e => by
    have := h.ob
    rw [e, hx] at this; cases this
  unfold putW
  rw [List.getElem?_set_ne (Ne.symm h1), h.ob]
theorem AW.putS {H : Hp} {g : Nat} {x : Ax} {K K' : List Int} (h : AW H g x K) (hl : K'.length = K.length) (hc : K'.map isC = K.map isC) (hp : K'.map isP = K.map isP) : AW (putW H x.ws x.vs x.ts (K'.map isS)) g x K' := by
  refine ⟨by rw [hl]; exact h.obj h.s.2.2, ?_, h.s.put (by simp [hl]), ?_, h.cs, h.cp, h.sp⟩
  · rw [hc]; exact h.c.other ⟨_, _, h.s.2.2⟩ h.cs
  · rw [hp]; exact h.p.other ⟨_, _, h.s.2.2⟩ (Ne.symm h.sp)
theorem AW.putP {H : Hp} {g : Nat} {x : Ax} {K K' : List Int} (h : AW H g x K) (hl : K'.length = K.length) (hc : K'.map isC = K.map isC) (hs : K'.map isS = K.map isS) : AW (putW H x.wp x.vp x.tp (K'.map isP)) g x K' := by
  refine ⟨by rw [hl]; exact h.obj h.p.2.2, ?_, ?_, h.p.put (by simp [hl]), h.cs, h.cp, h.sp⟩
  · rw [hc]; exact h.c.other ⟨_, _, h.p.2.2⟩ h.cp
  · rw [hs]; exact h.s.other ⟨_, _, h.p.2.2⟩ h.sp
theorem AW.putC {H : Hp} {g : Nat} {x : Ax} {K K' : List Int} (h : AW H g x K) (hl : K'.length = K.length) (hs : K'.map isS = K.map isS) (hp : K'.map isP = K.map isP) : AW (putW H x.wc x.vc x.tc (K'.map isC)) g x K' := by
  refine ⟨by rw [hl]; exact h.obj h.c.2.2, h.c.put (by simp [hl]), ?_, ?_, h.cs, h.cp, h.sp⟩
  · rw [hs]; exact h.s.other ⟨_, _, h.c.2.2⟩ (Ne.symm h.cs)
  · rw [hp]; exact h.p.other ⟨_, _, h.c.2.2⟩ (Ne.symm h.cp)
theorem frA_put {H : Hp} {gw v : Nat} {t : Bool} {m : List Bool} {l : List Nat} (hl : gw ∈ l) : FrA H (putW H gw v t m) l :=
  ⟨by unfold putW; simp, fun i _ hi => by
    unfold putW
    rw [List.getElem?_set_ne]
    intro e; subst e; exact hi hl⟩
/-- What Take says; which pages. -/
def takeE (K : List Int) (n : Int) : Int := if n < 0 then 1 else if (kAll K 1).length < n then 6 else 0
def takeL (K : List Int) (n : Int) : List Nat := if takeE K n = 0 then (kAll K 1).take n.toNat else []
def takeK (K : List Int) (n : Int) : List Int := setK K (takeL K n) 3
theorem takeL_lt {K : List Int} {n : Int} {i : Nat} (h : i ∈ takeL K n) : i < K.length ∧ K.getD i 0 = 1 := by
  unfold takeL at h
  split at h
  · exact mem_kAll.1 (List.mem_of_mem_take h)
  · simp at h
theorem takeK_c {K : List Int} {n : Int} : (takeK K n).map isC = K.map isC := setK_same rfl fun i hi => by rw [(takeL_lt hi).2]; rfl
theorem takeK_p {K : List Int} {n : Int} : (takeK K n).map isP = K.map isP := setK_same rfl fun i hi => by rw [(takeL_lt hi).2]; rfl
theorem takeK_s {K : List Int} {n : Int} : flipM true (K.map isS) (is_ (takeL K n)) = (takeK K n).map isS := flipM_setK (f := isS) (v := 3) fun i hi => (takeL_lt hi).1
theorem takeK_nil {K : List Int} {n : Int} (h : takeE K n ≠ 0) : takeK K n = K := by unfold takeK takeL; rw [if_neg h]; rfl
theorem takeK_ok {K : List Int} {n : Int} (h : okK K) : okK (takeK K n) := setK_ok (by omega) h fun i hi => by
  have h1 := takeL_lt hi
  rcases Nat.lt_or_ge i 2 with h2 | h2
  · rw [h.low h2] at h1; exact absurd h1.2 (by omega)
  · exact h2
set_option maxHeartbeats 8000000 in
theorem v_Take {H : Hp} {g : Nat} {x : Ax} {K : List Int} {n : Int} (h : AW H g x K) (hK : okK K) :
    VC Tryd.prog prims 10 [.ptr g 0, i6 n] H fun u T => u = .tup [IS true (is_ (takeL K n)), i6 (takeE K n)] ∧ Mut H T g x x (takeK K n) := by
  refine v_enter hC [] (fun _ _ => kn_none rfl) Tryd.func10 rfl ok10 (Nat.le_of_ble_eq_true rfl) fun hcl hbl => ?_
  have hl := hK.len
  have hfl : (kAll K 1).length ≤ K.length := by have := freeK hK; omega
  simp
  by_cases h0 : n < 0
  · have e : takeE K n = 1 := by unfold takeE; rw [if_pos h0]
    have el : takeL K n = [] := by unfold takeL; rw [if_neg (by rw [e]; omega)]
    simp [h0, Tryd.results10]
    rw [e, takeK_nil (by rw [e]; omega), el]
    have := GV.ret (H := H) (X := []) (R := fun u T => u = .tup [IS true (is_ []), i6 1] ∧ Mut H T g x x K) (x := .tup [.lit (.slice none 0 0), i6 1]) (.tup [IS true (is_ []), i6 1]) hcl (by simp [is_]) ⟨rfl, .refl h⟩
    rw [List.append_nil] at this
    exact this
  simp [h0]
  refine (v_aFree hK).call h.v ?_
  by_cases h1 : ((kAll K 1).length : Int) < n
  · have e : takeE K n = 6 := by unfold takeE; rw [if_neg h0, if_pos h1]
    have el : takeL K n = [] := by unfold takeL; rw [if_neg (by rw [e]; omega)]
    simp [h1, Tryd.results10]
    rw [e, takeK_nil (by rw [e]; omega), el]
    have := GV.ret (H := H) (X := []) (R := fun u T => u = .tup [IS true (is_ []), i6 6] ∧ Mut H T g x x K) (x := .tup [.lit (.slice none 0 0), i6 6]) (.tup [IS true (is_ []), i6 6]) hcl (by simp [is_]) ⟨rfl, .refl h⟩
    rw [List.append_nil] at this
    exact this
  have eE : takeE K n = 0 := by unfold takeE; rw [if_neg h0, if_neg h1]
  have el : takeL K n = (kAll K 1).take n.toNat := by unfold takeL; rw [if_pos eE]
  simp [h1]
  refine v_loopX hC (fun (p : Nat) e T => ∃ w t, T = H ++ [.vec w ((is_ (frK K p)).map ic) 1 true t] ∧ e 0 = .ptr g 0 ∧ e 1 = i6 n ∧ e 6 = .own H.length w ∧ e 7 = i6 p ∧ 2 ≤ p ∧ p ≤ K.length ∧ ((frK K p).length : Int) ≤ n) (fun p => K.length - p) 2 ?_ ?_
  · refine G.nilT0 (s := 1) 6 hcl (Nat.le_refl _) (by omega) (by simp) ?_
    exact ⟨0, true, by rw [frK_2 hK]; simp [is_], by simp [get_lt h.ob], by simp, by simp, by simp, by simp, by omega, by rw [frK_2 hK]; simp; omega⟩
  · rintro p e T ⟨w, t, rfl, e0, e1, e6, e7, hp, hpl, hlen⟩
    have hfi : (is_ (frK K p)).length = (frK K p).length := is_len _
    simp [e1, e6, hfi]
    refine CondV.dec (fun hlt => ?_) (fun hge => ?_)
    · have hp2 : p < K.length := by
        rcases Nat.lt_or_ge p K.length with h2 | h2
        · exact h2
        · exfalso
          have hpp : p = K.length := by omega
          subst hpp
          have : frK K K.length = kAll K 1 := rfl
          rw [this] at hlt
          omega
      simp [e0, e7]
      refine (v_Kind hK).call h.v.app ?_
      have hk : kindK K (p : Int) = K.getD p 0 := by unfold kindK; rw [if_pos (by omega)]; rfl
      obtain ⟨y, hy⟩ : ∃ y, K.getD p 0 = y := ⟨_, rfl⟩
      have hs := frK_succ K p
      rw [hk, hy]
      rw [hy] at hs
      have hfp := (frK_pre hpl).length_le
      by_cases h1 : y = 1
      · rw [if_pos h1] at hs
        simp [h1, e6, e7, w64 (n := (p : Int) + 1) (by omega)]
        refine ⟨by rw [hfi]; omega, GH.refl ⟨p + 1, ⟨w + 1, t, ?_, by simp [e0], by simp [e1], by simp, by simp, by omega, hp2, ?_⟩, by omega⟩⟩
        · rw [hs, is_app]; simp [is_]
        · rw [hs, List.length_append, List.length_singleton]; omega
      · rw [if_neg h1] at hs
        simp [h1, e7, w64 (n := (p : Int) + 1) (by omega)]
        refine GH.refl ⟨p + 1, ⟨w, t, by rw [hs], by simp [e0], by simp [e1], by simp [e6], by simp, by omega, hp2, by rw [hs]; exact hlen⟩, by omega⟩
    · have hnl : (frK K p).length = n.toNat := by omega
      have hfl2 : frK K p = takeL K n := by rw [el, ← hnl]; exact frK_take hpl
      have htl2 : (takeL K n).length ≤ K.length := by rw [← hfl2]; exact Nat.le_trans (frK_pre hpl).length_le hfl
      rw [hfl2] at *
      have hob := h.app (X := [.vec w ((is_ (takeL K n)).map ic) 1 true t])
      simp [e0, e6, hob.ob]
      have htl := (frK_pre hpl).length_le
      have hz : Frz (H ++ [.vec w ((is_ (takeL K n)).map ic) 1 true t]) (H ++ [.fro w ((is_ (takeL K n)).map ic) 1]) := by
        have h2 := Frz.vec (H := H ++ [.vec w ((is_ (takeL K n)).map ic) 1 true t]) (g := H.length) (w := w) (s := 1) (rows := (is_ (takeL K n)).map ic) (rw := true) (t := t) (by simp) (by simp [PureR_map])
        have e2 : (H ++ [Ob.vec w ((is_ (takeL K n)).map ic) 1 true t]).set H.length (.fro w ((is_ (takeL K n)).map ic) 1) = H ++ [.fro w ((is_ (takeL K n)).map ic) 1] := by simp
        rw [e2] at h2
        exact h2
      have hsl := get_lt h.s.2.1
      have hwl := get_lt h.s.2.2
      refine CALLv.atF hz (VC.up (args' := [.ptr x.gs 0, IS true (is_ (takeL K n))]) (by simp [UpFz, PureR_map]; omega) (v_Add (kk := true) (m := K.map isS) (l := is_ (takeL K n)) (g := x.gs) (gw := x.ws) (v := x.vs) (t := x.ts) h.s.app (by rw [is_len]; omega))) fun u T hu => ?_
      obtain ⟨e2, e3⟩ := hu
      rw [takeK_s] at e3
      have e4 : T = H.set x.ws (.vec x.vs ((words ((takeK K n).map isS)).map wc) 1 true x.ts) ++ [.fro w ((is_ (takeL K n)).map ic) 1] := by
        rw [e3]; unfold putW; rw [List.set_append_left _ _ hwl]
      subst e2; subst e4
      simp [e6, Tryd.results10]
      rw [eE]
      exact GV.retSet (v := .tup [IS true (is_ (takeL K n)), i6 0]) hcl (by simp [Ob.bel, Bels, Bel]) (by simp [UpFz, PureR_map]) ⟨rfl, h.putS (by unfold takeK; exact setK_len _ _ _) takeK_c takeK_p, frA_put (by simp [fp]), fun _ hi => .inl hi⟩
end Go.Proofs.YtldhfdagmaklaaaDoor.VM
end
section
set_option maxHeartbeats 8000000
set_option linter.unusedVariables false
set_option linter.unusedSimpArgs false

/- alloc: Adopt, Give. -/
namespace Go.Proofs.YtldhfdagmaklaaaDoor.VM
open Go Go.Proofs AM B
set_option maxRecDepth 100000
theorem FrA.trans {H T U : Hp} {l : List Nat} (h1 : FrA H T l) (h2 : FrA T U l) : FrA H U l := ⟨Nat.le_trans h1.1 h2.1, fun i hi hl => (h2.2 i (Nat.lt_of_lt_of_le hi h1.1) hl).trans (h1.2 i hi hl)⟩
theorem FrA.app (H X : Hp) (l : List Nat) : FrA H (H ++ X) l := ⟨by simp, fun i hi _ => List.getElem?_append_left hi⟩
def nn (l : List Int) : List Nat := l.map Int.toNat
theorem is_nn {l : List Int} (h : ∀ p ∈ l, 0 ≤ p) : is_ (nn l) = l := by
  unfold is_ nn
  rw [List.map_map]
  conv => rhs; rw [← List.map_id l]
  exact List.map_congr_left fun p hp => by have := h p hp; simp; omega
theorem inK_iff {n : Nat} {l : List Int} : inK n l = true ↔ ∀ p ∈ l, 2 ≤ p ∧ p < n := by
  unfold inK
  rw [Bool.not_eq_true', List.any_eq_false]
  constructor
  · intro h p hp
    have := h p hp
    simp at this
    omega
  · intro h p hp
    have := h p hp
    simp
    omega
/-- What Adopt says, and makes. -/
def adoptE (K : List Int) (l : List Int) : Int := if inK K.length l = false then 10 else if (TW.twB l || l.any fun p => decide (kindK K p ≠ 1)) = true then 8 else 0
def adoptK (K : List Int) (l : List Int) : List Int := if adoptE K l = 0 then setK K (nn l) 3 else K
theorem adopt_in {K l : List Int} (h : adoptE K l = 0) : (∀ p ∈ l, 2 ≤ p ∧ p < K.length) ∧ TW.twB l = false ∧ ∀ p ∈ l, K.getD p.toNat 0 = 1 := by
  unfold adoptE at h
  by_cases h1 : inK K.length l = false
  · rw [if_pos h1] at h; cases h
  rw [if_neg h1] at h
  by_cases h2 : (TW.twB l || l.any fun p => decide (kindK K p ≠ 1)) = true
  · rw [if_pos h2] at h; cases h
  have h3 := inK_iff.1 (by simpa using h1)
  have h4 := Bool.or_eq_false_iff.1 (by simpa using h2 : (TW.twB l || l.any fun p => decide (kindK K p ≠ 1)) = false)
  refine ⟨h3, h4.1, fun p hp => ?_⟩
  have h5 := List.any_eq_false.1 h4.2 p hp
  have h6 := h3 p hp
  unfold kindK at h5
  rw [if_pos (by omega)] at h5
  simpa using h5
theorem adoptK_ok {K l : List Int} (hK : okK K) : okK (adoptK K l) := by
  unfold adoptK
  split
  · rename_i h
    obtain ⟨h1, _, _⟩ := adopt_in h
    refine setK_ok (by omega) hK fun i hi => ?_
    obtain ⟨p, hp, rfl⟩ := List.mem_map.1 hi
    have := h1 p hp
    omega
  · exact hK
theorem v_Adopt1 {H : Hp} {g b : Nat} {K : List Int} {p : Int} {r : Bool} (h : AV H g K) (hK : okK K) (hb : H[b]? = some (.mem [.ptr g 0] r)) : VC Tryd.prog prims 40 [i6 p, .ptr b 0] H fun u T => u = bo (decide (kindK K p ≠ 1)) ∧ T = H := by
  refine v_enter hC [] (fun _ _ => kn_none rfl) Tryd.func40 rfl ok40 (Nat.le_of_ble_eq_true rfl) fun hcl hbl => ?_
  simp [hb]
  refine (v_Kind hK).call h ?_
  simp [Tryd.results40]
  exact GV.refl ⟨by simp [bne], rfl⟩
theorem v_Adopt {H : Hp} {g : Nat} {x : Ax} {K : List Int} {kk : Bool} {l : List Int} (h : AW H g x K) (hK : okK K) (hl : l.length ≤ 12) :
    VC Tryd.prog prims 15 [.ptr g 0, IS kk l] H fun u T => u = i6 (adoptE K l) ∧ Mut H T g x x (adoptK K l) := by
  have hX : AW (H ++ [.mem [.ptr g 0] true]) g x K := h.app
  refine v_enter hC [] (fun _ _ => kn_none rfl) Tryd.func15 rfl ok15 (Nat.le_of_ble_eq_true rfl) fun hcl hbl => ?_
  simp
  refine CALLv.at (v_within (kk := kk) (l := l) (by omega) _ hX.v) fun u T hu => ?_
  obtain ⟨e1, e2⟩ := hu
  subst e1; subst e2
  cases hin : inK K.length l with
  | false =>
    have e : adoptE K l = 10 := by unfold adoptE; rw [if_pos hin]
    have eK : adoptK K l = K := by unfold adoptK; rw [if_neg (by rw [e]; omega)]
    simp [Tryd.results15]
    exact GV.refl ⟨by rw [e]; rfl, by rw [eK]; exact ⟨hX, .app _ _ _, fun _ hi => .inl hi⟩⟩
  | true =>
    simp
    refine (v_twice (kk := kk) hl).call ?_
    have hc : adoptE K l = if (TW.twB l || l.any fun p => decide (kindK K p ≠ 1)) = true then 8 else 0 := by unfold adoptE; rw [if_neg (by simp [hin])]
    have bad : (TW.twB l || l.any fun p => decide (kindK K p ≠ 1)) = true → adoptE K l = 8 ∧ adoptK K l = K := fun hb => by
      rw [if_pos hb] at hc
      exact ⟨hc, by unfold adoptK; rw [if_neg (by rw [hc]; omega)]⟩
    cases ht : TW.twB l with
    | true =>
      obtain ⟨e, eK⟩ := bad (by rw [ht]; rfl)
      simp [Tryd.results15]
      exact GV.refl ⟨by rw [e]; rfl, by rw [eK]; exact ⟨hX, .app _ _ _, fun _ hi => .inl hi⟩⟩
    | false =>
      simp
      refine CALLv.at (v_ContainsI (kk := kk) (F := 40) (c := .ptr H.length 0) (pr := fun p => decide (kindK K p ≠ 1)) (by omega) (fun y _ => v_Adopt1 (r := true) hX.v hK (by simp))) fun u T hu => ?_
      obtain ⟨e1, e2⟩ := hu
      subst e1; subst e2
      cases ha : (l.any fun p => decide (kindK K p ≠ 1)) with
      | true =>
        obtain ⟨e, eK⟩ := bad (by rw [ha]; simp)
        simp [Tryd.results15]
        exact GV.refl ⟨by rw [e]; rfl, by rw [eK]; exact ⟨hX, .app _ _ _, fun _ hi => .inl hi⟩⟩
      | false =>
        have e : adoptE K l = 0 := by rw [hc, ht, ha]; rfl
        have eK : adoptK K l = setK K (nn l) 3 := by unfold adoptK; rw [if_pos e]
        obtain ⟨h1, _, h3⟩ := adopt_in e
        have hin2 : ∀ i ∈ nn l, i < K.length ∧ K.getD i 0 = 1 := fun i hi => by
          obtain ⟨p, hp, rfl⟩ := List.mem_map.1 hi
          have := h1 p hp
          exact ⟨by omega, h3 p hp⟩
        have hs : flipM true (K.map isS) l = (setK K (nn l) 3).map isS := by
          have := flipM_setK (f := isS) (v := 3) (l := nn l) (K := K) fun i hi => (hin2 i hi).1
          rw [is_nn fun p hp => by have := h1 p hp; omega] at this
          exact this
        simp [hX.ob]
        refine CALLv.at (v_Add (kk := kk) (m := K.map isS) (l := l) (g := x.gs) (gw := x.ws) (v := x.vs) (t := x.ts) hX.s (by omega)) fun u T hu => ?_
        obtain ⟨e2, e3⟩ := hu
        rw [hs] at e3
        subst e2; subst e3
        simp [Tryd.results15]
        refine GV.refl ⟨by rw [e]; rfl, ?_⟩
        rw [eK]
        exact ⟨hX.putS (setK_len _ _ _) (setK_same rfl fun i hi => by rw [(hin2 i hi).2]; rfl) (setK_same rfl fun i hi => by rw [(hin2 i hi).2]; rfl), (FrA.app _ _ _).trans (frA_put (by simp [fp])), fun _ hi => .inl hi⟩
end Go.Proofs.YtldhfdagmaklaaaDoor.VM
end
section
set_option maxHeartbeats 8000000
set_option linter.unusedVariables false
set_option linter.unusedSimpArgs false

/- alloc: Give. -/
namespace Go.Proofs.YtldhfdagmaklaaaDoor.VM
open Go Go.Proofs AM B
set_option maxRecDepth 100000
/-- What Give says, and makes. -/
def bad7 (K : List Int) (p : Int) : Bool := decide (kindK K p = 1) || decide (kindK K p = 4)
def giveE (K : List Int) (l : List Int) : Int := if inK K.length l = false then 10 else if (TW.twB l || l.any (bad7 K)) = true then 11 else 0
def give1 (K : List Int) (p : Int) : List Int := K.set p.toNat (if K.getD p.toNat 0 = 3 then 1 else 4)
def giveF (K : List Int) (l : List Int) : List Int := l.foldl give1 K
def giveK (K : List Int) (l : List Int) : List Int := if giveE K l = 0 then giveF K l else K
theorem giveF_len (l : List Int) : ∀ K : List Int, (giveF K l).length = K.length := by
  induction l with
  | nil => intro K; rfl
  | cons p l ih => intro K; show (giveF (give1 K p) l).length = _; rw [ih]; unfold give1; rw [List.length_set]
theorem giveF_snoc (K : List Int) (l : List Int) (p : Int) : giveF K (l ++ [p]) = give1 (giveF K l) p := by unfold giveF; rw [List.foldl_append]; rfl
theorem giveF_other : ∀ {l : List Int} {K : List Int} {p : Int}, (∀ q ∈ l, 0 ≤ q) → 0 ≤ p → p ∉ l → (giveF K l).getD p.toNat 0 = K.getD p.toNat 0
  | [], K, p, _, _, _ => rfl
  | q :: l, K, p, h, h0, hn => by
    show (giveF (give1 K q) l).getD p.toNat 0 = _
    rw [giveF_other (fun r hr => h r (by simp [hr])) h0 (fun hp => hn (by simp [hp]))]
    unfold give1
    rw [getD_set, if_neg]
    have hq := h q (by simp)
    have : p ≠ q := fun e => hn (by simp [e])
    omega
theorem give1_ok {K : List Int} {p : Int} (hK : okK K) (hp : 2 ≤ p) : okK (give1 K p) := hK.set (by omega) (by split <;> omega)
theorem giveF_ok : ∀ {l : List Int} {K : List Int}, okK K → (∀ q ∈ l, 2 ≤ q) → okK (giveF K l)
  | [], K, hK, _ => hK
  | q :: l, K, hK, h => giveF_ok (l := l) (K := give1 K q) (give1_ok hK (h q (by simp))) fun r hr => h r (by simp [hr])
theorem give_in {K l : List Int} (hK : okK K) (h : giveE K l = 0) : (∀ p ∈ l, 2 ≤ p ∧ p < K.length) ∧ TW.twB l = false ∧ ∀ p ∈ l, K.getD p.toNat 0 = 2 ∨ K.getD p.toNat 0 = 3 := by
  unfold giveE at h
  by_cases h1 : inK K.length l = false
  · rw [if_pos h1] at h; cases h
  rw [if_neg h1] at h
  by_cases h2 : (TW.twB l || l.any (bad7 K)) = true
  · rw [if_pos h2] at h; cases h
  have h3 := inK_iff.1 (by simpa using h1)
  have h4 := Bool.or_eq_false_iff.1 (by simpa using h2 : (TW.twB l || l.any (bad7 K)) = false)
  refine ⟨h3, h4.1, fun p hp => ?_⟩
  have h5 := List.any_eq_false.1 h4.2 p hp
  have h6 := h3 p hp
  have h7 := hK.high (i := p.toNat) (by omega) (by omega)
  unfold bad7 kindK at h5
  rw [if_pos (by omega)] at h5
  simp only [Bool.or_eq_true, decide_eq_true_eq] at h5
  omega
theorem giveK_ok {K l : List Int} (hK : okK K) : okK (giveK K l) := by
  unfold giveK
  split
  · rename_i h
    exact giveF_ok hK fun q hq => ((give_in hK h).1 q hq).1
  · exact hK
theorem v_Give1 {H : Hp} {g b : Nat} {K : List Int} {p : Int} {r : Bool} (h : AV H g K) (hK : okK K) (hb : H[b]? = some (.mem [.ptr g 0] r)) : VC Tryd.prog prims 33 [i6 p, .ptr b 0] H fun u T => u = bo (bad7 K p) ∧ T = H := by
  refine v_enter hC [] (fun _ _ => kn_none rfl) Tryd.func33 rfl ok33 (Nat.le_of_ble_eq_true rfl) fun hcl hbl => ?_
  simp [hb]
  refine (v_Kind hK).call h ?_
  by_cases h1 : kindK K p = 1
  · simp [h1, Tryd.results33]
    exact GV.refl ⟨by unfold bad7; rw [h1]; rfl, rfl⟩
  · simp [h1, hb]
    refine (v_Kind hK).call h ?_
    simp [Tryd.results33]
    exact GV.refl ⟨by unfold bad7; simp [h1], rfl⟩
theorem flip_drop {K : List Int} {p : Int} (hp : 0 ≤ p ∧ p < K.length) (v : Int) (hv : isS v = false) : flipM false (K.map isS) [p] = (K.set p.toNat v).map isS ∧ flipN false (K.map isS) [p] = if isS (K.getD p.toNat 0) = true then 1 else 0 := by
  have hm : (K.map isS).getD p.toNat false = isS (K.getD p.toNat 0) := map_getD rfl K _
  have hmay : mayM (K.map isS) p = true := by unfold mayM; rw [List.length_map]; exact decide_eq_true hp
  have h1 : flip1 false (K.map isS) p = (K.map isS).set p.toNat false := by
    have := flip1_in (b := false) (m := K.map isS) (i := p.toNat) (by rw [List.length_map]; omega)
    rw [show ((p.toNat : Nat) : Int) = p by omega] at this
    exact this
  refine ⟨by show flip1 false (K.map isS) p = _; rw [h1, map_set_b, hv], ?_⟩
  by_cases hb : isS (K.getD p.toNat 0) = true
  · rw [if_pos hb, (flip_yes (l := []) (by rw [hmay, hm, hb]; rfl)).2]; rfl
  · have hb' : isS (K.getD p.toNat 0) = false := by simpa using hb
    rw [if_neg hb, (flip_no (l := []) (by rw [hmay, hm, hb']; rfl)).2]; rfl
set_option maxHeartbeats 8000000 in
theorem v_Give {H : Hp} {g : Nat} {x : Ax} {K : List Int} {kk : Bool} {l : List Int} (h : AW H g x K) (hK : okK K) (hl : l.length ≤ 12) :
    VC Tryd.prog prims 12 [.ptr g 0, IS kk l] H fun u T => u = i6 (giveE K l) ∧ Mut H T g x x (giveK K l) := by
  have hX : AW (H ++ [.mem [.ptr g 0] true]) g x K := h.app
  refine v_enter hC [] (fun _ _ => kn_none rfl) Tryd.func12 rfl ok12 (Nat.le_of_ble_eq_true rfl) fun hcl hbl => ?_
  simp
  refine CALLv.at (v_within (kk := kk) (l := l) (by omega) _ hX.v) fun u T hu => ?_
  obtain ⟨e1, e2⟩ := hu
  subst e1; subst e2
  cases hin : inK K.length l with
  | false =>
    have e : giveE K l = 10 := by unfold giveE; rw [if_pos hin]
    have eK : giveK K l = K := by unfold giveK; rw [if_neg (by rw [e]; omega)]
    simp [Tryd.results12]
    exact GV.refl ⟨by rw [e]; rfl, by rw [eK]; exact ⟨hX, .app _ _ _, fun _ hi => .inl hi⟩⟩
  | true =>
    simp
    refine (v_twice (kk := kk) hl).call ?_
    have hc : giveE K l = if (TW.twB l || l.any (bad7 K)) = true then 11 else 0 := by unfold giveE; rw [if_neg (by simp [hin])]
    have bad : (TW.twB l || l.any (bad7 K)) = true → giveE K l = 11 ∧ giveK K l = K := fun hb => by
      rw [if_pos hb] at hc
      exact ⟨hc, by unfold giveK; rw [if_neg (by rw [hc]; omega)]⟩
    cases ht : TW.twB l with
    | true =>
      obtain ⟨e, eK⟩ := bad (by rw [ht]; rfl)
      simp [Tryd.results12]
      exact GV.refl ⟨by rw [e]; rfl, by rw [eK]; exact ⟨hX, .app _ _ _, fun _ hi => .inl hi⟩⟩
    | false =>
      simp
      refine CALLv.at (v_ContainsI (kk := kk) (F := 33) (c := .ptr H.length 0) (pr := bad7 K) (by omega) (fun y _ => v_Give1 (r := true) hX.v hK (by simp))) fun u T hu => ?_
      obtain ⟨e1, e2⟩ := hu
      subst e1; subst e2
      cases ha : l.any (bad7 K) with
      | true =>
        obtain ⟨e, eK⟩ := bad (by rw [ha]; simp)
        simp [Tryd.results12]
        exact GV.refl ⟨by rw [e]; rfl, by rw [eK]; exact ⟨hX, .app _ _ _, fun _ hi => .inl hi⟩⟩
      | false =>
        have e : giveE K l = 0 := by rw [hc, ht, ha]; rfl
        have eK : giveK K l = giveF K l := by unfold giveK; rw [if_pos e]
        obtain ⟨h1, h2, h3⟩ := give_in hK e
        have hnd := (TW.twB_nodup l).1 h2
        simp
        refine v_loopX hC (fun (j : Nat) e T => T.length = H.length + 1 ∧ T[H.length]? = some (.mem [.ptr g 0] true) ∧ AW T g x (giveF K (l.take j)) ∧ FrA H T (fp g x) ∧ e 2 = .ptr H.length 0 ∧ e 25 = IS kk l ∧ e 26 = i6 l.length ∧ e 27 = i6 j ∧ j ≤ l.length) (fun j => l.length - j) 0 (G.refl ?_) ?_
        · exact ⟨by simp, by simp, hX, .app _ _ _, by simp, by simp, by simp, by simp, by simp⟩
        · rintro j e T ⟨hTl, tb, hA, hF, e2, e25, e26, e27, hj⟩
          simp [e26, e27]
          refine CondV.dec (fun hlt => ?_) (fun hge => ?_)
          · have hlt : j < l.length := by omega
            obtain ⟨p, hp⟩ : ∃ p, l[j]? = some p := ⟨_, List.getElem?_eq_getElem hlt⟩
            have hpm := List.mem_of_getElem? hp
            have hpe : l[j] = p := by rw [List.getElem?_eq_getElem hlt] at hp; exact Option.some.inj hp
            have hp1 := h1 p hpm
            have hnm : p ∉ l.take j := fun hm => by
              obtain ⟨i, hi, he⟩ := List.mem_iff_getElem.1 hm
              rw [List.length_take] at hi
              rw [List.getElem_take] at he
              exact List.pairwise_iff_getElem.1 hnd i j (by omega) hlt (by omega) (he.trans hpe.symm)
            have hkp : (giveF K (l.take j)).getD p.toNat 0 = K.getD p.toNat 0 := giveF_other (fun q hq => by have := h1 q (List.mem_of_mem_take hq); omega) (by omega) hnm
            have htk : l.take (j + 1) = l.take j ++ [p] := by rw [List.take_succ_eq_append_getElem hlt, hpe]
            have hs := giveF_snoc K (l.take j) p
            rw [← htk] at hs
            have hlen := giveF_len (l.take j) K
            obtain ⟨J, hJ⟩ : ∃ J, giveF K (l.take j) = J := ⟨_, rfl⟩
            rw [hJ] at hA hkp hs hlen
            have hk := h3 p hpm
            simp [e2, e25, e27, hp, tb, hA.ob]
            refine CALLv.at (v_Drop (kk := true) (m := J.map isS) (l := [p]) (g := x.gs) (gw := x.ws) (v := x.vs) (t := x.ts) hA.s (by simp)) fun u U hu => ?_
            obtain ⟨u1, u2⟩ := hu
            rcases hk with hk | hk
            · rw [hk] at hkp
              have hd := flip_drop (K := J) (p := p) (by omega) 4 rfl
              rw [hkp] at hd
              have hS4 : (J.set p.toNat 4).map isS = J.map isS := by rw [map_set_b, set_same]; intro _; rw [map_getD rfl, hkp]; rfl
              have hC4 : (J.set p.toNat 4).map isC = J.map isC := by rw [map_set_b, set_same]; intro _; rw [map_getD rfl, hkp]; rfl
              have hg1 : give1 J p = J.set p.toNat 4 := by unfold give1; rw [hkp]; rfl
              have u3 : U = T := by rw [u2, hd.1, hS4]; exact hA.s.self
              have u4 : u = i6 0 := by rw [u1, hd.2]; rfl
              subst u4; subst u3
              have hP4 : flipM true (J.map isP) [p] = (J.set p.toNat 4).map isP := by
                have := flipM_setK (f := isP) (v := 4) (l := [p.toNat]) (K := J) (by simp; omega)
                rw [show is_ [p.toNat] = [p] by simp [is_]; omega] at this
                exact this
              simp [e2, tb, hA.ob]
              refine CALLv.at (v_Add (kk := true) (m := J.map isP) (l := [p]) (g := x.gp) (gw := x.wp) (v := x.vp) (t := x.tp) hA.p (by simp)) fun u W hu => ?_
              obtain ⟨u5, u6⟩ := hu
              rw [hP4] at u6
              have hbx : H.length ≠ x.wp := fun e => by
                have := hA.p.2.2
                rw [← e, tb] at this; cases this
              subst u5
              simp [e27, w64 (n := (j : Int) + 1) (by omega)]
              refine GH.refl ⟨j + 1, ⟨by rw [u6]; unfold putW; rw [List.length_set, hTl], by rw [u6]; unfold putW; rw [List.getElem?_set_ne (Ne.symm hbx), tb], by rw [hs, hg1, u6]; exact hA.putP (by rw [List.length_set]) hC4 hS4, by rw [u6]; exact hF.trans (frA_put (by simp [fp])), by simp [e2], by simp [e25], by simp [e26], by simp, hlt⟩, by omega⟩
            · rw [hk] at hkp
              have hd := flip_drop (K := J) (p := p) (by omega) 1 rfl
              rw [hkp] at hd
              have hP1 : (J.set p.toNat 1).map isP = J.map isP := by rw [map_set_b, set_same]; intro _; rw [map_getD rfl, hkp]; rfl
              have hC1 : (J.set p.toNat 1).map isC = J.map isC := by rw [map_set_b, set_same]; intro _; rw [map_getD rfl, hkp]; rfl
              have hg1 : give1 J p = J.set p.toNat 1 := by unfold give1; rw [hkp]; rfl
              rw [hd.1] at u2
              have u4 : u = i6 1 := by rw [u1, hd.2]; rfl
              have hbx : H.length ≠ x.ws := fun e => by
                have := hA.s.2.2
                rw [← e, tb] at this; cases this
              subst u4
              simp [e27, w64 (n := (j : Int) + 1) (by omega)]
              refine GH.refl ⟨j + 1, ⟨by rw [u2]; unfold putW; rw [List.length_set, hTl], by rw [u2]; unfold putW; rw [List.getElem?_set_ne (Ne.symm hbx), tb], by rw [hs, hg1, u2]; exact hA.putS (by rw [List.length_set]) hC1 hP1, by rw [u2]; exact hF.trans (frA_put (by simp [fp])), by simp [e2], by simp [e25], by simp [e26], by simp, hlt⟩, by omega⟩
          · have ht2 : l.take j = l := List.take_of_length_le (by omega)
            rw [ht2] at hA
            simp [Tryd.results12]
            exact GV.refl ⟨by rw [show giveE K l = 0 by rw [hc, ht, ha]; rfl]; rfl, by rw [eK]; exact ⟨hA, hF, fun _ hi => .inl hi⟩⟩
end Go.Proofs.YtldhfdagmaklaaaDoor.VM
end
section
set_option maxHeartbeats 8000000
set_option linter.unusedVariables false
set_option linter.unusedSimpArgs false

/- alloc: empty, Commit, Abort, Sets, Same. -/
namespace Go.Proofs.YtldhfdagmaklaaaDoor.VM
open Go Go.Proofs AM B
set_option maxRecDepth 100000
theorem flip1_get {b : Bool} {m : List Bool} {p : Int} {i : Nat} (hi : i < m.length) : (flip1 b m p).getD i false = if p = i then b else m.getD i false := by
  by_cases hp : p = i
  · subst hp
    rw [if_pos rfl, flip1_in hi, List.getD_eq_getElem?_getD, List.getElem?_set_self hi]; rfl
  · rw [if_neg hp]
    unfold flip1
    split
    · rename_i h
      rw [Bool.and_eq_true] at h
      have hm : 0 ≤ p ∧ p < m.length := by
        have := h.1
        unfold mayM at this
        exact of_decide_eq_true this
      rw [List.getD_eq_getElem?_getD, List.getElem?_set_ne (by omega), ← List.getD_eq_getElem?_getD]
    · rfl
theorem flipM_get {b : Bool} : ∀ {l : List Int} {m : List Bool} {i : Nat}, i < m.length → (flipM b m l).getD i false = if (i : Int) ∈ l then b else m.getD i false
  | [], m, i, _ => by simp [flipM]
  | p :: l, m, i, hi => by
    show (flipM b (flip1 b m p) l).getD i false = _
    rw [flipM_get (by rw [flip1_len]; exact hi), flip1_get hi]
    by_cases h1 : (i : Int) ∈ l
    · rw [if_pos h1, if_pos (by simp [h1])]
    · rw [if_neg h1]
      by_cases h2 : p = (i : Int)
      · rw [if_pos h2, if_pos (by simp [h2])]
      · rw [if_neg h2, if_neg (by simp [h1]; omega)]
theorem bools_ext {a b : List Bool} (hl : a.length = b.length) (h : ∀ i, i < a.length → a.getD i false = b.getD i false) : a = b := by
  apply List.ext_getElem hl
  intro i h1 h2
  have := h i h1
  rw [List.getD_eq_getElem?_getD, List.getD_eq_getElem?_getD, List.getElem?_eq_getElem h1, List.getElem?_eq_getElem h2] at this
  exact this
theorem mem_isAll {f : Int → Bool} (hf : f 0 = false) {K : List Int} {i : Nat} (hi : i < K.length) : ((i : Int) ∈ is_ (allN (K.map f))) ↔ f (K.getD i 0) = true := by
  unfold is_
  rw [List.mem_map]
  constructor
  · rintro ⟨j, hj, he⟩
    have hji : j = i := by omega
    subst hji
    have := (mem_allN.1 hj).2
    rw [map_getD hf] at this
    exact this
  · intro h
    exact ⟨i, mem_allN.2 ⟨by rw [List.length_map]; exact hi, by rw [map_getD hf]; exact h⟩, rfl⟩
def commitK (K : List Int) : List Int := K.map fun k => if k = 4 then 1 else if k = 3 then 2 else k
def abortK (K : List Int) : List Int := K.map fun k => if k = 3 then 1 else if k = 4 then 2 else k
theorem commitK_ok {K : List Int} (h : okK K) : okK (commitK K) := h.map rfl fun k hk => by split <;> (try split) <;> omega
theorem abortK_ok {K : List Int} (h : okK K) : okK (abortK K) := h.map rfl fun k hk => by split <;> (try split) <;> omega
theorem commitK_len (K : List Int) : (commitK K).length = K.length := List.length_map _
theorem abortK_len (K : List Int) : (abortK K).length = K.length := List.length_map _
theorem map_map_rep {f : Int → Int} {p : Int → Bool} (h : ∀ k, p (f k) = false) (K : List Int) : (K.map f).map p = List.replicate K.length false := by
  rw [List.map_map]
  exact List.eq_replicate_iff.2 ⟨by simp, fun b hb => by
    obtain ⟨k, _, rfl⟩ := List.mem_map.1 hb
    exact h k⟩
theorem commit_s (K : List Int) : (commitK K).map isS = List.replicate K.length false := map_map_rep (fun k => by
  unfold isS
  split
  · rfl
  · split
    · rfl
    · rename_i h; simpa using h) K
theorem commit_p (K : List Int) : (commitK K).map isP = List.replicate K.length false := map_map_rep (fun k => by
  unfold isP
  split
  · rfl
  · rename_i h
    split
    · rfl
    · simpa using h) K
theorem abort_s (K : List Int) : (abortK K).map isS = List.replicate K.length false := map_map_rep (fun k => by
  unfold isS
  split
  · rfl
  · rename_i h
    split
    · rfl
    · simpa using h) K
theorem abort_p (K : List Int) : (abortK K).map isP = List.replicate K.length false := map_map_rep (fun k => by
  unfold isP
  split
  · rfl
  · split
    · rfl
    · rename_i h; simpa using h) K
theorem abort_c (K : List Int) : (abortK K).map isC = K.map isC := by
  unfold abortK
  rw [List.map_map]
  refine List.map_congr_left fun k _ => ?_
  show isC (if k = 3 then 1 else if k = 4 then 2 else k) = isC k
  split
  · rename_i h; subst h; rfl
  · split
    · rename_i h; subst h; rfl
    · rfl
theorem commit_c (K : List Int) : flipM true (flipM false (K.map isC) (is_ (allN (K.map isP)))) (is_ (allN (K.map isS))) = (commitK K).map isC := by
  refine bools_ext (by rw [flipM_len, flipM_len, List.length_map, List.length_map, commitK_len]) fun i hi => ?_
  rw [flipM_len, flipM_len, List.length_map] at hi
  rw [flipM_get (by rw [flipM_len, List.length_map]; exact hi), flipM_get (by rw [List.length_map]; exact hi), map_getD rfl, map_getD rfl]
  have e : (commitK K).getD i 0 = if K.getD i 0 = 4 then 1 else if K.getD i 0 = 3 then 2 else K.getD i 0 := by
    unfold commitK
    rw [List.getD_eq_getElem?_getD, List.getD_eq_getElem?_getD, List.getElem?_map, List.getElem?_eq_getElem hi]; rfl
  rw [e]
  have hS := mem_isAll (f := isS) rfl hi
  have hP := mem_isAll (f := isP) rfl hi
  generalize K.getD i 0 = k at *
  by_cases h4 : k = 4
  · subst h4
    rw [if_neg (by rw [hS]; decide), if_pos (hP.2 rfl)]; rfl
  · by_cases h3 : k = 3
    · subst h3
      rw [if_pos (hS.2 rfl)]; rfl
    · rw [if_neg (by rw [hS]; simpa [isS] using h3), if_neg (by rw [hP]; simpa [isP] using h4), if_neg h4, if_neg h3]
theorem v_empty {n : Nat} (hn : 1 ≤ n) (hn1 : n ≤ 2048) : AnsS 28 [i6 n] (fun g => .ptr g 0) (List.replicate n false) := by
  intro H
  refine v_enter hC [] (fun _ _ => kn_none rfl) Tryd.func28 rfl ok28 (Nat.le_of_ble_eq_true rfl) fun hcl hbl => ?_
  simp
  refine CALLv.at (VC.up (args' := [i6 n, IS true []]) (by simp) (v_New (kk := true) (l := []) hn hn1 (by simp) H)) fun u T hu => ?_
  obtain ⟨w, t, e1, e2⟩ := hu
  subst e1; subst e2
  simp [Tryd.results28]
  have e : newM n [] = List.replicate n false := rfl
  rw [e]
  exact GV.refl ⟨w, t, rfl, rfl⟩
theorem setO_len {n w : Nat} {t : Bool} {m : List Bool} : (setO n w t m).length = 2 := rfl
theorem setO_v {H : Hp} {w : Nat} {t : Bool} {m : List Bool} (hm : m.length ≤ 2048) : SetW (H ++ setO H.length w t m) H.length (H.length + 1) w t m := by
  have := setO_w (H := H) (X := []) (w := w) (t := t) hm
  rw [List.append_nil] at this
  exact this
theorem SetW.setOb {H : Hp} {g gw v g' : Nat} {t : Bool} {m : List Bool} {y : Ob} (h : SetW H g gw v t m) (hx : ∃ a b c d r, H[g']? = some (.mem [a, b, c, d] r)) : SetW (H.set g' y) g gw v t m := by
  obtain ⟨a, b, c, d, r, hx⟩ := hx
  have h1 : g ≠ g' := fun e => by
    have := h.2.1
    rw [e, hx] at this; cases this
  have h2 : gw ≠ g' := fun e => by
    have := h.2.2
    rw [e, hx] at this; cases this
  exact ⟨h.1, by rw [List.getElem?_set_ne (Ne.symm h1), h.2.1], by rw [List.getElem?_set_ne (Ne.symm h2), h.2.2]⟩
theorem v_Abort {H : Hp} {g : Nat} {x : Ax} {K : List Int} (h : AW H g x K) (hK : okK K) :
    VC Tryd.prog prims 14 [.ptr g 0] H fun u T => u = IS true (is_ (allN (K.map isS))) ∧ ∃ x', Mut H T g x x' (abortK K) := by
  refine v_enter hC [] (fun _ _ => kn_none rfl) Tryd.func14 rfl ok14 (Nat.le_of_ble_eq_true rfl) fun hcl hbl => ?_
  have hl := hK.len
  simp [h.ob]
  refine (v_All (m := K.map isS)).call h.s.v ?_
  simp
  refine v_draw (ord := [0, 1, 2, 3, 4, 5, 6, 7, 8, 9, 10, 11, 12, 13, 14, 15, 16, 17, 18, 19]) (m := 11) (by decide +kernel) (by decide +kernel) ?_
  simp [h.ob]
  refine (v_empty (n := K.length) (by omega) hl.2).call fun w1 t1 => ?_
  obtain ⟨U1, hU1⟩ : ∃ U1, H ++ setO H.length w1 t1 (List.replicate K.length false) = U1 := ⟨_, rfl⟩
  rw [hU1]
  have b1 : U1[g]? = some (.mem [i6 K.length, .ptr x.gc 0, .ptr x.gs 0, .ptr x.gp 0] true) := by rw [← hU1]; exact h.app.ob
  have l1 : U1.length = H.length + 2 := by rw [← hU1, List.length_append, setO_len]
  simp [b1]
  refine (v_empty (n := K.length) (by omega) hl.2).call fun w2 t2 => ?_
  obtain ⟨U2, hU2⟩ : ∃ U2, U1 ++ setO U1.length w2 t2 (List.replicate K.length false) = U2 := ⟨_, rfl⟩
  rw [hU2]
  have b2 : U2[g]? = some (.mem [i6 K.length, .ptr x.gc 0, .ptr x.gs 0, .ptr x.gp 0] true) := by rw [← hU2, List.getElem?_append_left (get_lt b1), b1]
  have m2 := get_lt b2
  have hsg : ∀ y, (U2.set g y)[g]? = some y := fun y => List.getElem?_set_self m2
  simp [b2, hsg, Tryd.results14]
  have hS1 : SetW U2 H.length (H.length + 1) w1 t1 (List.replicate K.length false) := by
    rw [← hU2, ← hU1]; exact (setO_v (by simp; exact hl.2)).app
  have hS2 : SetW U2 U1.length (U1.length + 1) w2 t2 (List.replicate K.length false) := by
    rw [← hU2]; exact setO_v (by simp; exact hl.2)
  have hC : SetW U2 x.gc x.wc x.vc x.tc (K.map isC) := by rw [← hU2, ← hU1]; exact h.c.app.app
  have hb := (⟨_, _, _, _, _, b2⟩ : ∃ a b c d r, U2[g]? = some (.mem [a, b, c, d] r))
  have hwc := get_lt h.c.2.2
  refine GV.refl ⟨rfl, ⟨x.gc, x.wc, x.vc, x.tc, H.length, H.length + 1, w1, t1, U1.length, U1.length + 1, w2, t2⟩, ⟨by rw [abortK_len]; exact hsg _, by rw [abort_c]; exact hC.setOb hb, by rw [abort_s]; exact hS1.setOb hb, by rw [abort_p]; exact hS2.setOb hb, by simp only; omega, by simp only; omega, by simp only; omega⟩, ⟨by rw [List.length_set, ← hU2, List.length_append]; omega, fun i hi hni => ?_⟩, fun i hi => ?_⟩
  · rw [List.getElem?_set_ne (fun e => hni (by rw [← e]; simp [fp])), ← hU2, ← hU1, List.getElem?_append_left (by rw [List.length_append]; omega), List.getElem?_append_left hi]
  · simp only [fp, List.mem_cons, List.not_mem_nil, or_false] at hi ⊢
    rcases hi with rfl | rfl | rfl | rfl
    · exact .inl (.inl rfl)
    · exact .inl (.inr (.inl rfl))
    · exact .inr (by omega)
    · exact .inr (by omega)
end Go.Proofs.YtldhfdagmaklaaaDoor.VM
end
section
set_option maxHeartbeats 8000000
set_option linter.unusedVariables false
set_option linter.unusedSimpArgs false

/- alloc: Commit, Sets, Same, New. -/
namespace Go.Proofs.YtldhfdagmaklaaaDoor.VM
open Go Go.Proofs AM B
set_option maxRecDepth 100000
theorem v_Commit {H : Hp} {g : Nat} {x : Ax} {K : List Int} (h : AW H g x K) (hK : okK K) :
    VC Tryd.prog prims 13 [.ptr g 0] H fun u T => u = IS true (is_ (allN (K.map isP))) ∧ ∃ x', Mut H T g x x' (commitK K) := by
  refine v_enter hC [29] (fun _ _ => kn_none rfl) Tryd.func13 rfl ok13 (Nat.le_of_ble_eq_true rfl) fun hcl hbl => ?_
  have hl := hK.len
  simp [h.ob]
  refine (v_All (m := K.map isP)).call h.p.v ?_
  simp
  refine v_draw (ord := [0, 1, 2, 3, 4, 5, 6, 7, 8, 9, 10, 11, 12, 13, 14, 15, 16, 17, 18, 19, 20, 21, 22]) (m := 18) (by decide +kernel) (by decide +kernel) ?_
  simp [h.ob]
  refine CALLv.rdS (S := fun H => SetV H x.gc (K.map isC) ∧ SetV H x.gp (K.map isP)) (v := fun n => .ptr n 0) (m := flipM false (K.map isC) (is_ (allN (K.map isP)))) (fun ⟨h1, h2⟩ => ⟨h1.lock, h2.lock⟩) (fun H ⟨h1, h2⟩ => v_Without h1 (.inl ⟨_, _, rfl, h2, rfl⟩)) ⟨h.c.v, h.p.v⟩ fun w0 t0 => ?_
  obtain ⟨m0, hm0⟩ : ∃ m0, flipM false (K.map isC) (is_ (allN (K.map isP))) = m0 := ⟨_, rfl⟩
  have hm0l : m0.length = K.length := by rw [← hm0, flipM_len, List.length_map]
  rw [hm0]
  obtain ⟨U0, hU0⟩ : ∃ U0, H ++ setO H.length w0 t0 m0 = U0 := ⟨_, rfl⟩
  rw [hU0]
  have b0 : U0[g]? = some (.mem [i6 K.length, .ptr x.gc 0, .ptr x.gs 0, .ptr x.gp 0] true) := by rw [← hU0]; exact h.app.ob
  have l0 : U0.length = H.length + 2 := by rw [← hU0, List.length_append, setO_len]
  have hS0 : SetW U0 H.length (H.length + 1) w0 t0 m0 := by rw [← hU0]; exact setO_v (by omega)
  simp [b0]
  obtain ⟨V0, hV0⟩ : ∃ V0, U0 ++ [Ob.vec 0 [[.ptr x.gs 0]] 1 true true] = V0 := ⟨_, rfl⟩
  have v0l : V0.length = U0.length + 1 := by rw [← hV0]; simp
  have vv : V0[U0.length]? = some (.vec 0 [[.ptr x.gs 0]] 1 true true) := by rw [← hV0]; simp
  have bV : V0[g]? = some (.mem [i6 K.length, .ptr x.gc 0, .ptr x.gs 0, .ptr x.gp 0] true) := by rw [← hV0, List.getElem?_append_left (get_lt b0), b0]
  have hSV : SetV V0 H.length m0 := by rw [← hV0]; exact hS0.v.app
  have hSS : SetV V0 x.gs (K.map isS) := by rw [← hV0, ← hU0]; exact h.s.v.app.app
  rw [hV0]
  refine CALLv.rdS (S := fun H' => SetV H' H.length m0 ∧ SetV H' x.gs (K.map isS) ∧ ∃ r t, H'[U0.length]? = some (.vec 0 [[.ptr x.gs 0]] 1 r t)) (v := fun n => .ptr n 0) (m := flipM true m0 (is_ (allN (K.map isS)))) (fun ⟨h1, h2, r, t, h3⟩ => ⟨h1.lock, h2.lock, false, t, by simp [lockV, h3, Ob.lock]⟩) (fun H' ⟨h1, h2, r, t, h3⟩ => v_Union h1 (.inl ⟨_, _, rfl, h2, rfl⟩) rfl h3) ⟨hSV, hSS, _, _, vv⟩ fun w3 t3 => ?_
  rw [← hm0, commit_c]
  obtain ⟨U3, hU3⟩ : ∃ U3, V0 ++ setO V0.length w3 t3 ((commitK K).map isC) = U3 := ⟨_, rfl⟩
  rw [hU3]
  have b3 : U3[g]? = some (.mem [i6 K.length, .ptr x.gc 0, .ptr x.gs 0, .ptr x.gp 0] true) := by rw [← hU3, List.getElem?_append_left (get_lt bV), bV]
  have m3 := get_lt b3
  have l3 : U3.length = V0.length + 2 := by rw [← hU3, List.length_append, setO_len]
  have hsg3 : ∀ y, (U3.set g y)[g]? = some y := fun y => List.getElem?_set_self m3
  have hC3 : SetW U3 V0.length (V0.length + 1) w3 t3 ((commitK K).map isC) := by rw [← hU3]; exact setO_v (by rw [List.length_map, commitK_len]; exact hl.2)
  simp [b3]
  obtain ⟨U4, hU4⟩ : ∃ U4, U3.set g (.mem [i6 K.length, .ptr V0.length 0, .ptr x.gs 0, .ptr x.gp 0] true) = U4 := ⟨_, rfl⟩
  have b4 : U4[g]? = some (.mem [i6 K.length, .ptr V0.length 0, .ptr x.gs 0, .ptr x.gp 0] true) := by rw [← hU4]; exact hsg3 _
  have l4 : U4.length = U3.length := by rw [← hU4, List.length_set]
  have hC4 : SetW U4 V0.length (V0.length + 1) w3 t3 ((commitK K).map isC) := by rw [← hU4]; exact hC3.setOb ⟨_, _, _, _, _, b3⟩
  have f4 : ∀ i, i < H.length → i ≠ g → U4[i]? = H[i]? := fun i hi hne => by
    rw [← hU4, List.getElem?_set_ne (Ne.symm hne), ← hU3, List.getElem?_append_left (by omega), ← hV0, List.getElem?_append_left (by omega), ← hU0, List.getElem?_append_left hi]
  simp only [i6] at hU4
  rw [hU4]
  refine v_draw (ord := [0, 1, 2, 3, 4, 5, 6, 7, 8, 9, 10, 11, 12, 13, 14, 15, 16, 17, 18, 19]) (m := 11) (by decide +kernel) (by decide +kernel) ?_
  simp [b4]
  refine (v_empty (n := K.length) (by omega) hl.2).call fun w1 t1 => ?_
  obtain ⟨U1, hU1⟩ : ∃ U1, U4 ++ setO U4.length w1 t1 (List.replicate K.length false) = U1 := ⟨_, rfl⟩
  rw [hU1]
  have b1 : U1[g]? = some (.mem [i6 K.length, .ptr V0.length 0, .ptr x.gs 0, .ptr x.gp 0] true) := by rw [← hU1, List.getElem?_append_left (get_lt b4), b4]
  have l1 : U1.length = U4.length + 2 := by rw [← hU1, List.length_append, setO_len]
  simp [b1]
  refine (v_empty (n := K.length) (by omega) hl.2).call fun w2 t2 => ?_
  obtain ⟨U2, hU2⟩ : ∃ U2, U1 ++ setO U1.length w2 t2 (List.replicate K.length false) = U2 := ⟨_, rfl⟩
  rw [hU2]
  have b2 : U2[g]? = some (.mem [i6 K.length, .ptr V0.length 0, .ptr x.gs 0, .ptr x.gp 0] true) := by rw [← hU2, List.getElem?_append_left (get_lt b1), b1]
  have m2 := get_lt b2
  have hsg : ∀ y, (U2.set g y)[g]? = some y := fun y => List.getElem?_set_self m2
  simp [b2, hsg, Tryd.results13]
  have hS1 : SetW U2 U4.length (U4.length + 1) w1 t1 (List.replicate K.length false) := by
    rw [← hU2, ← hU1]; exact (setO_v (by simp; exact hl.2)).app
  have hS2 : SetW U2 U1.length (U1.length + 1) w2 t2 (List.replicate K.length false) := by
    rw [← hU2]; exact setO_v (by simp; exact hl.2)
  have hC : SetW U2 V0.length (V0.length + 1) w3 t3 ((commitK K).map isC) := by rw [← hU2, ← hU1]; exact hC4.app.app
  have hb := (⟨_, _, _, _, _, b2⟩ : ∃ a b c d r, U2[g]? = some (.mem [a, b, c, d] r))
  refine GV.refl ⟨rfl, ⟨V0.length, V0.length + 1, w3, t3, U4.length, U4.length + 1, w1, t1, U1.length, U1.length + 1, w2, t2⟩, ⟨by rw [commitK_len]; exact hsg _, hC.setOb hb, by rw [commit_s]; exact hS1.setOb hb, by rw [commit_p]; exact hS2.setOb hb, by simp only; omega, by simp only; omega, by simp only; omega⟩, ⟨by rw [List.length_set, ← hU2, List.length_append]; omega, fun i hi hni => ?_⟩, fun i hi => ?_⟩
  · have hne : i ≠ g := fun e => hni (by rw [e]; simp [fp])
    rw [List.getElem?_set_ne (Ne.symm hne), ← hU2, ← hU1, List.getElem?_append_left (by rw [List.length_append]; omega), List.getElem?_append_left (by omega), f4 i hi hne]
  · simp only [fp, List.mem_cons, List.not_mem_nil, or_false] at hi ⊢
    rcases hi with rfl | rfl | rfl | rfl
    · exact .inl (.inl rfl)
    · exact .inr (by omega)
    · exact .inr (by omega)
    · exact .inr (by omega)
end Go.Proofs.YtldhfdagmaklaaaDoor.VM
end
section
set_option maxHeartbeats 8000000
set_option linter.unusedVariables false
set_option linter.unusedSimpArgs false

/- alloc: Sets, Same, New. -/
namespace Go.Proofs.YtldhfdagmaklaaaDoor.VM
open Go Go.Proofs AM B
set_option maxRecDepth 100000
/-- A set that was made since. -/
def SetF (n : Nat) (T : Hp) (g : Nat) (m : List Bool) : Prop := ∃ gw v t, SetW T g gw v t m ∧ n ≤ g ∧ n ≤ gw
theorem SetF.v {n : Nat} {T : Hp} {g : Nat} {m : List Bool} (h : SetF n T g m) : SetV T g m := by
  obtain ⟨gw, v, t, h, _, _⟩ := h
  exact h.v
theorem SetF.app {n : Nat} {T X : Hp} {g : Nat} {m : List Bool} (h : SetF n T g m) : SetF n (T ++ X) g m := by
  obtain ⟨gw, v, t, h, h1, h2⟩ := h
  exact ⟨gw, v, t, h.app, h1, h2⟩
/-- Copies of an allocator's sets. -/
def Cp3 (H T : Hp) (K : List Int) (a b c : V) : Prop := ∃ ga gb gc, a = .ptr ga 0 ∧ b = .ptr gb 0 ∧ c = .ptr gc 0 ∧ (∃ X, T = H ++ X) ∧ SetF H.length T ga (K.map isC) ∧ SetF H.length T gb (K.map isS) ∧ SetF H.length T gc (K.map isP)
theorem v_copied {H : Hp} {ga gb gc : Nat} {K : List Int} (h1 : SetV H ga (K.map isC)) (h2 : SetV H gb (K.map isS)) (h3 : SetV H gc (K.map isP)) :
    VC Tryd.prog prims 31 [.agg [.ptr ga 0, .ptr gb 0, .ptr gc 0]] H fun u T => ∃ a b c, u = .agg [a, b, c] ∧ Cp3 H T K a b c := by
  refine v_enter hC [] (fun _ _ => kn_none rfl) Tryd.func31 rfl ok31 (Nat.le_of_ble_eq_true rfl) fun hcl hbl => ?_
  have hm : ∀ f : Int → Bool, (SetV H ga (K.map isC)) → (K.map f).length ≤ 2048 := fun f h => by have := h.1; simp at this ⊢; exact this
  simp
  refine v_draw (ord := [0, 1, 2, 3, 4, 5, 6, 7, 8, 9, 10]) (m := 8) (by decide +kernel) (by decide +kernel) ?_
  simp
  obtain ⟨U0, hU0⟩ : ∃ U0, H ++ [Ob.mem [.ptr ga 0, .ptr gb 0, .ptr gc 0] true, Ob.mem [.lit (.pointer none), .lit (.pointer none), .lit (.pointer none)] true] = U0 := ⟨_, rfl⟩
  rw [hU0]
  have k1 : SetV U0 ga (K.map isC) := by rw [← hU0]; exact h1.app
  have k2 : SetV U0 gb (K.map isS) := by rw [← hU0]; exact h2.app
  have k3 : SetV U0 gc (K.map isP) := by rw [← hU0]; exact h3.app
  have b0 : U0[H.length]? = some (.mem [.ptr ga 0, .ptr gb 0, .ptr gc 0] true) := by rw [← hU0]; simp
  have b1 : U0[H.length + 1]? = some (.mem [.lit (.pointer none), .lit (.pointer none), .lit (.pointer none)] true) := by rw [← hU0]; simp
  refine CALLv.rdS (S := fun H => SetV H ga (K.map isC)) (v := fun n => .ptr n 0) (m := K.map isC) SetV.lock (fun H h => v_Copy h) k1 fun w1 t1 => ?_
  obtain ⟨U1, hU1⟩ : ∃ U1, U0 ++ setO U0.length w1 t1 (K.map isC) = U1 := ⟨_, rfl⟩
  have u0l : H.length ≤ U0.length := by rw [← hU0]; simp
  have u1l : H.length ≤ U1.length := by rw [← hU1]; simp; omega
  have j1 : SetF H.length U1 U0.length (K.map isC) := ⟨_, _, _, by rw [← hU1]; exact setO_v h1.1, u0l, by omega⟩
  have j2 : SetV U1 gb (K.map isS) := by rw [← hU1]; exact k2.app
  have j3 : SetV U1 gc (K.map isP) := by rw [← hU1]; exact k3.app
  have c0 : U1[H.length]? = some (.mem [.ptr ga 0, .ptr gb 0, .ptr gc 0] true) := by rw [← hU1, List.getElem?_append_left (get_lt b0), b0]
  have c1 : U1[H.length + 1]? = some (.mem [.lit (.pointer none), .lit (.pointer none), .lit (.pointer none)] true) := by rw [← hU1, List.getElem?_append_left (get_lt b1), b1]
  rw [hU1]
  simp [c0]
  refine CALLv.rdS (S := fun H => SetV H gb (K.map isS)) (v := fun n => .ptr n 0) (m := K.map isS) SetV.lock (fun H h => v_Copy h) j2 fun w2 t2 => ?_
  obtain ⟨U2, hU2⟩ : ∃ U2, U1 ++ setO U1.length w2 t2 (K.map isS) = U2 := ⟨_, rfl⟩
  have u2l : H.length ≤ U2.length := by rw [← hU2]; simp; omega
  have i1 : SetF H.length U2 U0.length (K.map isC) := by rw [← hU2]; exact j1.app
  have i2 : SetF H.length U2 U1.length (K.map isS) := ⟨_, _, _, by rw [← hU2]; exact setO_v h2.1, u1l, by omega⟩
  have i3 : SetV U2 gc (K.map isP) := by rw [← hU2]; exact j3.app
  have d0 : U2[H.length]? = some (.mem [.ptr ga 0, .ptr gb 0, .ptr gc 0] true) := by rw [← hU2, List.getElem?_append_left (get_lt c0), c0]
  have d1 : U2[H.length + 1]? = some (.mem [.lit (.pointer none), .lit (.pointer none), .lit (.pointer none)] true) := by rw [← hU2, List.getElem?_append_left (get_lt c1), c1]
  rw [hU2]
  simp [d0]
  refine CALLv.rdS (S := fun H => SetV H gc (K.map isP)) (v := fun n => .ptr n 0) (m := K.map isP) SetV.lock (fun H h => v_Copy h) i3 fun w3 t3 => ?_
  obtain ⟨U3, hU3⟩ : ∃ U3, U2 ++ setO U2.length w3 t3 (K.map isP) = U3 := ⟨_, rfl⟩
  have a1 : SetF H.length U3 U0.length (K.map isC) := by rw [← hU3]; exact i1.app
  have a2 : SetF H.length U3 U1.length (K.map isS) := by rw [← hU3]; exact i2.app
  have a3 : SetF H.length U3 U2.length (K.map isP) := ⟨_, _, _, by rw [← hU3]; exact setO_v h3.1, u2l, by omega⟩
  have f1 : U3[H.length + 1]? = some (.mem [.lit (.pointer none), .lit (.pointer none), .lit (.pointer none)] true) := by rw [← hU3, List.getElem?_append_left (get_lt d1), d1]
  rw [hU3]
  have m1 := get_lt f1
  have hsg : ∀ y, (U3.set (H.length + 1) y)[H.length + 1]? = some y := fun y => List.getElem?_set_self m1
  have so : ∀ {g : Nat} {m : List Bool} {y : Ob}, SetF H.length U3 g m → SetF H.length (U3.set (H.length + 1) y) g m := fun {g m y} ⟨gw, v, t, ⟨q1, q2, q3⟩, r1, r2⟩ => by
    have n1 : g ≠ H.length + 1 := fun e => by rw [e, f1] at q2; cases q2
    have n2 : gw ≠ H.length + 1 := fun e => by rw [e, f1] at q3; cases q3
    exact ⟨gw, v, t, ⟨q1, by rw [List.getElem?_set_ne (Ne.symm n1), q2], by rw [List.getElem?_set_ne (Ne.symm n2), q3]⟩, r1, r2⟩
  simp [f1, hsg, Tryd.results31]
  obtain ⟨X, hX⟩ : ∃ X, U3.set (H.length + 1) (.mem [.ptr U0.length 0, .ptr U1.length 0, .ptr U2.length 0] true) = H ++ X := ⟨_, by rw [← hU3, ← hU2, ← hU1, ← hU0, List.append_assoc, List.append_assoc, List.append_assoc, List.set_append_right _ _ (by omega)]⟩
  exact GV.refl ⟨_, _, _, rfl, _, _, _, rfl, rfl, rfl, ⟨X, hX⟩, so a1, so a2, so a3⟩
theorem v_Sets {H : Hp} {g : Nat} {K : List Int} (h : AV H g K) :
    VC Tryd.prog prims 9 [.ptr g 0] H fun u T => ∃ a b c, u = .tup [a, b, c] ∧ Cp3 H T K a b c := by
  obtain ⟨r, gc, gs, gp, h1, h2, h3, h4⟩ := h
  refine v_enter hC [] (fun _ _ => kn_none rfl) Tryd.func9 rfl ok9 (Nat.le_of_ble_eq_true rfl) fun hcl hbl => ?_
  simp [h1]
  refine CALLv.at (v_copied h2 h3 h4) fun u T hu => ?_
  obtain ⟨a, b, c, e1, ga, gb, gc', rfl, rfl, rfl, ⟨X, hX⟩, k1, k2, k3⟩ := hu
  subst e1
  simp
  refine v_draw (ord := [0, 1, 2, 3, 4, 5, 6, 7, 8]) (m := 6) (by decide +kernel) (by decide +kernel) ?_
  simp [Tryd.results9]
  exact GV.refl ⟨_, _, _, rfl, _, _, _, rfl, rfl, rfl, ⟨X ++ [_], by rw [hX, List.append_assoc]⟩, k1.app, k2.app, k3.app⟩
/-- Two allocators, one like the other. -/
theorem v_aSame {H : Hp} {g g' : Nat} {K : List Int} (h : AV H g K) (h' : AV H g' K) : VC Tryd.prog prims 25 [.ptr g 0, .ptr g' 0] H fun u T => u = bo true ∧ T = H := by
  obtain ⟨r, gc, gs, gp, h1, h2, h3, h4⟩ := h
  obtain ⟨r', gc', gs', gp', k1, k2, k3, k4⟩ := h'
  refine v_enter hC [] (fun _ _ => kn_none rfl) Tryd.func25 rfl ok25 (Nat.le_of_ble_eq_true rfl) fun hcl hbl => ?_
  simp
  refine v_draw (ord := [0, 1, 2, 3, 4, 5, 6, 7, 8, 9, 10, 11, 12, 13, 14, 15, 16, 17, 18, 19, 20, 21, 22, 23, 24, 25, 26, 27, 28, 29, 30, 31, 32, 33, 34, 35, 36, 37, 38, 39, 40, 41, 42, 43, 44, 45, 46, 47, 48]) (m := 46) (by decide +kernel) (by decide +kernel) ?_
  simp [h1, k1]
  refine CALLv.rd (S := fun H => SetV H gc (K.map isC) ∧ SetV H gc' (K.map isC)) (v := bo true) (fun ⟨a, b⟩ => ⟨a.lock, b.lock⟩) (fun H ⟨a, b⟩ => (v_bSame a b).mono fun u T ⟨e1, e2⟩ => ⟨by rw [e1]; simp, e2⟩) ⟨h2, k2⟩ ?_
  simp [h1, k1]
  refine CALLv.rd (S := fun H => SetV H gs (K.map isS) ∧ SetV H gs' (K.map isS)) (v := bo true) (fun ⟨a, b⟩ => ⟨a.lock, b.lock⟩) (fun H ⟨a, b⟩ => (v_bSame a b).mono fun u T ⟨e1, e2⟩ => ⟨by rw [e1]; simp, e2⟩) ⟨h3, k3⟩ ?_
  simp [h1, k1]
  refine CALLv.rd (S := fun H => SetV H gp (K.map isP) ∧ SetV H gp' (K.map isP)) (v := bo true) (fun ⟨a, b⟩ => ⟨a.lock, b.lock⟩) (fun H ⟨a, b⟩ => (v_bSame a b).mono fun u T ⟨e1, e2⟩ => ⟨by rw [e1]; simp, e2⟩) ⟨h4, k4⟩ ?_
  simp [Tryd.results25]
  exact GV.refl ⟨rfl, rfl⟩
theorem v_aSameN : A 25 [nilP, nilP] (bo true) := by
  intro H
  refine v_enter hC [] (fun _ _ => kn_none rfl) Tryd.func25 rfl ok25 (Nat.le_of_ble_eq_true rfl) fun hcl hbl => ?_
  simp [nilP, Tryd.results25]
  first | (refine GV.ans hcl ?_; simp []; done) | (refine GV.ans0 ?_; simp []; done)
theorem v_aSamePN {g : Nat} : A 25 [.ptr g 0, nilP] (bo false) := by
  intro H
  refine v_enter hC [] (fun _ _ => kn_none rfl) Tryd.func25 rfl ok25 (Nat.le_of_ble_eq_true rfl) fun hcl hbl => ?_
  simp [nilP, Tryd.results25]
  first | (refine GV.ans hcl ?_; simp []; done) | (refine GV.ans0 ?_; simp []; done)
end Go.Proofs.YtldhfdagmaklaaaDoor.VM
end
