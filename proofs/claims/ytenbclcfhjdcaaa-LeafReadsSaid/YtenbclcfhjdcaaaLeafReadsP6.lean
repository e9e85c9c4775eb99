/- What the proof of LeafReads rests on, part 6 of 6. -/
import Derived.Test.YtenbclcfhjdcaaaLeafReadsP5
import Derived.BigQuiet
import Derived.Carry
import Derived.ChangeSame
import Derived.Deep.AppendLies
import Derived.Deep.DeepFit
import Derived.Deep.Draws
import Derived.Deep.LoopGhost
import Derived.Deep.QuietTactic
import Derived.Deep.RegionHeld3
import Derived.Deep.Slices
import Derived.KernelRfl
import Derived.Lib.Hide
import Derived.Maps.AppendAt
import Derived.OpenShut
import Derived.ProofKit
import Derived.RowKit3
import Derived.Shelf.Abstract
import Derived.WalkKit
import Derived.WalkSpells
section
set_option maxHeartbeats 8000000
set_option linter.unusedVariables false
set_option linter.unusedSimpArgs false
/- Words of this seat: a slice that reads as a list of cells; what stays readable when memory grows. No program is named here. -/
namespace Go.Proofs.Ytenbclcfhjdcaaa.B
open Go.RowKit

/-- A fact that the walk's simp does not look into. -/
structure Keep (p : Prop) : Prop where
  out : p

/-- The slice v has n elements; its cells are xs (as many as the element's size a piece). -/
def Row (w : World) (v : Value) (n : Nat) (xs : List Value) : Prop :=
  ∃ A c, v = .slice A n c ∧ n ≤ c ∧ c ≤ maxLen ∧ (0 < n → ∃ g o, A = some ⟨g, o, none⟩ ∧ ∀ j u, xs[j]? = some u → w.cell? ⟨g, o + j, none⟩ = some u)

def ints (l : List Int) : List Value := l.map (Value.int .i64)
def u8s (l : List Int) : List Value := l.map (Value.int .u8)
@[simp] theorem ints_length (l : List Int) : (ints l).length = l.length := by simp [ints]
@[simp] theorem u8s_length (l : List Int) : (u8s l).length = l.length := by simp [u8s]
/-- Element j of a list (closed to simp). -/
def el (l : List Int) (j : Nat) : Int := l.getD j 0
theorem el_eq (l : List Int) (j : Nat) (h : j < l.length) : el l j = l[j] := by simp [el, h]
theorem ints_get (l : List Int) (j : Nat) (h : j < l.length) : (ints l)[j]? = some (.int .i64 (el l j)) := by simp [ints, el, h]
theorem u8s_get (l : List Int) (j : Nat) (h : j < l.length) : (u8s l)[j]? = some (.int .u8 (el l j)) := by simp [u8s, el, h]
theorem ints_append (a b : List Int) : ints (a ++ b) = ints a ++ ints b := by simp [ints]
theorem u8s_append (a b : List Int) : u8s (a ++ b) = u8s a ++ u8s b := by simp [u8s]

theorem Row.below {w w' : World} {v : Value} {n : Nat} {xs : List Value} (h : Row w v n xs) (hb : Below w.heap.size w w') : Row w' v n xs := by
  obtain ⟨A, c, rfl, h1, h2, h3⟩ := h
  refine ⟨A, c, rfl, h1, h2, fun hn => ?_⟩
  obtain ⟨g, o, e, hc⟩ := h3 hn
  refine ⟨g, o, e, fun j u hu => ?_⟩
  have hc := hc j u hu
  rw [hb.cell (World.block_lt_of_cell? w _ hc)]
  exact hc
theorem Row.of_own {w : World} {base n : Nat} {e : TypeId} {size : Nat} {v : Value} {xs : List Value} (h : w.ownsRow base e size v n xs) : Row w v n xs := by
  rcases h.2 with ⟨rfl, rfl⟩ | ⟨g, cap, cur, rfl, hb, hh, h1, h2, h3, h4⟩
  · exact ⟨none, 0, rfl, Nat.le_refl _, Nat.zero_le _, fun h => absurd h (Nat.lt_irrefl 0)⟩
  · refine ⟨_, cap, rfl, h1, h2, fun _ => ⟨g, 0, rfl, fun j u hu => ?_⟩⟩
    rw [cell_of_row w g (0 + j) cur e (0, 0) hh, Nat.zero_add]
    rw [← h4, List.getElem?_take] at hu
    split at hu
    · simpa using hu
    · cases hu
/-- A slice that reads has no element, or lies somewhere. -/
theorem Row.open_ {w : World} {v : Value} {n : Nat} {xs : List Value} (h : Row w v n xs) :
    (n = 0 ∧ ∃ A c, v = .slice A 0 c ∧ c ≤ maxLen) ∨ ∃ g o c, v = .slice (some ⟨g, o, none⟩) n c ∧ n ≤ c ∧ c ≤ maxLen ∧ ∀ j u, xs[j]? = some u → w.cell? ⟨g, o + j, none⟩ = some u := by
  obtain ⟨A, c, rfl, h1, h2, h3⟩ := h
  rcases Nat.eq_zero_or_pos n with h0 | h0
  · subst h0; exact .inl ⟨rfl, A, c, rfl, h2⟩
  · obtain ⟨g, o, rfl, hc⟩ := h3 h0
    exact .inr ⟨g, o, c, rfl, h1, h2, hc⟩
theorem bcell {W w1 : World} (hb : Below W.heap.size W w1) :
    (∀ b o, b < W.heap.size → w1.cell? ⟨b, o, none⟩ = W.cell? ⟨b, o, none⟩) ∧ (∀ b o, b < W.heap.size → w1.frozen? ⟨b, o, none⟩ = W.frozen? ⟨b, o, none⟩) :=
  ⟨fun b o h => hb.cell (p := ⟨b, o, none⟩) h, fun b o h => hb.frozen (p := ⟨b, o, none⟩) h⟩
theorem grown_set (w : World) (a : Addr) (u : Value) : w.grownBy (w.setCell a u) (some a.block) :=
  ⟨rfl, rfl, rfl, by simp [World.setCell], fun k _ hk => Below.heap_setCell _ _ _ _ (fun e => hk (by rw [e]))⟩
theorem own_set {w : World} {base n : Nat} {e : TypeId} {size : Nat} {v : Value} {xs : List Value} (h : w.ownsRow base e size v n xs) (a : Addr) (u : Value) (hne : v.ownBlock ≠ some a.block) : (w.setCell a u).ownsRow base e size v n xs :=
  h.kept (grown_set w a u) (.inr hne)
theorem heap_set_same {w : World} {b o : Nat} {cs : Array Value} {t : TypeId} {fr : Nat × Nat} (h : w.heap[b]? = some (.cells cs t fr)) (u : Value) :
    (w.setCell ⟨b, o, none⟩ u).heap[b]? = some (.cells (cs.setIfInBounds o u) t fr) := by
  simp [World.setCell, Array.getElem?_modify, h]
theorem heap_lt {w : World} {b : Nat} {o : Obj} (h : w.heap[b]? = some o) : b < w.heap.size := (Array.getElem?_eq_some_iff.1 h).1
theorem own_lt {w : World} {base n : Nat} {e : TypeId} {size : Nat} {v : Value} {xs : List Value} (h : w.ownsRow base e size v n xs) {k : Nat} (hk : v.ownBlock = some k) : k < w.heap.size := (h.lt k hk).2
theorem own_not {w : World} {base n : Nat} {e : TypeId} {size : Nat} {v : Value} {xs : List Value} (h : w.ownsRow base e size v n xs) {k : Nat} (hk : w.heap.size ≤ k) : v.ownBlock ≠ some k := fun e => by
  have := own_lt h e; omega
theorem new_blk {W : World} {o : Obj} {s : Nat} (h : W.heap.size = s) : (W.alloc o).heap[s]? = some o := by subst h; exact heap_alloc_new _ _
theorem retI {k : IntKind} {a b : Int} (h : a = b) : Ending.returned (.int k a) = .returned (.int k b) := by rw [h]
theorem retT {k : IntKind} {a b : Int} {x : Value} (h : a = b) : Ending.returned (.tuple #[.int k a, x]) = .returned (.tuple #[.int k b, x]) := by rw [h]
theorem retB {a b : Bool} (h : a = b) : Ending.returned (.bool a) = .returned (.bool b) := by rw [h]
theorem bdraw {B : Nat} {w W : World} (h : Below B w W) (n : Nat) : Below B w (W.drewN n) := ⟨h.os, h.tape, h.output, h.size, h.block⟩
theorem balloc {w W : World} (h : Below w.heap.size w W) (o : Obj) : Below w.heap.size w (W.alloc o) := h.alloc h.size o
theorem kc {w w1 : World} (h : Below w.heap.size w w1) {a : Addr} {v : Value} (hc : w.cell? a = some v) : w1.cell? a = some v := (h.cell (World.block_lt_of_cell? w a hc)).trans hc
theorem balloc' {w W : World} {B : Nat} (h : Below B w W) (o : Obj) (hB : B ≤ W.heap.size := by omega) : Below B w (W.alloc o) := h.alloc hB o
theorem own_nil' (W : World) (base : Nat) (e : TypeId) (size : Nat) : W.ownsRow base e size (.slice none 0 0) 0 [] := ⟨by simp, .inl ⟨rfl, rfl⟩⟩
theorem bnext {B : Nat} {w w1 w2 : World} (h : Below B w w1) (hB : B ≤ w1.heap.size) (k : Below w1.heap.size w1 w2) : Below B w w2 :=
  h.trans (k.mono hB)
/-- append of one element that was just laid into a block of its own. -/
theorem app1 {P : Program} {ops : Array Oper} {rest : List Oper} {o : Oper} {a : Act} {Q : Exit → Act → World → Prop} {W : World} (hgd : o.guard = none) (s x : Operand) (t : TypeId)
    (ho : o.op = .call { callee := .builtin .append, args := #[s, x], argTypes := #[t, t] })
    (base : Nat) (e te : TypeId) (i : TypeInfo) (z : Value) (size bytes : Nat) (ht : P.underlying t = some (.slice e)) (hi : P.info? e = some i) (hz : i.zero = some z)
    (hsize : i.size = size) (hby : i.bytes = bytes) (hzs : z.cells.size = size) (hsz : 0 < size)
    (v : Value) (n : Nat) (xs : List Value) (hs : a.eval s = v) (hown : W.ownsRow base e size v n xs)
    (cs : List Value) (hx : a.eval x = .slice (some ⟨W.heap.size, 0, none⟩) 1 1) (hl : cs.length = size) (h1 : ∀ u ∈ cs, u.oneCell' = true)
    (h63 : n + 1 ≤ 1000000000) (hb : bytes ≤ 100) (hbase : base ≤ W.heap.size)
    (h : ∀ g cap w', w'.ownsRow base e size (.slice (some ⟨g, 0, none⟩) (n + 1) cap) (n + 1) (xs ++ cs) → (W.alloc (.cells cs.toArray te)).grownBy w' v.ownBlock → (v.ownBlock = some g ∨ g = W.heap.size + 1) → wpList P ops Q rest (a.put o.dst (.slice (some ⟨g, 0, none⟩) (n + 1) cap)) w') :
    wpList P ops Q (o :: rest) a (W.alloc (.cells cs.toArray te)) := by
  refine wpList_append_lies _ hgd s x t ho base e i z size bytes ht hi hz hsize hby hzs hsz v n xs hs (hown.alloc _) ⟨W.heap.size, 0, none⟩ 1 1 cs hx (by simp [hl]) (fun j u hj => ?_) h1 (by omega) (by simp only [maxLen]; omega) ?_ (by simp; omega) (W.heap.size + 1) (by simp) ?_
  · rw [show (⟨W.heap.size, 0, none⟩ : Addr).add j = ⟨W.heap.size, j, none⟩ by unfold Addr.add; split <;> simp_all]
    rw [World.cell?_alloc_new]; simpa using hj
  · calc (n + 1) * bytes ≤ 1000000000 * 100 := Nat.mul_le_mul h63 hb
      _ ≤ _ := by omega
  · intro g cap w' g1 g2 g3 _
    exact h g cap w' g1 g2 g3
/-- append of the m elements of another slice. -/
theorem appN {P : Program} {ops : Array Oper} {rest : List Oper} {o : Oper} {a : Act} {Q : Exit → Act → World → Prop} {W : World} (hgd : o.guard = none) (s x : Operand) (t : TypeId)
    (ho : o.op = .call { callee := .builtin .append, args := #[s, x], argTypes := #[t, t] })
    (base : Nat) (e : TypeId) (i : TypeInfo) (z : Value) (size bytes : Nat) (ht : P.underlying t = some (.slice e)) (hi : P.info? e = some i) (hz : i.zero = some z)
    (hsize : i.size = size) (hby : i.bytes = bytes) (hzs : z.cells.size = size) (hsz : 0 < size)
    (v : Value) (n : Nat) (xs : List Value) (hs : a.eval s = v) (hown : W.ownsRow base e size v n xs)
    (xv : Value) (m : Nat) (us : List Value) (hx : a.eval x = xv) (hrow : Row W xv m us) (hl : us.length = m * size) (h1 : ∀ u ∈ us, u.oneCell' = true)
    (hm : 0 < m) (h63 : n + m ≤ 1000000000) (hb : bytes ≤ 100) (hbase : base ≤ W.heap.size)
    (h : ∀ g cap w', w'.ownsRow base e size (.slice (some ⟨g, 0, none⟩) (n + m) cap) (n + m) (xs ++ us) → W.grownBy w' v.ownBlock → (v.ownBlock = some g ∨ g = W.heap.size) → wpList P ops Q rest (a.put o.dst (.slice (some ⟨g, 0, none⟩) (n + m) cap)) w') :
    wpList P ops Q (o :: rest) a W := by
  rcases hrow.open_ with ⟨h0, _⟩ | ⟨g0, o0, c0, rfl, _, _, hc⟩
  · omega
  refine wpList_append_lies _ hgd s x t ho base e i z size bytes ht hi hz hsize hby hzs hsz v n xs hs hown ⟨g0, o0, none⟩ m c0 us hx hl (fun j u hj => ?_) h1 hm (by simp only [maxLen]; omega) ?_ hbase W.heap.size rfl ?_
  · rw [show (⟨g0, o0, none⟩ : Addr).add j = ⟨g0, o0 + j, none⟩ by unfold Addr.add; split <;> simp_all]
    exact hc j u hj
  · calc (n + m) * bytes ≤ 1000000000 * 100 := Nat.mul_le_mul h63 hb
      _ ≤ _ := by omega
  · intro g cap w' g1 g2 g3 _
    exact h g cap w' g1 g2 g3
theorem u8s_one {l : List Int} : ∀ u ∈ u8s l, u.oneCell' = true := by
  intro u hu
  simp [u8s] at hu
  obtain ⟨x, _, rfl⟩ := hu
  rfl
/-- A block laid just now, as a row. -/
theorem own_blk {w : World} {b : Nat} {cs : Array Value} {e : TypeId} {size n : Nat} (base : Nat) (h : w.heap[b]? = some (.cells cs e (0, 0))) (hb : base ≤ b) (hn : cs.size = n * size) (hm : n ≤ maxLen) :
    w.ownsRow base e size (.slice (some ⟨b, 0, none⟩) n n) n cs.toList :=
  ⟨by simpa using hn, .inr ⟨b, n, cs, rfl, hb, h, Nat.le_refl _, hm, hn, by rw [List.take_of_length_le (by simp [hn])]⟩⟩
/-- The same at a step of a region that draws its order. -/
theorem step1 {P : Program} {ops : Array Oper} {o : Oper} {a : Act} {K : Act → World → Prop} {Q : Exit → Act → World → Prop} {E : Prop} {W : World} (hgd : o.guard = none) (s x : Operand) (t : TypeId)
    (ho : o.op = .call { callee := .builtin .append, args := #[s, x], argTypes := #[t, t] })
    (base : Nat) (e te : TypeId) (i : TypeInfo) (z : Value) (size bytes : Nat) (ht : P.underlying t = some (.slice e)) (hi : P.info? e = some i) (hz : i.zero = some z)
    (hsize : i.size = size) (hby : i.bytes = bytes) (hzs : z.cells.size = size) (hsz : 0 < size)
    (v : Value) (n : Nat) (xs : List Value) (hs : a.eval s = v) (hown : W.ownsRow base e size v n xs)
    (cs : List Value) (hx : a.eval x = .slice (some ⟨W.heap.size, 0, none⟩) 1 1) (hl : cs.length = size) (h1 : ∀ u ∈ cs, u.oneCell' = true)
    (h63 : n + 1 ≤ 1000000000) (hb : bytes ≤ 100) (hbase : base ≤ W.heap.size)
    (h : ∀ g cap w', w'.ownsRow base e size (.slice (some ⟨g, 0, none⟩) (n + 1) cap) (n + 1) (xs ++ cs) → (W.alloc (.cells cs.toArray te)).grownBy w' v.ownBlock → (v.ownBlock = some g ∨ g = W.heap.size + 1) → K (a.put o.dst (.slice (some ⟨g, 0, none⟩) (n + 1) cap)) w') :
    if Region.wanted o (yielded ops a.tmps) = true then Oper.wp P o a (W.alloc (.cells cs.toArray te)).drew K Q else E := by
  refine step_append_lies _ hgd s x t ho base e i z size bytes ht hi hz hsize hby hzs hsz v n xs hs ((hown.alloc _).kept (w' := (W.alloc (.cells cs.toArray te)).drew) (row := none) ⟨rfl, rfl, rfl, Nat.le_refl _, fun _ _ _ => rfl⟩ (by cases v.ownBlock <;> simp)) ⟨W.heap.size, 0, none⟩ 1 1 cs hx (by simp [hl]) (fun j u hj => ?_) h1 (by omega) (by simp only [maxLen]; omega) ?_ (by simp; omega) (W.heap.size + 1) (by simp) ?_
  · rw [show (⟨W.heap.size, 0, none⟩ : Addr).add j = ⟨W.heap.size, j, none⟩ by unfold Addr.add; split <;> simp_all]
    rw [World.cell?_drew, World.cell?_alloc_new]; simpa using hj
  · calc (n + 1) * bytes ≤ 1000000000 * 100 := Nat.mul_le_mul h63 hb
      _ ≤ _ := by omega
  · intro g cap w' g1 g2 g3 _
    exact h g cap w' g1 ⟨g2.os, g2.tape, g2.output, g2.size, g2.block⟩ g3
/-- The same, behind a call that made memory. -/
theorem step1n {P : Program} {ops : Array Oper} {o : Oper} {a : Act} {K : Act → World → Prop} {Q : Exit → Act → World → Prop} {E : Prop} {W : World} (hgd : o.guard = none) (s x : Operand) (t : TypeId)
    (ho : o.op = .call { callee := .builtin .append, args := #[s, x], argTypes := #[t, t] })
    (base : Nat) (e te : TypeId) (i : TypeInfo) (z : Value) (size bytes : Nat) (ht : P.underlying t = some (.slice e)) (hi : P.info? e = some i) (hz : i.zero = some z)
    (hsize : i.size = size) (hby : i.bytes = bytes) (hzs : z.cells.size = size) (hsz : 0 < size)
    (v : Value) (n : Nat) (xs : List Value) (hs : a.eval s = v) (hown : W.ownsRow base e size v n xs)
    (cs : List Value) (hx : a.eval x = .slice (some ⟨W.heap.size, 0, none⟩) 1 1) (hl : cs.length = size) (h1 : ∀ u ∈ cs, u.oneCell' = true)
    (h63 : n + 1 ≤ 1000000000) (hb : bytes ≤ 100) (hbase : base ≤ W.heap.size)
    (h : ∀ g cap w', w'.ownsRow base e size (.slice (some ⟨g, 0, none⟩) (n + 1) cap) (n + 1) (xs ++ cs) → (W.alloc (.cells cs.toArray te)).grownBy w' v.ownBlock → (v.ownBlock = some g ∨ g = W.heap.size + 1) → K (a.put o.dst (.slice (some ⟨g, 0, none⟩) (n + 1) cap)) w') :
    if Region.wanted o (yielded ops a.tmps) = true then Oper.wp P o a (W.alloc (.cells cs.toArray te)) K Q else E := by
  refine step_append_lies _ hgd s x t ho base e i z size bytes ht hi hz hsize hby hzs hsz v n xs hs (hown.alloc _) ⟨W.heap.size, 0, none⟩ 1 1 cs hx (by simp [hl]) (fun j u hj => ?_) h1 (by omega) (by simp only [maxLen]; omega) ?_ (by simp; omega) (W.heap.size + 1) (by simp) ?_
  · rw [show (⟨W.heap.size, 0, none⟩ : Addr).add j = ⟨W.heap.size, j, none⟩ by unfold Addr.add; split <;> simp_all]
    rw [World.cell?_alloc_new]; simpa using hj
  · calc (n + 1) * bytes ≤ 1000000000 * 100 := Nat.mul_le_mul h63 hb
      _ ≤ _ := by omega
  · intro g cap w' g1 g2 g3 _
    exact h g cap w' g1 g2 g3
theorem ne_swap {a b : Option Nat} (h : a = none ∨ a ≠ b) : b = none ∨ b ≠ a := by
  rcases h with e | e
  · rw [e]; cases b <;> simp
  · exact .inr (Ne.symm e)
theorem own_slice {w : World} {base n : Nat} {e : TypeId} {size : Nat} {v : Value} {xs : List Value} (h : w.ownsRow base e size v n xs) : ∃ A c, v = .slice A n c := by
  rcases h.2 with ⟨rfl, rfl⟩ | ⟨g, cap, cur, rfl, _⟩
  · exact ⟨none, 0, rfl⟩
  · exact ⟨_, cap, rfl⟩
theorem addr_add0 (A : Option Addr) (c : Nat) : (if c = 0 then A else A.map (fun x => x.add 0)) = A := by cases A <;> simp [Addr.add]
/-- s[:k], whatever s is. -/
theorem run_cut {P : Program} {t e : TypeId} {i : TypeInfo} (ht : P.underlying t = some (.slice e)) (hi : P.info? e = some i) (A : Option Addr) (n c k : Nat) (h : k ≤ c) (w : World) :
    (Instr.slice t (.slice A n c) none (some (.int .i64 (k : Int))) none).run P w = .ok (.slice A k c) w := by
  have hs : (P.elem t) = e := by simp [Program.elem, ht]
  rw [run_slice_h (P := P) (t := t) (ht := by rw [hs]; exact ht) (h0 := by omega) (h2 := by omega)]
  simp [hs, sizeOf, typeInfo, hi, Result.andThen, sliced, Int.toNat_natCast]
  cases A <;> simp [Addr.add]
theorem own_below {w w1 : World} {base : Nat} {e : TypeId} {size n : Nat} {v : Value} {xs : List Value} (h : w.ownsRow base e size v n xs) (hb : Below w.heap.size w w1) : w1.ownsRow base e size v n xs :=
  h.kept (row := none) ⟨hb.os, hb.tape, hb.output, hb.size, fun k hk _ => hb.block k hk⟩ (by cases v.ownBlock <;> simp)
theorem row_blk {w : World} {b n : Nat} {cs : Array Value} {e : TypeId} {fr : Nat × Nat} (h : w.heap[b]? = some (.cells cs e fr)) (hm : n ≤ maxLen) : Row w (.slice (some ⟨b, 0, none⟩) n n) n cs.toList :=
  ⟨_, n, rfl, Nat.le_refl _, hm, fun _ => ⟨b, 0, rfl, fun j u hu => by rw [cell_of_row w b _ cs e fr h, Nat.zero_add]; simpa using hu⟩⟩
theorem grown_trans {w w1 w2 : World} {r r1 : Option Nat} (h1 : w.grownBy w1 r) (h2 : w1.grownBy w2 r1) (hr : r1 = r ∨ ∀ k, r1 = some k → w.heap.size ≤ k) : w.grownBy w2 r := by
  refine ⟨h2.os.trans h1.os, h2.tape.trans h1.tape, h2.output.trans h1.output, Nat.le_trans h1.size h2.size, fun k hk hne => ?_⟩
  rw [h2.block k (Nat.lt_of_lt_of_le hk h1.size) ?_, h1.block k hk hne]
  intro e
  rcases hr with h | h
  · exact hne (e.trans h)
  · have := h k e.symm; omega
theorem grown_alloc {w w1 : World} {r : Option Nat} (h1 : w.grownBy w1 r) (o : Obj) : w.grownBy (w1.alloc o) r :=
  ⟨h1.os, h1.tape, h1.output, by have := h1.size; simp; omega, fun k hk hne => (heap_alloc_old _ _ (Nat.lt_of_lt_of_le hk h1.size)).trans (h1.block k hk hne)⟩
theorem grown_below {w w1 : World} (h : Below w.heap.size w w1) (r : Option Nat) : w.grownBy w1 r := ⟨h.os, h.tape, h.output, h.size, fun k hk _ => h.block k hk⟩
theorem below_grown {w w0 w1 : World} {B bb : Nat} (h : Below B w w0) (hg : w0.grownBy w1 (some bb)) (hB : B ≤ w0.heap.size) (hb : B ≤ bb) : Below B w w1 := h.grown hg hB (fun k hk => by cases hk; exact hb)
theorem gcell {w0 wr : World} {bb : Nat} (hg : w0.grownBy wr (some bb)) {a : Addr} {v : Value} (h : w0.cell? a = some v) (hne : a.block ≠ bb) : wr.cell? a = some v := hg.cell h (by simpa using hne)
theorem unfrozen {w : World} {b o : Nat} {cs : Array Value} {t : TypeId} (h : w.heap[b]? = some (.cells cs t (0, 0))) : w.frozen? ⟨b, o, none⟩ = false := by simp [World.frozen?, h]
/-- A block that is not the row that was appended to. -/
theorem blk_far {wr w1 : World} {o ob : Obj} {b : Nat} {row : Option Nat} (h : wr.heap[b]? = some ob) (hg : (wr.alloc o).grownBy w1 row) (hne : row ≠ some b) : w1.heap[b]? = some ob := by
  have hlt := heap_lt h
  rw [hg.block b (by simp; omega) (fun e => hne e.symm), heap_alloc_old _ _ hlt]; exact h
end Go.Proofs.Ytenbclcfhjdcaaa.B
end
section
set_option maxHeartbeats 8000000
set_option linter.unusedVariables false
set_option linter.unusedSimpArgs false
/- How an argument's reading opens into the words of Base; the end of a row's proof where nothing old has changed. -/
namespace Go.Proofs.Ytenbclcfhjdcaaa.B
open Go Go.RowKit Go.WideShapes Go.ChangeShapes Go.Deep

section
variable {H : Type} {enc : TypeId × Value → H} {P : Program}
/-- The cells read as data of the type t. -/
def Rd (enc : TypeId × Value → H) (P : Program) (w : World) (t : TypeId) (cs : List Value) : Prop := ∃ fuel x, DataW.trod enc P w 0 (fun _ => true) true fuel t cs = some x
theorem Rd.of {w : World} {t : TypeId} {v : Value} {d : DataW H} {ps : List MemPlace} (h : DataW.Trod enc P w 0 (fun _ => true) true t v d ps) : Rd enc P w t v.cells.toList := by
  obtain ⟨m, hm⟩ := h
  exact ⟨m, _, hm⟩
theorem Rd.int {w : World} {t : TypeId} {k : IntKind} {cs : List Value} (h : Rd enc P w t cs) (ht : P.underlying t = some (.int k)) : ∃ n, cs = [.int k n] ∧ (Lit.int k n).wf = true := by
  obtain ⟨m, x, hm⟩ := h
  obtain ⟨n, h1, _, h2⟩ := DataW.trod_int ht hm
  exact ⟨n, h1, h2⟩
theorem Rd.bool {w : World} {t : TypeId} {cs : List Value} (h : Rd enc P w t cs) (ht : P.underlying t = some .bool) : ∃ b, cs = [.bool b] := by
  obtain ⟨m, x, hm⟩ := h
  obtain ⟨n, h1, _⟩ := DataW.trod_bool ht hm
  exact ⟨n, h1⟩
theorem Rd.struct1 {w : World} {t : TypeId} {f0 : Field} {cs : List Value} (h : Rd enc P w t cs) (ht : P.underlying t = some (.struct #[f0])) : cs.length = P.cellsOf t ∧ Rd enc P w f0.type ((cs.drop f0.offset).take (P.cellsOf f0.type)) := by
  obtain ⟨m, x, hm⟩ := h
  obtain ⟨y0, n, _, hl, h0⟩ := trod_struct1 ht hm
  exact ⟨hl, ⟨n, _, h0⟩⟩
theorem Rd.struct2 {w : World} {t : TypeId} {f0 f1 : Field} {cs : List Value} (h : Rd enc P w t cs) (ht : P.underlying t = some (.struct #[f0, f1])) :
    cs.length = P.cellsOf t ∧ Rd enc P w f0.type ((cs.drop f0.offset).take (P.cellsOf f0.type)) ∧ Rd enc P w f1.type ((cs.drop f1.offset).take (P.cellsOf f1.type)) := by
  obtain ⟨m, x, hm⟩ := h
  obtain ⟨y0, y1, n, _, hl, h0, h1⟩ := trod_struct2 ht hm
  exact ⟨hl, ⟨n, _, h0⟩, ⟨n, _, h1⟩⟩
theorem mapM_some {α β : Type} (f : α → Option β) : ∀ (l : List α) (r : List β), l.mapM f = some r → r.length = l.length ∧ ∀ i (h : i < l.length), ∃ y, r[i]? = some y ∧ f l[i] = some y
  | [], r, h => by simp at h; subst h; exact ⟨rfl, fun i h => by simp at h⟩
  | a :: l, r, h => by
    rw [List.mapM_cons] at h
    cases ha : f a with
    | none => simp [ha] at h
    | some y =>
      cases hl : l.mapM f with
      | none => simp [ha, hl] at h
      | some s =>
        simp [ha, hl] at h
        subst h
        obtain ⟨h1, h2⟩ := mapM_some f l s hl
        refine ⟨by simp [h1], fun i hi => ?_⟩
        cases i with
        | zero => exact ⟨y, rfl, ha⟩
        | succ i => simpa using h2 i (by simpa using hi)
/-- Cells in a row that are read: each one is there. -/
theorem cells_some {w : World} {a : Addr} {n : Nat} {cs : List Value} (h : w.cells? 0 a n = some cs) : cs.length = n ∧ ∀ i, i < n → ∃ u, cs[i]? = some u ∧ w.cell? (a.add i) = some u := by
  unfold World.cells? at h
  rw [if_pos (Nat.zero_le _)] at h
  obtain ⟨h1, h2⟩ := mapM_some _ _ _ h
  refine ⟨by simpa using h1, fun i hi => ?_⟩
  obtain ⟨y, hy, hc⟩ := h2 i (by simpa using hi)
  exact ⟨y, hy, by simpa using hc⟩
theorem sum_const {α : Type} (k : Nat) (l : List α) : (l.map fun _ => k).sum = l.length * k := by
  induction l with
  | nil => simp
  | cons a l ih => rw [List.map_cons, List.sum_cons, ih, List.length_cons, Nat.add_mul]; omega
theorem spot_none {w : World} {a : Addr} {u : Value} (h : w.cell? a = some u) : a.spot = none := by
  unfold World.cell? at h
  split at h
  · cases hs : a.spot with
    | none => rfl
    | some s => simp [hs] at h
  · cases h
theorem add_none (g o i : Nat) : (⟨g, o, none⟩ : Addr).add i = ⟨g, o + i, none⟩ := by unfold Addr.add; split <;> simp_all
/-- A slice whose elements take k cells each: the row of all its cells, and each element's own reading. -/
theorem Rd.slice {w : World} {t e : TypeId} {cs : List Value} {k : Nat} (h : Rd enc P w t cs) (ht : P.underlying t = some (.slice e)) (hk : P.cellsOf e = k) (hk0 : 0 < k) :
    ∃ v n, ∃ es : List (List Value), cs = [v] ∧ es.length = n ∧ Row w v n es.flatten ∧ ∀ i (h : i < es.length), es[i].length = k ∧ Rd enc P w e es[i] := by
  obtain ⟨m, x, hm⟩ := h
  rcases open_slice ht hm with ⟨rfl, _⟩ | ⟨a, len, cap, mm, n, D, Pl, rfl, hb, hl, hm', hmm, rfl, hx⟩
  · exact ⟨_, 0, [], rfl, rfl, ⟨none, 0, rfl, Nat.le_refl _, Nat.zero_le _, fun h => absurd h (Nat.lt_irrefl 0)⟩, fun i h => by simp at h⟩
  · simp at hmm
    obtain rfl : mm = cap := hmm
    rw [hk] at hx
    have hx' : ∀ i, ∃ cs', i < len → w.cells? 0 (a.add (i * k)) k = some cs' ∧ DataW.trod enc P w 0 (fun _ => true) true n e cs' = some (D i, Pl i) := fun i => by
      by_cases hi : i < len
      · obtain ⟨c, hc⟩ := hx i (by omega); exact ⟨c, fun _ => hc⟩
      · exact ⟨[], fun h => absurd h hi⟩
    obtain ⟨f, hf⟩ := Classical.axiomOfChoice hx'
    have hlen : ∀ i, i < len → (f i).length = k := fun i hi => (cells_some (hf i hi).1).1
    refine ⟨_, len, (List.range len).map f, rfl, by simp, ⟨some a, mm, rfl, hl, hm', fun hn => ?_⟩, fun i hi => ?_⟩
    · have h0 := (cells_some (hf 0 hn).1).2 0 hk0
      obtain ⟨u0, _, hu0⟩ := h0
      have hs := spot_none hu0
      obtain ⟨g, o, sp⟩ := a
      have hs : sp = none := by simpa [Addr.add] using hs
      subst hs
      refine ⟨g, o, rfl, fun j u hj => ?_⟩
      have hfl : ∀ (len : Nat), (∀ i, i < len → (f i).length = k) → ∀ j u, ((List.range len).map f).flatten[j]? = some u → j / k < len ∧ (f (j / k))[j % k]? = some u := by
        intro len
        induction len with
        | zero => intro _ j u h; simp at h
        | succ len ih =>
          intro hL j u h
          have hfl : ((List.range len).map f).flatten.length = len * k := by
            rw [List.length_flatten, List.map_map, show (List.range len).map (List.length ∘ f) = (List.range len).map (fun _ => k) from List.map_congr_left fun x hx => hL x (by simp at hx; omega), sum_const, List.length_range]
          rw [List.range_succ, List.map_append, List.flatten_append, List.getElem?_append] at h
          split at h
          · obtain ⟨h1, h2⟩ := ih (fun i hi => hL i (by omega)) j u h
            exact ⟨by omega, h2⟩
          · rename_i hge
            rw [hfl] at hge h
            simp at h
            have hlt : j - len * k < k := by
              have := (List.getElem?_eq_some_iff.1 h).1
              rw [hL len (by omega)] at this
              exact this
            have e1 : j / k = len := by
              rw [Nat.div_eq_iff hk0]
              constructor
              · omega
              · have : (len + 1) * k = len * k + k := by rw [Nat.add_mul]; omega
                omega
            have e2 : j % k = j - len * k := by
              have := Nat.div_add_mod j k
              rw [e1, Nat.mul_comm] at this
              omega
            rw [e1, e2]
            exact ⟨by omega, h⟩
      obtain ⟨h1, h2⟩ := hfl len hlen j u hj
      obtain ⟨y, hy, hc⟩ := (cells_some (hf (j / k) h1).1).2 (j % k) (Nat.mod_lt _ hk0)
      rw [add_none, add_none] at hc
      rw [h2] at hy
      cases hy
      rw [← hc]
      have := Nat.div_add_mod j k
      rw [Nat.mul_comm] at this
      rw [show o + j = o + j / k * k + j % k by omega]
    · simp only [List.length_map, List.length_range] at hi
      simp only [List.getElem_map, List.getElem_range]
      exact ⟨hlen i hi, ⟨n, _, (hf i hi).2⟩⟩
/-- A slice whose elements take one cell each. -/
theorem Rd.slice1 {w : World} {t e : TypeId} {A : Option Addr} {n c : Nat} (h : Rd enc P w t [.slice A n c]) (ht : P.underlying t = some (.slice e)) (hk : P.cellsOf e = 1) :
    n ≤ c ∧ c ≤ maxLen ∧ (0 < n → ∃ g o, A = some ⟨g, o, none⟩ ∧ g < w.heap.size) ∧ ∃ f : Nat → Value, ∀ i, i < n → (∀ g o, A = some ⟨g, o, none⟩ → w.cell? ⟨g, o + i, none⟩ = some (f i)) ∧ Rd enc P w e [f i] := by
  obtain ⟨m, x, hm⟩ := h
  rcases open_slice1 ht hk hm with ⟨h0, _⟩ | ⟨a, len, cap, mm, n', V, D, Pl, h0, hb, hl, hm', hmm, rfl, hx⟩
  · simp at h0
    obtain ⟨rfl, rfl, rfl⟩ := h0
    exact ⟨Nat.le_refl _, Nat.zero_le _, fun h => absurd h (Nat.lt_irrefl 0), fun _ => undef, fun i hi => absurd hi (Nat.not_lt_zero _)⟩
  · simp at h0
    obtain ⟨rfl, rfl, rfl⟩ := h0
    simp at hmm
    refine ⟨hl, hm', fun hn => ?_, V, fun i hi => ⟨fun g o e => ?_, ⟨n', _, (hx i (by omega)).2⟩⟩⟩
    · have h0 := (hx 0 (by omega)).1
      have hs := spot_none h0
      obtain ⟨g, o, sp⟩ := a
      have hs : sp = none := by simpa [Addr.add] using hs
      subst hs
      exact ⟨g, o, rfl, World.block_lt_of_cell? w _ h0⟩
    · cases e
      have h0 := (hx i (by omega)).1
      rw [add_none] at h0
      exact h0
theorem post_of_below {f : Func} {s : ChangeSpec} {apart fresh handsOn again : Bool} {W W' : World} {args : Array Value} {v : Value} {ds gs : List (DataW H)} {before pa pv : List MemPlace}
    (hW : DataW.Whole enc P f.params.toList s.vars apart W args.toList ds gs before)
    (hres : ∀ (b : Nat) (sp : Nat → Bool) (hd : Bool), DataW.TrodAll enc P W' b sp hd f.resultTypes.toList (v.resultList f.resultTypes.size) (s.fn H (ds ++ gs)).results [])
    (hargs : ∀ sp : Nat → Bool, (∀ p ∈ before, sp p.block = true) → DataW.TrodAll enc P W' 0 sp true f.params.toList args.toList (s.fn H (ds ++ gs)).args pa)
    (hvars : ∀ sp : Nat → Bool, (∀ p ∈ before, sp p.block = true) → DataW.TrodVars enc P W' sp s.vars (s.fn H (ds ++ gs)).vars pv)
    (hps : before = pa ++ pv) (hb : Below W.heap.size W W')
    (hok : ∀ (j : Nat) (t : TypeId) (r : Value), f.resultTypes[j]? = some t → (v.resultList f.resultTypes.size)[j]? = some r → Value.okWide P W' .any 0 t r) :
    s.post enc P f apart fresh handsOn again W args v W' := by
  have hlt : ∀ p ∈ before, p.block < W.heap.size := fun p hp => hW.lt p hp
  have hold : ∀ p ∈ before, (fun b => decide (b < W.heap.size)) p.block = true := fun p hp => by simpa using hlt p hp
  refine ⟨ds, gs, before, [], pa, pv, hW, hres _ _ _, hargs _ hold, hvars _ hold, World.keptBut_mono (fun p hp => ⟨hp, ?_⟩) (hb.frame (· ∈ before)), fun _ => ?_⟩
  · rw [hps, List.mem_append] at hp
    exact Or.inr hp
  · obtain ⟨_, _, _, _, _, hz, hn⟩ := hW
    refine ⟨hok, _, _, ([] ++ pa) ++ pv, ⟨[] ++ pa, pv, trodAll_append (hargs _ (fun _ _ => rfl)) (hres _ _ _), hvars _ (fun _ _ => rfl), rfl, ?_, ?_⟩, ?_⟩
    · intro b off hp
      have hin : MemPlace.cell b off ∈ before := by rw [hps]; simpa using hp
      rw [hb.frozen (hlt _ hin)]
      exact hz b off hin
    · intro ha
      have := hn ha
      rw [hps] at this
      simpa using this
    · intro p hp _
      rw [hps]
      simpa using hp
/-- An argument reads behind the call as it read ahead of it. -/
theorem trod_again {t : TypeId} (hl : laidOutB P = true) (hr : P.readableRec t = true) (hrow : t < P.types.size) {W W' : World} {v : Value} {d : DataW H} {ps : List MemPlace}
    (h : DataW.Trod enc P W 0 (fun _ => true) true t v d ps) (hb : Below W.heap.size W W') (hlt : ∀ x ∈ ps, x.block < W.heap.size) (sp : Nat → Bool) (hs : ∀ p ∈ ps, sp p.block = true) :
    DataW.Trod enc P W' 0 sp true t v d ps :=
  WideElems.Trod_stays hl hr hrow h (fun x hx => hb.same (hlt x hx)) hs
end
end Go.Proofs.Ytenbclcfhjdcaaa.B
end
section
set_option maxHeartbeats 8000000
set_option linter.unusedVariables false
set_option linter.unusedSimpArgs false
/- What a law's arguments are for the machine of values. -/
namespace Go.Proofs.Ytenbclcfhjdcaaa.VM
open Go Go.Proofs Go.RowKit Go.WideShapes Go.ChangeShapes Go.Deep AM B
section
variable {H : Type} {enc : TypeId × Value → H} {P : Program} {w : World}
theorem rd_nil {t e : TypeId} {cs : List Value} (h : Rd enc P w t cs) (ht : P.underlying t = some (.slice e)) : ∃ v, cs = [v] ∧ (v = .slice none 0 0 ∨ ∃ a n c, v = .slice (some a) n c) := by
  obtain ⟨m, x, hm⟩ := h
  rcases open_slice ht hm with ⟨rfl, _⟩ | ⟨a, len, cap, mm, n, D, Pl, rfl, _⟩
  · exact ⟨_, rfl, .inl rfl⟩
  · exact ⟨_, rfl, .inr ⟨_, _, _, rfl⟩⟩
theorem rd_sliceV {t e : TypeId} {cs : List Value} {k : Nat} (Good : List V → Prop) (h : Rd enc P w t cs) (ht : P.underlying t = some (.slice e)) (hk : P.cellsOf e = k) (hk0 : 0 < k) (hk1 : k ≤ 1048576)
    (f : ∀ es, es.length = k → Rd enc P w e es → ∃ row : List V, row.length = k ∧ CellsV w row es ∧ Good row) : ∃ v kk rows, cs = [v] ∧ CellV w (.fsl kk k rows) v ∧ rows.length ≤ maxLen ∧ ∀ r ∈ rows, Good r := by
  obtain ⟨v0, hv0, hnil⟩ := rd_nil h ht
  obtain ⟨v, n, es, h1, h2, ⟨A, c, h3, h4, h5, h6⟩, h7⟩ := h.slice ht hk hk0
  have hvv : v0 = v := by rw [hv0] at h1; cases h1; rfl
  subst hvv
  have rows : ∀ es : List (List Value), (∀ i (h : i < es.length), es[i].length = k ∧ Rd enc P w e es[i]) → ∃ rows : List (List V), RowsV w k rows es.flatten ∧ rows.length = es.length ∧ ∀ r ∈ rows, Good r := by
    intro es
    induction es with
    | nil => exact fun _ => ⟨[], rfl, rfl, fun r hr => by simp at hr⟩
    | cons a es ih =>
      intro h
      obtain ⟨rows, r1, r2, r3⟩ := ih fun i hi => h (i + 1) (by simpa using hi)
      obtain ⟨row, q1, q2, q3⟩ := f a (h 0 (by simp)).1 (h 0 (by simp)).2
      refine ⟨row :: rows, ⟨a, es.flatten, by simp, q1, q2, r1⟩, by simp [r2], fun r hr => ?_⟩
      rcases List.mem_cons.1 hr with rfl | hr
      · exact q3
      · exact r3 r hr
  obtain ⟨rows, r1, r2, r3⟩ := rows es h7
  obtain ⟨kk, hc⟩ := CellV.slice (A := A) (n := n) (c := c) hk0 hk1 (fun hA => by
    rcases hnil with hq | ⟨a, n', c', hq⟩
    · rw [h3] at hq; cases hq; exact ⟨rfl, rfl⟩
    · rw [h3, hA] at hq; cases hq) h4 h5 (by omega) r1 h6
  exact ⟨v0, kk, rows, h1, by rw [h3]; exact hc, by omega, r3⟩
theorem rd_two {t : TypeId} {f0 f1 : Field} {cs : List Value} (h : Rd enc P w t cs) (ht : P.underlying t = some (.struct #[f0, f1])) {a b : Nat} (o0 : f0.offset = 0) (c0 : P.cellsOf f0.type = a) (o1 : f1.offset = a) (c1 : P.cellsOf f1.type = b) (hc : P.cellsOf t = a + b) :
    ∃ x y, cs = x ++ y ∧ x.length = a ∧ y.length = b ∧ Rd enc P w f0.type x ∧ Rd enc P w f1.type y := by
  obtain ⟨hl, h0, h1⟩ := h.struct2 ht
  rw [o0, c0, List.drop_zero] at h0
  rw [o1, c1] at h1
  have e1 : (cs.drop a).take b = cs.drop a := List.take_of_length_le (by simp; omega)
  rw [e1] at h1
  exact ⟨cs.take a, cs.drop a, (List.take_append_drop a cs).symm, by simp; omega, by simp; omega, h0, h1⟩
end
section
variable {H : Type} {enc : TypeId × Value → H}
theorem rd_key {w : World} {cs : List Value} (h : Rd enc Try.prog w 39 cs) : ∃ s n : Int, cs = [.int .i64 s, .int .i64 n] := by
  obtain ⟨x, y, rfl, _, _, hx, hy⟩ := rd_two h Try.underlying39 (a := 1) (b := 1) rfl (by kernel_rfl) rfl (by kernel_rfl) (by kernel_rfl)
  obtain ⟨s, rfl, _⟩ := hx.int Try.underlying3
  obtain ⟨n, rfl, _⟩ := hy.int Try.underlying3
  exact ⟨s, n, rfl⟩
theorem rd_entry {w : World} {cs : List Value} (h : Rd enc Try.prog w 51 cs) : ∃ e : Ent, cs = [.int .i64 e.s, .int .i64 e.n, .int .i64 e.p] := by
  obtain ⟨x, y, rfl, _, _, hx, hy⟩ := rd_two h Try.underlying51 (a := 2) (b := 1) rfl (by kernel_rfl) rfl (by kernel_rfl) (by kernel_rfl)
  obtain ⟨s, n, rfl⟩ := rd_key hx
  obtain ⟨p, rfl, _⟩ := hy.int Try.underlying3
  exact ⟨⟨s, n, p⟩, rfl⟩
theorem int3 {w : World} {a b c : Int} : CellsV w [i6 a, i6 b, i6 c] [.int .i64 a, .int .i64 b, .int .i64 c] := ⟨_, _, rfl, .lit rfl, _, _, rfl, .lit rfl, _, _, rfl, .lit rfl, rfl⟩
theorem rows_ec : ∀ {rows : List (List V)}, (∀ r ∈ rows, ∃ e, r = ec e) → ∃ l : List Ent, rows = l.map ec
  | [], _ => ⟨[], rfl⟩
  | r :: rs, h => by
    obtain ⟨e, he⟩ := h r (by simp)
    obtain ⟨l, hl⟩ := rows_ec (rows := rs) fun x hx => h x (by simp [hx])
    exact ⟨e :: l, by rw [he, hl]; rfl⟩
/-- A node. -/
theorem arg_node {w : World} {cs : Array Value} (h : Rd enc Try.prog w 37 cs.toList) : ∃ a kk, ∃ l : List Ent, l.length < 2 ^ 63 ∧ ArgV w (.agg [bo a, ES kk l]) (.agg cs) := by
  obtain ⟨x, y, e, _, _, hx, hy⟩ := rd_two h Try.underlying37 (a := 1) (b := 1) rfl (by kernel_rfl) rfl (by kernel_rfl) (by kernel_rfl)
  obtain ⟨lf, rfl⟩ := hx.bool Try.underlying4
  obtain ⟨v, kk, rows, rfl, hc, hl, hg⟩ := rd_sliceV (fun r => ∃ e, r = ec e) hy Try.underlying35 (by kernel_rfl : Try.prog.cellsOf 51 = 3) (by omega) (by omega) (fun es h1 h2 => by
    obtain ⟨e, rfl⟩ := rd_entry h2
    exact ⟨ec e, rfl, int3, e, rfl⟩)
  obtain ⟨l, rfl⟩ := rows_ec hg
  refine ⟨lf, kk, l, by simp only [List.length_map, maxLen] at hl; omega, CellsV.arg ?_⟩
  rw [e]
  exact ⟨_, _, rfl, .lit rfl, _, _, rfl, hc, rfl⟩
theorem arg_entry {w : World} {cs : Array Value} (h : Rd enc Try.prog w 51 cs.toList) : ∃ e : Ent, ArgV w (.agg (ec e)) (.agg cs) := by
  obtain ⟨e, he⟩ := rd_entry h
  exact ⟨e, CellsV.arg (by rw [he]; exact int3)⟩
end
end Go.Proofs.Ytenbclcfhjdcaaa.VM
end
section
set_option maxHeartbeats 8000000
set_option linter.unusedVariables false
set_option linter.unusedSimpArgs false
/- Numbers as bytes, seven bits a byte: plain. -/
namespace Go.Proofs.Ytenbclcfhjdcaaa
open B
def vencF : Nat → Nat → List Int
  | 0, _ => []
  | k + 1, n => if n < 128 then [(n : Int)] else ((n % 128 + 128 : Nat) : Int) :: vencF k (n / 128)
/-- A number's bytes. -/
def venc (n : Nat) : List Int := vencF 10 n
theorem vencF_more : ∀ (k n : Nat), n < 128 ^ k → 0 < k → vencF (k + 1) n = vencF k n := by
  intro k
  induction k with
  | zero => intro n _ h; omega
  | succ k ih =>
    intro n hn _
    by_cases h : n < 128
    · simp [vencF, h]
    · have e1 : ∀ j, vencF (j + 1) n = ((n % 128 + 128 : Nat) : Int) :: vencF j (n / 128) := fun j => by rw [vencF, if_neg h]
      rw [e1, e1]
      congr 1
      rcases Nat.eq_zero_or_pos k with h0 | h0
      · subst h0; omega
      · exact ih (n / 128) (by rw [Nat.pow_succ] at hn; omega) h0
theorem venc_lt (n : Nat) (h : n < 128) : venc n = [(n : Int)] := by simp [venc, vencF, h]
theorem venc_ge (n : Nat) (h : 128 ≤ n) (h2 : n < 18446744073709551616) : venc n = ((n % 128 + 128 : Nat) : Int) :: venc (n / 128) := by
  have e : vencF 10 n = ((n % 128 + 128 : Nat) : Int) :: vencF 9 (n / 128) := by rw [vencF, if_neg (by omega)]
  unfold venc
  rw [e, vencF_more 9 (n / 128) (by omega) (by omega)]
theorem vencF_length : ∀ k n, (vencF k n).length ≤ k := by
  intro k
  induction k with
  | zero => intro n; simp [vencF]
  | succ k ih => intro n; unfold vencF; split <;> simp [ih]
theorem venc_length (n : Nat) : (venc n).length ≤ 10 := vencF_length 10 n
theorem venc_pos (n : Nat) : 0 < (venc n).length := by unfold venc vencF; split <;> simp
theorem vencF_byte : ∀ k n x, x ∈ vencF k n → 0 ≤ x ∧ x ≤ 255 := by
  intro k
  induction k with
  | zero => intro n x h; simp [vencF] at h
  | succ k ih =>
    intro n x h
    unfold vencF at h
    split at h
    · simp at h; omega
    · rcases List.mem_cons.1 h with rfl | h
      · omega
      · exact ih _ x h
theorem venc_byte (n : Nat) (x : Int) (h : x ∈ venc n) : 0 ≤ x ∧ x ≤ 255 := vencF_byte 10 n x h
/-- Numbers' bytes, one behind the other. -/
def vencs (l : List Int) : List Int := l.flatMap fun n => venc n.toNat
theorem vencs_append (a b : List Int) : vencs (a ++ b) = vencs a ++ vencs b := by simp [vencs]
theorem vencs_length (l : List Int) : (vencs l).length ≤ 10 * l.length := by
  induction l with
  | nil => simp [vencs]
  | cons a l ih =>
    have := venc_length a.toNat
    simp only [vencs, List.flatMap_cons, List.length_append, List.length_cons] at *
    omega
theorem vencs_pos (l : List Int) : l.length ≤ (vencs l).length := by
  induction l with
  | nil => simp [vencs]
  | cons a l ih =>
    have := venc_pos a.toNat
    simp only [vencs, List.flatMap_cons, List.length_append, List.length_cons] at *
    omega
end Go.Proofs.Ytenbclcfhjdcaaa
end
section
set_option maxHeartbeats 8000000
set_option linter.unusedVariables false
set_option linter.unusedSimpArgs false
/- varint: put and Put. -/
namespace Go.Proofs.Ytenbclcfhjdcaaa.VM
open Go Go.Proofs AM
/-- A byte, in a row. -/
def bc (b : Int) : List V := [.lit (.int .u8 b)]
/-- A slice of bytes; of whole numbers. -/
def BS (k : Bool) (l : List Int) : V := .fsl k 1 (l.map bc)
def ic (n : Int) : List V := [i6 n]
def IS (k : Bool) (l : List Int) : V := .fsl k 1 (l.map ic)
attribute [simp] BS bc IS ic
set_option maxRecDepth 100000
theorem bits_or (r : Nat) (h : r < 256) : bits BinOp.or IntKind.u8 (r : Int) 128 = ((r % 128 + 128 : Nat) : Int) := by
  have : ∀ r : Fin 256, bits BinOp.or IntKind.u8 ((r : Nat) : Int) 128 = (((r : Nat) % 128 + 128 : Nat) : Int) := by decide +kernel
  exact this ⟨r, h⟩
theorem bits_or' (q : Nat) : bits BinOp.or IntKind.u8 ((q : Int) % 256) 128 = ((q % 128 + 128 : Nat) : Int) := by
  have := bits_or (q % 256) (by omega)
  rw [show ((q % 256 : Nat) : Int) = (q : Int) % 256 by omega] at this
  rw [this]
  congr 1
  omega
theorem v_put {H : Hp} {g w : Nat} {rows : List (List V)} {t : Bool} {n : Nat} (hg : H[g]? = some (.vec w rows 1 true t)) (hp : PureR rows) (hl : rows.length ≤ 1000000) (hn : n < 18446744073709551616) :
    VC Try.prog prims 106 [.own g w, .lit (.int .u64 n)] H fun u T => ∃ w', u = .own g w' ∧ T = H.set g (.vec w' (rows ++ (venc n).map bc) 1 true t) := by
  refine v_enter hC [] (fun _ _ => kn_none rfl) Try.func106 rfl ok106 (Nat.le_of_ble_eq_true rfl) fun hcl hbl => ?_
  simp
  refine v_loopX hC (fun (X : Nat × List Int) e T => ∃ w', T = H.set g (.vec w' (rows ++ X.2.map bc) 1 true t) ∧ e 0 = .own g w' ∧ e 1 = .lit (.int .u64 X.1) ∧ X.1 < 18446744073709551616 ∧ venc n = X.2 ++ venc X.1 ∧ X.2.length ≤ 10) (fun X => X.1) (n, []) (G.refl ?_) ?_
  · refine ⟨w, ?_, by simp, by simp, hn, by simp, by simp⟩
    rw [List.map_nil, List.append_nil]
    exact (set_self hg).symm
  · rintro ⟨m, done⟩ e T ⟨w', rfl, h0, h1, hm, hv, hd⟩
    have hgl := get_lt hg
    have hset : ∀ y, (H.set g y)[g]? = some y := fun y => List.getElem?_set_self hgl
    simp [h0, h1, hset]
    simp only at h1 hm hv hd
    have hw8 : IntKind.u8.wrap (m : Int) = (m : Int) % 256 := by simp [IntKind.wrap, IntKind.bits, IntKind.signed]
    have hlen : done.length + (venc m).length ≤ 10 := by have := venc_length n; rw [hv, List.length_append] at this; exact this
    have hpos := venc_pos m
    refine CondV.dec (fun hge => ?_) (fun hlt => ?_)
    · have hge : 128 ≤ m := by omega
      have hfd : ((m : Int)).fdiv (2 ^ min 7 IntKind.u64.bits) = ((m / 128 : Nat) : Int) := by
        rw [show min 7 IntKind.u64.bits = 7 from rfl, Int.fdiv_eq_ediv_of_nonneg _ (by decide)]; omega
      have hvm := venc_ge m hge hm
      simp [h0, h1, hset, hw8, bits_or', hfd]
      refine ⟨by omega, GH.refl ⟨(m / 128, done ++ [((m % 128 + 128 : Nat) : Int)]), ⟨w' + 1, ?_, ?_, ?_, ?_, ?_, ?_⟩, ?_⟩⟩
      · simp
      · simp
      · simp
      · simp only; omega
      · simp only; rw [hv, hvm]; simp
      · simp only [List.length_append, List.length_singleton]; omega
      · simp only; omega
    · have hlt : m < 128 := by omega
      simp [h0, h1, hset, hw8, Try.results106]
      refine ⟨by omega, GV.refl ⟨w' + 1, rfl, ?_⟩⟩
      rw [hv, venc_lt m hlt]
      simp [show (m : Int) % 256 = m by omega]
/-- Numbers' bytes, or none. -/
def putB (l : List Int) : List Int := if l.all (fun n => decide (0 ≤ n)) then vencs l else []
theorem v_Put {kk : Bool} {l : List Int} (hl : l.length ≤ 10000) (hr : ∀ n ∈ l, n < 9223372036854775808) : A 85 [IS kk l] (BS true (putB l)) := by
  intro H
  refine v_enter hC [] (fun _ _ => kn_none rfl) Try.func85 rfl ok85 (Nat.le_of_ble_eq_true rfl) fun hcl hbl => ?_
  simp
  have get : ∀ {k : Nat} (h : k < l.length), l[k]? = some l[k] := fun h => List.getElem?_eq_getElem h
  refine v_loopX hC (fun (k : Nat) e T => ∃ w t, T = H ++ [.vec w ((vencs (l.take k)).map bc) 1 true t] ∧ e 3 = .own H.length w ∧ e 6 = IS kk l ∧ e 7 = i6 l.length ∧ e 8 = i6 k ∧ k ≤ l.length ∧ ∀ n ∈ l.take k, 0 ≤ n) (fun k => l.length - k) 0 ?_ ?_
  · refine G.nilT0 (s := 1) 3 hcl (Nat.le_refl _) (by omega) (by simp) ?_
    exact ⟨0, true, by simp [vencs], by simp, by simp, by simp, by simp, by simp, by simp⟩
  · rintro k e T ⟨w, t, rfl, h3, h6, h7, h8, hk, hpos⟩
    simp [h3, h6, h7, h8]
    refine CondV.dec (fun hlt => ?_) (fun hge => ?_)
    · simp [h3, h6, h7, h8, get hlt]
      have hrk := hr l[k] (List.getElem_mem hlt)
      refine CondV.dec (fun hneg => ?_) (fun hnn => ?_)
      · have hm : putB l = [] := by
          unfold putB
          rw [if_neg]
          intro h
          have := List.all_eq_true.1 h l[k] (List.getElem_mem hlt)
          simp at this
          omega
        simp [Try.results85]
        first | (refine GV.ans hcl ?_; simp [hm]; done) | (refine GV.ans0 ?_; simp [hm]; done)
      · obtain ⟨n, hln⟩ : ∃ n : Nat, l[k] = n := ⟨l[k].toNat, by omega⟩
        have hw : IntKind.u64.wrap l[k] = (n : Int) := by simp [IntKind.wrap, IntKind.bits, IntKind.signed]; omega
        have hlen : (vencs (l.take k)).length ≤ 100000 := by
          have := vencs_length (l.take k)
          rw [List.length_take] at this
          omega
        simp [h3, hw]
        refine CALLv.at (v_put (n := n) (rows := (vencs (l.take k)).map bc) (List.getElem?_concat_length ..) (by simp) (by simp; omega) (by omega)) fun u T' hu => ?_
        obtain ⟨w2, e1, e2⟩ := hu
        subst e1; subst e2
        simp [h3, h6, h7, h8, w64 (n := (k : Int) + 1) (by omega)]
        refine GH.refl ⟨k + 1, ⟨w2, t, ?_, ?_, ?_, ?_, ?_, hlt, ?_⟩, by omega⟩ <;> (try simp [h6, h7])
        · rw [List.take_succ_eq_append_getElem hlt, vencs_append]
          simp [vencs, hln]
        · rw [List.take_succ_eq_append_getElem hlt]
          intro n hn
          rcases List.mem_append.1 hn with hn | hn
          · exact hpos n hn
          · simp at hn; subst hn; omega
    · have hm : putB l = vencs l := by
        unfold putB
        rw [if_pos]
        rw [List.all_eq_true]
        intro n hn
        rw [List.take_of_length_le (by omega)] at hpos
        simpa using hpos n hn
      have ht : l.take k = l := List.take_of_length_le (by omega)
      simp [h3, Try.results85]
      first | (refine GV.ans hcl ?_; simp [hm, ht]; done) | (refine GV.ans0 ?_; simp [hm, ht]; done)
end Go.Proofs.Ytenbclcfhjdcaaa.VM
end
section
set_option maxHeartbeats 8000000
set_option linter.unusedVariables false
set_option linter.unusedSimpArgs false
/- bytes: the document's Put, Same, bytes.Equal. -/
namespace Go.Proofs.Ytenbclcfhjdcaaa.VM
open Go Go.Proofs AM
set_option maxRecDepth 100000
theorem v_rPut {n : Nat} (hn : n < 18446744073709551616) : A 87 [.lit (.int .u64 n)] (BS true (venc n)) := by
  intro H
  refine v_enter hC [] (fun _ _ => kn_none rfl) Try.func87 rfl ok87 (Nat.le_of_ble_eq_true rfl) fun hcl hbl => ?_
  simp
  refine v_loopX hC (fun (X : Nat × List Int) e T => ∃ w t, T = H ++ [.vec w (X.2.map bc) 1 true t] ∧ e 0 = .lit (.int .u64 X.1) ∧ e 3 = .own H.length w ∧ X.1 < 18446744073709551616 ∧ venc n = X.2 ++ venc X.1) (fun X => X.1) (n, []) ?_ ?_
  · refine G.nilT0 (s := 1) 3 hcl (Nat.le_refl _) (by omega) (by simp) ?_
    exact ⟨0, true, by simp, by simp, by simp, hn, by simp⟩
  · rintro ⟨m, done⟩ e T ⟨w, t, rfl, h0, h3, hm, hv⟩
    simp only at h0 hm hv
    have hlen : done.length + (venc m).length ≤ 10 := by have := venc_length n; rw [hv, List.length_append] at this; exact this
    have hpos := venc_pos m
    have hw1 : IntKind.u8.wrap ((m : Int) % 128) = ((m % 128 : Nat) : Int) := by
      simp [IntKind.wrap, IntKind.bits, IntKind.signed]; omega
    have hw3 : IntKind.u8.wrap ((m : Int).tmod 128) = ((m % 128 : Nat) : Int) := by
      rw [Int.tmod_eq_emod_of_nonneg (by omega)]; exact hw1
    have hw2 : IntKind.u64.wrap ((m : Int) / 128) = ((m / 128 : Nat) : Int) := by
      simp [IntKind.wrap, IntKind.bits, IntKind.signed]; omega
    simp [h0, h3, hw1, hw2, hw3]
    refine CondV.dec (fun hz => ?_) (fun hnz => ?_)
    · have hlt : m < 128 := by omega
      have hv2 : venc n = done ++ [(m : Int)] := by rw [hv, venc_lt m hlt]
      simp [h0, h3, hw1, hw2, hw3, Try.results87]
      refine ⟨by omega, ?_⟩
      have hmm : (m : Int) % 128 = m := by omega
      rw [hmm]
      first | (refine GV.ans hcl ?_; simp [hv2]; done) | (refine GV.ans0 ?_; simp [hv2]; done)
    · have hge : 128 ≤ m := by omega
      have hvm := venc_ge m hge hm
      have hw4 : IntKind.u8.wrap ((m : Int) % 128 + 128) = ((m % 128 + 128 : Nat) : Int) := by
        simp [IntKind.wrap, IntKind.bits, IntKind.signed]; omega
      simp [h0, h3, hw1, hw2, hw3, hw4]
      refine ⟨by omega, GH.refl ⟨(m / 128, done ++ [((m % 128 + 128 : Nat) : Int)]), ⟨w + 1, t, ?_, ?_, ?_, ?_, ?_⟩, ?_⟩⟩
      · simp
      · simp
      · simp
      · simp only; omega
      · simp only; rw [hv, hvm]; simp
      · simp only; omega
theorem getL {l : List Int} {k : Nat} (h : k < l.length) : l[k]? = some l[k] := List.getElem?_eq_getElem h
theorem v_Same1 {kk km : Bool} {l m : List Int} (hl : l.length < 2 ^ 62) : A 41 [BS kk l, BS km m] (bo (decide (l = m))) := by
  intro H
  refine v_enter hC [] (fun _ _ => kn_none rfl) Try.func41 rfl ok41 (Nat.le_of_ble_eq_true rfl) fun hcl hbl => ?_
  simp
  by_cases hlen : l.length = m.length
  · simp [hlen]
    refine v_loopX hC (fun (k : Nat) e T => T = H ∧ e 0 = BS kk l ∧ e 1 = BS km m ∧ e 5 = i6 k ∧ k ≤ l.length ∧ ∀ j (h : j < k) (h1 : j < l.length) (h2 : j < m.length), l[j] = m[j]) (fun k => l.length - k) 0 (G.refl ?_) ?_
    · simp
    · rintro k e T ⟨rfl, h0, h1, h5, hk, hall⟩
      simp [h0, h1, h5]
      refine CondV.dec (fun hlt => ?_) (fun hge => ?_)
      · have hlt : k < l.length := by omega
        simp [h0, h1, h5]
        refine v_draw (ord := [0, 1, 2, 3, 4, 5, 6, 7, 8]) (m := 8) (by decide +kernel) ?_
        simp [h0, h1, h5, getL hlt, getL (show k < m.length by omega)]
        refine CondV.on (fun hb => ?_) (fun hb => ?_)
        · have : l ≠ m := fun e => by subst e; simp at hb
          simp [Try.results41]
          first | (refine GV.ans hcl ?_; simp [this]; done) | (refine GV.ans0 ?_; simp [this]; done)
        · have hb : l[k] = m[k] := by simpa using hb
          simp [h0, h1, h5, w64 (n := (k : Int) + 1) (by omega)]
          refine GH.refl ⟨k + 1, ⟨rfl, ?_, ?_, ?_, hlt, fun j hj h1 h2 => ?_⟩, by omega⟩ <;> (try simp [h0, h1])
          by_cases hjk : j = k
          · subst hjk; exact hb
          · exact hall j (by omega) h1 h2
      · have : l = m := List.ext_getElem hlen fun j h1 h2 => hall j (by omega) h1 h2
        simp [Try.results41]
        first | (refine GV.ans hcl ?_; simp [this]; done) | (refine GV.ans0 ?_; simp [this]; done)
  · have : l ≠ m := fun e => hlen (by rw [e])
    have hlen : ¬ ((l.length : Int) = m.length) := by omega
    simp [hlen, Try.results41]
    first | (refine GV.ans hcl ?_; simp [this]; done) | (refine GV.ans0 ?_; simp [this]; done)
def u8 (x : Int) : UInt8 := UInt8.ofNat x.toNat
theorem bytesV_bc : ∀ l : List Int, bytesV (l.map bc) = some (l.map u8)
  | [] => rfl
  | x :: l => by
    have := bytesV_bc l
    simp only [List.map_cons, bc, bytesV, byteOfV] at this ⊢
    rw [bytesV_bc l]
    rfl
theorem u8_inj {x y : Int} (hx : 0 ≤ x ∧ x ≤ 255) (hy : 0 ≤ y ∧ y ≤ 255) (h : u8 x = u8 y) : x = y := by
  have := congrArg UInt8.toNat h
  simp [u8] at this
  omega
theorem map_u8 : ∀ {l m : List Int}, (∀ x ∈ l, 0 ≤ x ∧ x ≤ 255) → (∀ x ∈ m, 0 ≤ x ∧ x ≤ 255) → (l.map u8 == m.map u8) = decide (l = m)
  | [], [], _, _ => by simp
  | [], _ :: _, _, _ => by simp
  | _ :: _, [], _, _ => by simp
  | x :: l, y :: m, hl, hm => by
    have := map_u8 (l := l) (m := m) (fun z hz => hl z (by simp [hz])) (fun z hz => hm z (by simp [hz]))
    simp only [List.map_cons, List.cons_beq_cons, this]
    by_cases hxy : x = y
    · subst hxy; simp
    · have : u8 x ≠ u8 y := fun h => hxy (u8_inj (hl x (by simp)) (hm y (by simp)) h)
      simp [hxy, this]
theorem v_bEqual {kk km : Bool} {l m : List Int} (hl : l ≠ []) (hm : m ≠ []) (bl : ∀ x ∈ l, 0 ≤ x ∧ x ≤ 255) (bm : ∀ x ∈ m, 0 ≤ x ∧ x ≤ 255) : A 83 [BS kk l, BS km m] (bo (decide (l = m))) := by
  intro H
  have h1 := List.length_pos_iff.2 hl
  have h2 := List.length_pos_iff.2 hm
  refine v_enter hC [] (fun _ _ => kn_none rfl) Try.func83 rfl ok83 (Nat.le_of_ble_eq_true rfl) fun hcl hbl => ?_
  simp only [BS]
  simp [-bytesV, bytesV_bc, h1, h2, map_u8 bl bm, Try.results83]
  first | (refine GV.ans hcl ?_; simp []; done) | (refine GV.ans0 ?_; simp []; done)
end Go.Proofs.Ytenbclcfhjdcaaa.VM
end
section
set_option maxHeartbeats 8000000
set_option linter.unusedVariables false
set_option linter.unusedSimpArgs false
/- leaf: Encode; the document's Encode. -/
namespace Go.Proofs.Ytenbclcfhjdcaaa.VM
open Go Go.Proofs AM B
set_option maxRecDepth 100000
def encE (e : Ent) : List Int := vencs [e.s, e.n, e.p]
/-- A right node's body. -/
def encN (lf : Bool) (l : List Ent) : List Int := [if lf then 1 else 0, (l.length : Int)] ++ l.flatMap encE
/-- What Encode answers: nothing, of a node that isn't right. -/
def encR (lf : Bool) (l : List Ent) : List Int := if chk lf l = 0 then encN lf l else []
theorem encE_length (e : Ent) : (encE e).length ≤ 30 := vencs_length _
theorem flat_take (l : List Ent) (k : Nat) (h : k < l.length) : (l.take (k + 1)).flatMap encE = (l.take k).flatMap encE ++ encE (ent l k) := by
  rw [List.take_succ_eq_append_getElem h, List.flatMap_append, ent_eq l k h]; simp
theorem chk_zero {lf : Bool} {l : List Ent} (h : chk lf l = 0) : l.length ≤ 16 ∧ allR l = true ∧ rise l = true ∧ (lf = false → 0 < l.length) := by
  unfold chk at h
  split at h
  · omega
  · split at h
    · omega
    · split at h
      · omega
      · split at h
        · omega
        · rename_i h1 h2 h3 h4
          exact ⟨by omega, by simpa using h2, by simpa using h3, fun e => Nat.pos_of_ne_zero fun e2 => h4 ⟨e, e2⟩⟩
theorem flat_len (l : List Ent) : (l.flatMap encE).length ≤ 30 * l.length := by
  induction l with
  | nil => simp
  | cons a l ih =>
    have := encE_length a
    simp only [List.flatMap_cons, List.length_append, List.length_cons]
    omega
theorem ent_right {l : List Ent} {k : Nat} (h : allR l = true) (hk : k < l.length) : rightE (ent l k).s (ent l k).n (ent l k).p = true := by
  have h2 := List.all_eq_true.1 h _ (List.getElem_mem hk)
  rw [← ent_eq l k hk] at h2
  exact h2
theorem putB_ent {e : Ent} (h : rightE e.s e.n e.p = true) : putB [e.s, e.n, e.p] = encE e := by
  simp [rightE] at h
  have h3 : 0 ≤ e.p := by omega
  simp [putB, encE, h, h3]
theorem v_Encode {kk : Bool} {l : List Ent} (hl : l.length < 2 ^ 48) {lf : Bool} : A 40 [.agg [bo lf, ES kk l]] (.tup [BS true (encR lf l), i6 (chk lf l)]) := by
  intro H
  refine v_enter hC [17] (fun _ _ => kn_none rfl) Try.func40 rfl ok40 (Nat.le_of_ble_eq_true rfl) fun hcl hbl => ?_
  simp
  refine (v_Check (kk := kk) hl).call ?_
  simp
  refine CondV.on (fun hne => ?_) (fun he => ?_)
  · have h : chk lf l ≠ 0 := by simpa using hne
    have hr : encR lf l = [] := by unfold encR; rw [if_neg h]
    simp [Try.results40]
    first | (refine GV.ans hcl ?_; simp [hr]; done) | (refine GV.ans0 ?_; simp [hr]; done)
  · have h : chk lf l = 0 := by simpa using he
    have hr : encR lf l = encN lf l := by unfold encR; rw [if_pos h]
    rw [hr, h]
    simp
    obtain ⟨z1, z2, z3, z4⟩ := chk_zero h
    have hw : IntKind.u8.wrap (l.length : Int) = (l.length : Int) := by simp [IntKind.wrap, IntKind.bits, IntKind.signed]; omega
    refine CondV.on (fun h1 => ?_) (fun h1 => ?_)
    · simp
      refine v_loopX hC (fun (k : Nat) e T => ∃ w t, T = H ++ [.mem [.lit (.bool lf), .fsl kk 3 (l.map ec)] true, .vec w (([if lf then 1 else 0, (l.length : Int)] ++ (l.take k).flatMap encE).map bc) 1 true t] ∧ e 5 = .own (H.length + 1) w ∧ e 23 = .fsl kk 3 (l.map ec) ∧ e 24 = i6 l.length ∧ e 25 = i6 k ∧ k ≤ l.length) (fun k => l.length - k) 0 (G.refl ?_) ?_
      · exact ⟨0, true, by simp [hw, h1, bc], by simp, by simp, by simp, by simp, by simp⟩
      · rintro k e T ⟨w, t, rfl, h5, h23, h24, h25, hk⟩
        simp [h5, h23, h24, h25]
        refine CondV.dec (fun hlt => ?_) (fun hge => ?_)
        · have hlt : k < l.length := by omega
          have hb := flat_len (l.take k)
          rw [List.length_take] at hb
          have hR := ent_right z2 hlt
          simp [h5, h23, h24, h25, getE hlt]
          refine (v_Put (kk := true) (l := [(ent l k).s, (ent l k).n, (ent l k).p]) (by simp) (by simp [rightE] at hR ⊢; omega)).callU [IS true [(ent l k).s, (ent l k).n, (ent l k).p]] (by simp) ?_
          have hE := encE_length (ent l k)
          rw [putB_ent hR]
          simp [-List.length_flatMap, h5, h23, h24, h25, w64 (n := (k : Int) + 1) (by omega)]
          refine ⟨by omega, GH.of (G.clip (Z := [_, _]) (X := [_]) (Z' := [.mem [.lit (.bool lf), .fsl kk 3 (l.map ec)] true, .vec (w + 1) (([if lf then 1 else 0, (l.length : Int)] ++ (l.take (k + 1)).flatMap encE).map bc) 1 true t]) hcl (by simp) (by simp [flat_take l k hlt]; exact UpR.self (show PureR _ by simp)) ⟨k + 1, ⟨w + 1, t, ?_, ?_, ?_, ?_, ?_, hlt⟩, by omega⟩)⟩
          · rfl
          · simp
          · simp [h23]
          · simp [h24]
          · simp
        · have ht : l.take k = l := List.take_of_length_le (by omega)
          simp [h5, Try.results40]
          first | (refine GV.ans hcl ?_; simp [encN, ht, h1]; done) | (refine GV.ans0 ?_; simp [encN, ht, h1]; done)
    · simp
      refine v_loopX hC (fun (k : Nat) e T => ∃ w t, T = H ++ [.mem [.lit (.bool lf), .fsl kk 3 (l.map ec)] true, .vec w (([if lf then 1 else 0, (l.length : Int)] ++ (l.take k).flatMap encE).map bc) 1 true t] ∧ e 5 = .own (H.length + 1) w ∧ e 23 = .fsl kk 3 (l.map ec) ∧ e 24 = i6 l.length ∧ e 25 = i6 k ∧ k ≤ l.length) (fun k => l.length - k) 0 (G.refl ?_) ?_
      · exact ⟨0, true, by simp [hw, h1, bc], by simp, by simp, by simp, by simp, by simp⟩
      · rintro k e T ⟨w, t, rfl, h5, h23, h24, h25, hk⟩
        simp [h5, h23, h24, h25]
        refine CondV.dec (fun hlt => ?_) (fun hge => ?_)
        · have hlt : k < l.length := by omega
          have hb := flat_len (l.take k)
          rw [List.length_take] at hb
          have hR := ent_right z2 hlt
          simp [h5, h23, h24, h25, getE hlt]
          refine (v_Put (kk := true) (l := [(ent l k).s, (ent l k).n, (ent l k).p]) (by simp) (by simp [rightE] at hR ⊢; omega)).callU [IS true [(ent l k).s, (ent l k).n, (ent l k).p]] (by simp) ?_
          have hE := encE_length (ent l k)
          rw [putB_ent hR]
          simp [-List.length_flatMap, h5, h23, h24, h25, w64 (n := (k : Int) + 1) (by omega)]
          refine ⟨by omega, GH.of (G.clip (Z := [_, _]) (X := [_]) (Z' := [.mem [.lit (.bool lf), .fsl kk 3 (l.map ec)] true, .vec (w + 1) (([if lf then 1 else 0, (l.length : Int)] ++ (l.take (k + 1)).flatMap encE).map bc) 1 true t]) hcl (by simp) (by simp [flat_take l k hlt]; exact UpR.self (show PureR _ by simp)) ⟨k + 1, ⟨w + 1, t, ?_, ?_, ?_, ?_, ?_, hlt⟩, by omega⟩)⟩
          · rfl
          · simp
          · simp [h23]
          · simp [h24]
          · simp
        · have ht : l.take k = l := List.take_of_length_le (by omega)
          simp [h5, Try.results40]
          first | (refine GV.ans hcl ?_; simp [encN, ht, h1]; done) | (refine GV.ans0 ?_; simp [encN, ht, h1]; done)
theorem v_rE {kk : Bool} {l : List Ent} (hl : l.length ≤ 16) (hr : ∀ e ∈ l, rightE e.s e.n e.p = true) {lf : Bool} : A 43 [.agg [bo lf, ES kk l]] (BS true (encN lf l)) := by
  intro H
  refine v_enter hC [9] (fun _ _ => kn_none rfl) Try.func43 rfl ok43 (Nat.le_of_ble_eq_true rfl) fun hcl hbl => ?_
  simp
  have hw : IntKind.u8.wrap (l.length : Int) = (l.length : Int) := by simp [IntKind.wrap, IntKind.bits, IntKind.signed]; omega
  refine CondV.on (fun h1 => ?_) (fun h1 => ?_)
  · simp
    refine v_loopX hC (fun (k : Nat) e T => ∃ w t, T = H ++ [.mem [.lit (.bool lf), .fsl kk 3 (l.map ec)] true, .vec w (([if lf then 1 else 0, (l.length : Int)] ++ (l.take k).flatMap encE).map bc) 1 true t] ∧ e 1 = .ptr H.length 0 ∧ e 3 = .own (H.length + 1) w ∧ e 4 = i6 k ∧ k ≤ l.length) (fun k => l.length - k) 0 (G.refl ?_) ?_
    · exact ⟨0, true, by simp [hw, h1, bc], by simp, by simp, by simp, by simp⟩
    · rintro k e T ⟨w, t, rfl, h1', h3, h4, hk⟩
      simp [h1', h3, h4]
      refine CondV.dec (fun hlt => ?_) (fun hge => ?_)
      · have hlt : k < l.length := by omega
        have hb := flat_len (l.take k)
        rw [List.length_take] at hb
        have hR := hr _ (List.getElem_mem hlt)
        rw [← ent_eq l k hlt] at hR
        have u64n : ∀ x : Int, 0 ≤ x → x < 100000 → ∃ n : Nat, IntKind.u64.wrap x = (n : Int) ∧ x.toNat = n ∧ n < 100000 := fun x h1 h2 => ⟨x.toNat, by simp [IntKind.wrap, IntKind.bits, IntKind.signed]; omega, rfl, by omega⟩
        have hR2 := hR
        simp only [rightE, decide_eq_true_eq] at hR2
        obtain ⟨n1, q1, r1, s1⟩ := u64n (ent l k).s (by omega) (by omega)
        obtain ⟨n2, q2, r2, s2⟩ := u64n (ent l k).n (by omega) (by omega)
        obtain ⟨n3, q3, r3, s3⟩ := u64n (ent l k).p (by omega) (by omega)
        have b1 := venc_length n1
        have b2 := venc_length n2
        have b3 := venc_length n3
        have hE : encE (ent l k) = venc n1 ++ (venc n2 ++ venc n3) := by simp [encE, vencs, r1, r2, r3]
        simp [-List.length_flatMap, h1', h3, h4, getE hlt, q1]
        refine (v_rPut (n := n1) (by omega)).call ?_
        simp [-List.length_flatMap, h1', h3, h4, getE hlt, q2]
        refine ⟨by omega, ?_⟩
        refine (v_rPut (n := n2) (by omega)).call ?_
        simp [-List.length_flatMap, h1', h3, h4, getE hlt, q3]
        refine ⟨by omega, ?_⟩
        refine (v_rPut (n := n3) (by omega)).call ?_
        simp [-List.length_flatMap, h1', h3, h4, w64 (n := (k : Int) + 1) (by omega)]
        refine ⟨by omega, GH.refl ⟨k + 1, ⟨w + 1 + 1 + 1, t, ?_, ?_, ?_, ?_, hlt⟩, by omega⟩⟩
        · rw [flat_take l k hlt, hE]; simp
        · simp [h1']
        · simp
        · simp
      · have ht : l.take k = l := List.take_of_length_le (by omega)
        simp [h3, Try.results43]
        first | (refine GV.ans hcl ?_; simp [encN, ht, h1]; done) | (refine GV.ans0 ?_; simp [encN, ht, h1]; done)
  · simp
    refine v_loopX hC (fun (k : Nat) e T => ∃ w t, T = H ++ [.mem [.lit (.bool lf), .fsl kk 3 (l.map ec)] true, .vec w (([if lf then 1 else 0, (l.length : Int)] ++ (l.take k).flatMap encE).map bc) 1 true t] ∧ e 1 = .ptr H.length 0 ∧ e 3 = .own (H.length + 1) w ∧ e 4 = i6 k ∧ k ≤ l.length) (fun k => l.length - k) 0 (G.refl ?_) ?_
    · exact ⟨0, true, by simp [hw, h1, bc], by simp, by simp, by simp, by simp⟩
    · rintro k e T ⟨w, t, rfl, h1', h3, h4, hk⟩
      simp [h1', h3, h4]
      refine CondV.dec (fun hlt => ?_) (fun hge => ?_)
      · have hlt : k < l.length := by omega
        have hb := flat_len (l.take k)
        rw [List.length_take] at hb
        have hR := hr _ (List.getElem_mem hlt)
        rw [← ent_eq l k hlt] at hR
        have u64n : ∀ x : Int, 0 ≤ x → x < 100000 → ∃ n : Nat, IntKind.u64.wrap x = (n : Int) ∧ x.toNat = n ∧ n < 100000 := fun x h1 h2 => ⟨x.toNat, by simp [IntKind.wrap, IntKind.bits, IntKind.signed]; omega, rfl, by omega⟩
        have hR2 := hR
        simp only [rightE, decide_eq_true_eq] at hR2
        obtain ⟨n1, q1, r1, s1⟩ := u64n (ent l k).s (by omega) (by omega)
        obtain ⟨n2, q2, r2, s2⟩ := u64n (ent l k).n (by omega) (by omega)
        obtain ⟨n3, q3, r3, s3⟩ := u64n (ent l k).p (by omega) (by omega)
        have b1 := venc_length n1
        have b2 := venc_length n2
        have b3 := venc_length n3
        have hE : encE (ent l k) = venc n1 ++ (venc n2 ++ venc n3) := by simp [encE, vencs, r1, r2, r3]
        simp [-List.length_flatMap, h1', h3, h4, getE hlt, q1]
        refine (v_rPut (n := n1) (by omega)).call ?_
        simp [-List.length_flatMap, h1', h3, h4, getE hlt, q2]
        refine ⟨by omega, ?_⟩
        refine (v_rPut (n := n2) (by omega)).call ?_
        simp [-List.length_flatMap, h1', h3, h4, getE hlt, q3]
        refine ⟨by omega, ?_⟩
        refine (v_rPut (n := n3) (by omega)).call ?_
        simp [-List.length_flatMap, h1', h3, h4, w64 (n := (k : Int) + 1) (by omega)]
        refine ⟨by omega, GH.refl ⟨k + 1, ⟨w + 1 + 1 + 1, t, ?_, ?_, ?_, ?_, hlt⟩, by omega⟩⟩
        · rw [flat_take l k hlt, hE]; simp
        · simp [h1']
        · simp
        · simp
      · have ht : l.take k = l := List.take_of_length_le (by omega)
        simp [h3, Try.results43]
        first | (refine GV.ans hcl ?_; simp [encN, ht, h1]; done) | (refine GV.ans0 ?_; simp [encN, ht, h1]; done)
end Go.Proofs.Ytenbclcfhjdcaaa.VM
end
section
set_option maxHeartbeats 8000000
set_option linter.unusedVariables false
set_option linter.unusedSimpArgs false
/- varint: the reader. -/
namespace Go.Proofs.Ytenbclcfhjdcaaa.VM
open Go Go.Proofs AM B
set_option maxRecDepth 100000
theorem v_bClone {kk : Bool} {l : List Int} (hl : l.length ≤ 100000) : A 100 [BS kk l] (BS true l) := by
  intro H
  refine v_enter hC [] (fun _ _ => kn_none rfl) Try.func100 rfl ok100 (Nat.le_of_ble_eq_true rfl) fun hcl hbl => ?_
  simp [Try.results100]
  refine ⟨⟨by omega, ?_⟩, fun h => ?_⟩
  · first | (refine GV.ans hcl ?_; simp []; done) | (refine GV.ans0 ?_; simp []; done)
  · subst h
    have := GV.ans (H := H) (X := []) (v := BS true []) (x := .lit (.slice none 0 0)) hcl (by simp)
    rw [List.append_nil] at this
    exact this
theorem bounds_hi {n L : Nat} (h : n ≤ L) : bounds L L none (some (n : Int)) none = some (0, n, L) := by
  simp [bounds]; omega
theorem bounds_lo {n L : Nat} (h : n ≤ L) : bounds L L (some (n : Int)) none none = some (n, L, L) := by
  simp [bounds]; omega
theorem v_take {T : Hp} {g : Nat} {kk : Bool} {l : List Int} {er : Int} {n : Nat} (hg : T[g]? = some (.mem [BS kk l, i6 er] true)) (hl : l.length ≤ 100000) (hn : n ≤ l.length) :
    VC Try.prog prims 114 [.ptr g 0, i6 n] T fun u U => u = BS true (l.take n) ∧ U = T.set g (.mem [BS false (l.drop n), i6 er] true) := by
  refine v_enter hC [] (fun _ _ => kn_none rfl) Try.func114 rfl ok114 (Nat.le_of_ble_eq_true rfl) fun hcl hbl => ?_
  simp [hg, bounds_hi hn]
  refine (v_bClone (kk := kk) (l := l.take n) (by rw [List.length_take]; omega)).callU [BS kk (l.take n)] (by simp) ?_
  simp [hg, bounds_lo hn, Try.results114]
  exact GV.refl ⟨by simp, by simp⟩
theorem v_left {T : Hp} {g : Nat} {kk : Bool} {l : List Int} {er : Int} (hg : T[g]? = some (.mem [BS kk l, i6 er] true)) (hl : l.length ≤ 100000) :
    VC Try.prog prims 115 [.ptr g 0] T fun u U => u = BS true l ∧ U = T := by
  refine v_enter hC [] (fun _ _ => kn_none rfl) Try.func115 rfl ok115 (Nat.le_of_ble_eq_true rfl) fun hcl hbl => ?_
  simp [hg]
  refine (v_bClone (kk := kk) (l := l) hl).callU [BS kk l] (by simp) ?_
  simp [Try.results115]
  exact GV.refl ⟨by simp, rfl⟩
theorem v_end {T : Hp} {g : Nat} {kk : Bool} {l : List Int} {er : Int} (hg : T[g]? = some (.mem [BS kk l, i6 er] true)) (hl : l.length ≤ 100000) :
    VC Try.prog prims 105 [.ptr g 0] T fun u U => u = .tup [BS true (if er = 0 then l else []), i6 er] ∧ U = T := by
  refine v_enter hC [] (fun _ _ => kn_none rfl) Try.func105 rfl ok105 (Nat.le_of_ble_eq_true rfl) fun hcl hbl => ?_
  simp [hg]
  refine CondV.on (fun h => ?_) (fun h => ?_)
  · have h : er ≠ 0 := by simpa using h
    simp
    refine v_draw (ord := [0, 1, 2, 3, 4, 5]) (m := 0) (by decide +kernel) ?_
    simp [hg, Try.results105]
    have := GV.ans (H := T) (X := []) (v := .tup [BS true (if er = 0 then l else []), i6 er]) (x := .tup [.lit (.slice none 0 0), i6 er]) hcl (by simp [h])
    rw [List.append_nil] at this
    exact this
  · have h : er = 0 := by simpa using h
    subst h
    simp [hg]
    refine CALLv.at (v_left hg hl) fun u T' hu => ?_
    obtain ⟨e1, e2⟩ := hu
    subst e1; subst e2
    simp [Try.results105]
    exact GV.refl ⟨by simp, rfl⟩
end Go.Proofs.Ytenbclcfhjdcaaa.VM
end
section
set_option maxHeartbeats 8000000
set_option linter.unusedVariables false
set_option linter.unusedSimpArgs false
/- varint: number, Get. -/
namespace Go.Proofs.Ytenbclcfhjdcaaa.VM
open Go Go.Proofs AM B
set_option maxRecDepth 100000
/-- A number's bytes read: the number, how many bytes, what is wrong. -/
def numF (gr : Nat) : Nat → Nat → List Int → Nat × Nat × Int
  | _, _, [] => (0, 0, 4)
  | i, n, c :: cs =>
    if 9 < i ∨ 18446744073709551615 / 2 ^ (7 * i) < (c % 128).toNat ∨ gr < n + (c % 128).toNat * 2 ^ (7 * i) then (0, 0, 3)
    else if c = 0 ∧ 0 < i then (0, 0, 3)
    else if c < 128 then (n + (c % 128).toNat * 2 ^ (7 * i), i + 1, 0)
    else numF gr (i + 1) (n + (c % 128).toNat * 2 ^ (7 * i)) cs
theorem bits_andNot {c : Int} (h : 0 ≤ c ∧ c ≤ 255) : IntKind.u64.wrap (bits BinOp.andNot IntKind.u8 c 128) = ((c % 128).toNat : Int) := by
  have : ∀ r : Fin 256, IntKind.u64.wrap (bits BinOp.andNot IntKind.u8 ((r : Nat) : Int) 128) = ((((r : Nat) : Int) % 128).toNat : Int) := by decide +kernel
  have := this ⟨c.toNat, by omega⟩
  rw [show ((c.toNat : Nat) : Int) = c by omega] at this
  exact this
theorem bits_or64 {k n p : Nat} (hk : k ≤ 9) (hn : n < 2 ^ (7 * k)) (hp : n + p * 2 ^ (7 * k) < 18446744073709551616) : bits BinOp.or IntKind.u64 (n : Int) ((p * 2 ^ (7 * k) : Nat) : Int) = ((n + p * 2 ^ (7 * k) : Nat) : Int) := by
  have e : n ||| p * 2 ^ (7 * k) = n + p * 2 ^ (7 * k) := by
    rw [Nat.mul_comm, Nat.or_comm, ← Nat.two_pow_add_eq_or_of_lt hn]; omega
  have a1 : BitVec.ofInt 64 (n : Int) = BitVec.ofNat 64 n := by simp
  have a2 : BitVec.ofInt 64 ((p * 2 ^ (7 * k) : Nat) : Int) = BitVec.ofNat 64 (p * 2 ^ (7 * k)) := by rw [BitVec.ofInt_natCast]
  show IntKind.u64.wrap (((BitVec.ofInt 64 (n : Int) ||| BitVec.ofInt 64 ((p * 2 ^ (7 * k) : Nat) : Int)).toNat : Nat) : Int) = _
  rw [a1, a2, BitVec.toNat_or, BitVec.toNat_ofNat, BitVec.toNat_ofNat]
  rw [Nat.mod_eq_of_lt (by omega), Nat.mod_eq_of_lt (by omega), e]
  generalize p * 2 ^ (7 * k) = W at *
  simp only [IntKind.wrap, IntKind.bits, IntKind.signed]
  simp
  omega
theorem small {k p n : Nat} (hk : k ≤ 9) (hp : p ≤ 18446744073709551615 / 2 ^ (7 * k)) (hn : n < 2 ^ (7 * k)) : p * 2 ^ (7 * k) < 18446744073709551616 ∧ n + p * 2 ^ (7 * k) < 18446744073709551616 := by
  have h : k = 0 ∨ k = 1 ∨ k = 2 ∨ k = 3 ∨ k = 4 ∨ k = 5 ∨ k = 6 ∨ k = 7 ∨ k = 8 ∨ k = 9 := by omega
  rcases h with rfl | rfl | rfl | rfl | rfl | rfl | rfl | rfl | rfl | rfl <;> simp only [Nat.reduceMul, Nat.reducePow] at * <;> omega
theorem next128 {k p n : Nat} (hp : p < 128) (hn : n < 2 ^ (7 * k)) : n + p * 2 ^ (7 * k) < 2 ^ (7 * (k + 1)) := by
  rw [Nat.mul_add, Nat.pow_add]
  have : p * 2 ^ (7 * k) ≤ 127 * 2 ^ (7 * k) := Nat.mul_le_mul_right _ (by omega)
  generalize 2 ^ (7 * k) = D at *
  simp only [Nat.mul_one, Nat.reducePow]
  omega
theorem v_number {T : Hp} {g : Nat} {kk : Bool} {l : List Int} {gr : Nat} (hg : T[g]? = some (.mem [BS kk l, i6 0] true)) (hl : l.length ≤ 100000) (hb : ∀ x ∈ l, 0 ≤ x ∧ x ≤ 255) (hgr : gr < 18446744073709551616) :
    VC Try.prog prims 104 [.ptr g 0, .lit (.int .u64 gr)] T fun u U => u = .lit (.int .u64 (numF gr 0 0 l).1) ∧ ∃ k', U = T.set g (.mem [BS k' (l.drop (numF gr 0 0 l).2.1), i6 (numF gr 0 0 l).2.2] true) := by
  refine v_enter hC [] (fun _ _ => kn_none rfl) Try.func104 rfl ok104 (Nat.le_of_ble_eq_true rfl) fun hcl hbl => ?_
  simp [hg]
  refine v_loopX hC (fun (X : Nat × Nat) e U => U = T ∧ e 0 = .ptr g 0 ∧ e 1 = .lit (.int .u64 gr) ∧ e 5 = .lit (.int .u64 X.2) ∧ e 19 = BS kk l ∧ e 20 = i6 l.length ∧ e 21 = i6 X.1 ∧ e 4 = .lit (.int .u64 0) ∧ X.1 ≤ l.length ∧ X.2 < 2 ^ (7 * X.1) ∧ X.2 ≤ gr ∧ numF gr 0 0 l = numF gr X.1 X.2 (l.drop X.1)) (fun X => l.length - X.1) (0, 0) (G.refl ?_) ?_
  · simp
  · rintro ⟨k, n⟩ e U ⟨rfl, h0, h1, h5, h19, h20, h21, h4, hk, hn, hng, hv⟩
    simp only at h5 h21 hk hn hng hv
    simp [h20, h21]
    refine CondV.dec (fun hlt => ?_) (fun hge => ?_)
    · have hlt : k < l.length := by omega
      have hc := hb l[k] (List.getElem_mem hlt)
      rw [List.drop_eq_getElem_cons hlt] at hv
      generalize hcv : l[k] = c at hv hc
      simp [h0, h1, h5, h19, h20, h21, getL hlt, hcv, w64 (n := 7 * (k : Int)) (by omega)]
      have hset : ∀ y, (U.set g y)[g]? = some y := fun y => List.getElem?_set_self (get_lt hg)
      have nn : ¬ 7 * (k : Int) < 0 := by omega
      by_cases h9 : 9 < k
      · have h63 : 63 < 7 * (k : Int) := by omega
        have hv : numF gr 0 0 l = (0, 0, 3) := by rw [hv, numF, if_pos (Or.inl h9)]
        simp [h0, h1, h5, h19, h20, h21, getL hlt, hcv, hg, hset, h63, hv, h4, Try.results104]
        exact GV.refl ⟨by simp [hv], kk, by simp [hv]⟩
      · have h63 : ¬ 63 < 7 * (k : Int) := by omega
        have hmn : min (7 * (k : Int)).toNat IntKind.u64.bits = 7 * k := by simp [IntKind.bits]; omega
        have hfd : Int.fdiv 18446744073709551615 (2 ^ min (7 * (k : Int)).toNat IntKind.u64.bits) = ((18446744073709551615 / 2 ^ (7 * k) : Nat) : Int) := by
          rw [hmn, Int.fdiv_eq_ediv_of_nonneg _ (by exact Int.pow_nonneg (by decide))]
          simp
        obtain ⟨p, hp⟩ : ∃ p : Nat, (c % 128).toNat = p := ⟨_, rfl⟩
        have hp1 := bits_andNot hc
        rw [hp] at hp1
        have hpl : p < 128 := by omega
        have hk9 : k ≤ 9 := by omega
        simp only [numF, hp] at hv
        have bad : 9 < k ∨ 18446744073709551615 / 2 ^ (7 * k) < p ∨ gr < n + p * 2 ^ (7 * k) → numF gr 0 0 l = (0, 0, 3) := fun h => by rw [hv, if_pos h]
        have hsh : ∀ q : Nat, q * 2 ^ (7 * k) < 18446744073709551616 → IntKind.u64.wrap ((q : Int) * 2 ^ min (7 * (k : Int)).toNat IntKind.u64.bits) = ((q * 2 ^ (7 * k) : Nat) : Int) := fun q hq => by
          rw [hmn, show ((q : Int) * 2 ^ (7 * k)) = ((q * 2 ^ (7 * k) : Nat) : Int) by simp]
          generalize q * 2 ^ (7 * k) = W at *
          simp [IntKind.wrap, IntKind.bits, IntKind.signed]
          omega
        have hsm := small (k := k) (p := p) (n := n) hk9
        have hor := bits_or64 (k := k) (p := p) (n := n) hk9 hn
        have hnx := next128 (k := k) (p := p) (n := n) hpl hn
        have hsp := hsh p
        generalize hW : p * 2 ^ (7 * k) = W at *
        generalize hM : 18446744073709551615 / 2 ^ (7 * k) = M at *
        clear hsh
        by_cases hA : M < p
        · have hA' : (M : Int) < (p : Int) := by omega
          have hv := bad (Or.inr (Or.inl hA))
          simp [h0, h1, h5, h19, h20, h21, getL hlt, hcv, hg, hset, h63, nn, hfd, hp1, hA, h4, Try.results104]
          exact GV.refl ⟨by simp [hv], kk, by simp [hv]⟩
        · have hA' : ¬ (M : Int) < (p : Int) := by omega
          obtain ⟨u1, u2⟩ := hsm (by omega) hn
          have hor := hor u2
          have hsp := hsp u1
          simp [h0, h1, h5, h19, h20, h21, getL hlt, hcv, hg, hset, h63, nn, hfd, hp1, hA, hsp, hor]
          refine CondV.dec (fun hG => ?_) (fun hG => ?_)
          · have hv := bad (Or.inr (Or.inr (by omega)))
            simp [h0, h1, h5, h19, h20, h21, getL hlt, hcv, hg, hset, hv, h4, Try.results104]
            exact GV.refl ⟨by simp [hv], kk, by simp [hv]⟩
          · rw [if_neg (by omega)] at hv
            simp [h0, h1, h5, h19, h20, h21, getL hlt, hcv, hg, hset, hsp, hor]
            by_cases hz : c = 0 ∧ 0 < k
            · obtain ⟨c0, k0⟩ := hz
              rw [if_pos ⟨c0, k0⟩] at hv
              simp [h0, h1, h5, h19, h20, h21, getL hlt, hcv, hg, hset, c0, k0, hv, h4, Try.results104]
              exact GV.refl ⟨by simp [hv], kk, by simp [hv]⟩
            · rw [if_neg hz] at hv
              have nk : c = 0 → ¬ 0 < k := fun h1 h2 => hz ⟨h1, h2⟩
              by_cases c0 : c = 0
              · have nk := nk c0
                rw [if_pos (by omega)] at hv
                have hp0 := hp1
                rw [c0] at hp0
                simp [h0, h1, h5, h19, h20, h21, getL hlt, hcv, hg, hset, c0, nk, nn, hp0, hsp, hor]
                simp [h0, h1, h5, h19, h20, h21, hg, nn, hp1, hsp, hor, w64 (n := (k : Int) + 1) (by omega)]
                refine CALLv.at (v_take (n := k + 1) hg hl (by omega)) fun u T' hu => ?_
                obtain ⟨e1, e2⟩ := hu
                subst e1; subst e2
                simp [nn, hp1, hsp, hor, h5, Try.results104]
                exact GV.refl ⟨by simp [hv], false, by simp [hv]⟩
              · simp [h0, h1, h5, h19, h20, h21, getL hlt, hcv, hg, hset, c0, nn, hp1, hsp, hor]
                refine CondV.dec (fun hs => ?_) (fun hs => ?_)
                rotate_left
                · rw [if_neg hs] at hv
                  simp [h0, h1, h19, h20, h21, w64 (n := (k : Int) + 1) (by omega)]
                  refine GH.refl ⟨(k + 1, n + W), ⟨rfl, ?_, ?_, ?_, ?_, ?_, ?_, ?_, hlt, hnx, by omega, hv⟩, by omega⟩ <;> simp [h0, h1, h4, h19, h20]
                rw [if_pos hs] at hv
                simp [h0, h1, h5, h19, h20, h21, hg, nn, hp1, hsp, hor, w64 (n := (k : Int) + 1) (by omega)]
                refine CALLv.at (v_take (n := k + 1) hg hl (by omega)) fun u T' hu => ?_
                obtain ⟨e1, e2⟩ := hu
                subst e1; subst e2
                simp [nn, hp1, hsp, hor, h5, Try.results104]
                exact GV.refl ⟨by simp [hv], false, by simp [hv]⟩
    · rw [List.drop_of_length_le (by omega)] at hv
      simp [h0, hg, h4, Try.results104]
      exact GV.refl ⟨by simp [hv, numF], kk, by simp [hv, numF]⟩
/-- What Get answers. -/
def getN (l : List Int) : Nat × Nat × Int := numF 9223372036854775807 0 0 l
theorem numF_le {gr : Nat} : ∀ (l : List Int) (i n : Nat), (numF gr i n l).1 ≤ gr ∧ (numF gr i n l).2.1 ≤ i + l.length
  | [], i, n => by simp [numF]
  | c :: cs, i, n => by
    unfold numF
    split
    · simp
    · split
      · simp
      · split
        · rename_i h1 h2 h3
          refine ⟨?_, ?_⟩
          · simp only; omega
          · simp only [List.length_cons]; omega
        · have := numF_le (gr := gr) cs (i + 1) (n + (c % 128).toNat * 2 ^ (7 * i))
          refine ⟨this.1, ?_⟩
          have := this.2
          simp only [List.length_cons]; omega
theorem v_Get {kk : Bool} {l : List Int} (hl : l.length ≤ 100000) (hb : ∀ x ∈ l, 0 ≤ x ∧ x ≤ 255) : A 82 [BS kk l] (.tup [i6 (getN l).1, BS true (if (getN l).2.2 = 0 then l.drop (getN l).2.1 else []), i6 (getN l).2.2]) := by
  intro H
  refine v_enter hC [] (fun _ _ => kn_none rfl) Try.func82 rfl ok82 (Nat.le_of_ble_eq_true rfl) fun hcl hbl => ?_
  simp
  refine CALLv.at (v_number (kk := kk) (l := l) (gr := 9223372036854775807) (List.getElem?_concat_length ..) hl hb (by omega)) fun u T' hu => ?_
  obtain ⟨e1, k', e2⟩ := hu
  subst e1; subst e2
  have hgl := numF_le (gr := 9223372036854775807) l 0 0
  rw [show numF 9223372036854775807 0 0 l = getN l from rfl] at hgl ⊢
  generalize getN l = G at hgl ⊢
  simp
  rw [← List.map_drop]
  refine CALLv.at (v_end (kk := k') (l := l.drop G.2.1) (er := G.2.2) (List.getElem?_concat_length ..) (by rw [List.length_drop]; omega)) fun u T' hu => ?_
  obtain ⟨e1, e2⟩ := hu
  subst e1; subst e2
  have hw : IntKind.i64.wrap (G.1 : Int) = (G.1 : Int) := w64 (by omega)
  simp [hw, Try.results82]
  first | (refine GV.ans hcl ?_; simp []; done) | (refine GV.ans0 ?_; simp []; done)
end Go.Proofs.Ytenbclcfhjdcaaa.VM
end
section
set_option maxHeartbeats 8000000
set_option linter.unusedVariables false
set_option linter.unusedSimpArgs false
/- leaf: Decode. -/
namespace Go.Proofs.Ytenbclcfhjdcaaa.VM
open Go Go.Proofs AM B
set_option maxRecDepth 100000
def get1 (r : List Int) : Option (Int × List Int) := if (getN r).2.2 = 0 then some (((getN r).1 : Int), r.drop (getN r).2.1) else none
def getEnt (r : List Int) : Option (Ent × List Int) := (get1 r).bind fun a => (get1 a.2).bind fun b => (get1 b.2).map fun c => (⟨a.1, b.1, c.1⟩, c.2)
/-- The entries read: at most so many. -/
def decL : Nat → List Int → List Ent
  | 0, _ => []
  | m + 1, r => match getEnt r with
    | none => []
    | some (e, r') => e :: decL m r'
theorem v_Decode0 {kk : Bool} {l : List Int} (hl : l.length < 2) : A 38 [BS kk l] (.tup [.agg [bo false, ES true []], i6 3]) := by
  intro H
  refine v_enter hC [] (fun _ _ => kn_none rfl) Try.func38 rfl ok38 (Nat.le_of_ble_eq_true rfl) fun hcl hbl => ?_
  have hl' : (l.length : Int) < 2 := by omega
  simp [hl', Try.results38]
  first | (refine GV.ans hcl ?_; simp []; done) | (refine GV.ans0 ?_; simp []; done)
theorem decL_none {q : List Int} {n : Nat} (h : getEnt q = none) : decL n q = [] := by
  cases n with
  | zero => rfl
  | succ n => simp [decL, h]
theorem decL_some {q q' : List Int} {e : Ent} {n : Nat} (h : getEnt q = some (e, q')) (hn : 0 < n) : decL n q = e :: decL (n - 1) q' := by
  cases n with
  | zero => omega
  | succ n => simp [decL, h]
theorem get1_no {q : List Int} (h : (getN q).2.2 ≠ 0) : get1 q = none := by unfold get1; rw [if_neg h]
theorem get1_ok {q : List Int} (h : (getN q).2.2 = 0) : get1 q = some (((getN q).1 : Int), q.drop (getN q).2.1) := by unfold get1; rw [if_pos h]
theorem drop_byte {q : List Int} (h : ∀ x ∈ q, 0 ≤ x ∧ x ≤ 255) (n : Nat) : ∀ x ∈ q.drop n, 0 ≤ x ∧ x ≤ 255 := fun x hx => h x (List.mem_of_mem_drop hx)
theorem drop_le {q : List Int} (h : q.length ≤ 100000) (n : Nat) : (q.drop n).length ≤ 100000 := by rw [List.length_drop]; omega
/-- What Decode answers. -/
def decV (l : List Int) (lf : Bool) (D : List Ent) : V := if chk lf D = 0 ∧ encN lf D = l then .tup [.agg [bo lf, ES true D], i6 0] else .tup [.agg [bo false, ES true []], i6 3]
theorem getN_len (r : List Int) : (getN r).1 ≤ 9223372036854775807 := (numF_le r 0 0).1
theorem encN_byte {lf : Bool} {l : List Ent} (hl : l.length ≤ 255) : ∀ x ∈ encN lf l, 0 ≤ x ∧ x ≤ 255 := by
  intro x hx
  unfold encN at hx
  rcases List.mem_append.1 hx with hx | hx
  · simp at hx
    rcases hx with rfl | rfl
    · cases lf <;> simp
    · omega
  · obtain ⟨e, _, he⟩ := List.mem_flatMap.1 hx
    obtain ⟨n, _, hn⟩ := List.mem_flatMap.1 he
    exact venc_byte _ x hn
theorem v_Decode {kk : Bool} {c m : Int} {r : List Int} (hl : r.length ≤ 100000) (hc : 0 ≤ c ∧ c ≤ 255) (hm : 0 ≤ m ∧ m ≤ 255) (hb : ∀ x ∈ r, 0 ≤ x ∧ x ≤ 255) : A 38 [BS kk (c :: m :: r)] (if 1 < c then .tup [.agg [bo false, ES true []], i6 3] else decV (c :: m :: r) (decide (c = 1)) (decL m.toNat r)) := by
  intro H
  refine v_enter hC [] (fun _ _ => kn_none rfl) Try.func38 rfl ok38 (Nat.le_of_ble_eq_true rfl) fun hcl hbl => ?_
  have hl' : ¬ ((r.length : Int) + 1 + 1 < 2) := by omega
  simp [hl']
  refine CondV.dec (fun h2 => ?_) (fun h2 => ?_)
  · simp [Try.results38]
    first | (refine GV.ans hcl ?_; simp [h2]; done) | (refine GV.ans0 ?_; simp [h2]; done)
  · have hbd : bounds (r.length + 1 + 1) (r.length + 1 + 1) (some 2) none none = some (2, r.length + 1 + 1, r.length + 1 + 1) := bounds_lo (n := 2) (by omega)
    have hw1 : IntKind.i64.wrap 1 = 1 := rfl
    have hw2 : IntKind.i64.wrap 2 = 2 := rfl
    have hw3 : IntKind.i64.wrap 3 = 3 := rfl
    have hwm : IntKind.i64.wrap m = m := w64 (by omega)
    rw [if_neg h2]
    simp [hbd, hwm]
    have hbB : ∀ x ∈ c :: m :: r, 0 ≤ x ∧ x ≤ 255 := fun x hx => by
      rcases List.mem_cons.1 hx with rfl | hx
      · exact hc
      · rcases List.mem_cons.1 hx with rfl | hx
        · exact hm
        · exact hb x hx
    refine v_loopX hC (fun (X : Nat × List Ent × List Int) e T => ∃ w t k', T = H ++ [.mem [bo false, .lit (.slice none 0 0)] true, .mem [bo (decide (c = 1)), .own (H.length + 2) w] true, .vec w (X.2.1.map ec) 3 true t] ∧ e 0 = BS kk (c :: m :: r) ∧ e 2 = .ptr H.length 0 ∧ e 4 = .ptr (H.length + 1) 0 ∧ e 5 = BS k' X.2.2 ∧ e 33 = i6 m ∧ e 34 = i6 X.1 ∧ X.1 ≤ m.toNat ∧ X.2.1.length = X.1 ∧ (∀ x ∈ X.2.2, 0 ≤ x ∧ x ≤ 255) ∧ X.2.2.length ≤ 100000 ∧ decL m.toNat r = X.2.1 ++ decL (m.toNat - X.1) X.2.2) (fun X => m.toNat - X.1) (0, [], r) ?_ ?_
    · refine G.nils (Z' := [.mem [bo false, .lit (.slice none 0 0)] true, .mem [bo (decide (c = 1)), .own (H.length + 2) 0] true]) [3] hcl (by simp) (by simp) (by simp) ?_
      exact ⟨0, true, false, by simp, by simp, by simp, by simp, by simp, by simp, by simp, by simp, by simp, hb, hl, by simp⟩
    · rintro ⟨k, acc, q⟩ e T ⟨w, t, k', rfl, h0, h2', h4, h5, h33, h34, hk, hal, hq, hql, hD⟩
      simp only at h5 h34 hk hal hq hql hD
      simp [h33, h34]
      refine CondV.dec (fun hlt => ?_) (fun hge => ?_)
      · simp [h0, h2', h4, h5]
        refine v_once hC ?_
        simp [h0, h2', h4, h5]
        refine (v_Get (kk := k') (l := q) hql hq).callU [BS k' q] (by simp) ?_
        simp [h0, h2', h4, hw1, hw2, hw3]
        refine CondV.on (fun hz => ?_) (fun hz => ?_)
        · have hz : (getN q).2.2 ≠ 0 := by simpa using hz
          have hD2 : decL m.toNat r = acc := by rw [hD, decL_none (by simp [getEnt, get1_no hz]), List.append_nil]
          rw [hD2]
          simp [hz, h0, h2', h4, hw1, hw2, hw3]
          refine (v_Encode (kk := true) (l := acc) (lf := decide (c = 1)) (by omega)).callF [.agg [bo (decide (c = 1)), ES true acc]] (Frz.vec (g := H.length + 2) (w := w) (s := 3) (rows := acc.map ec) (rw := true) (t := t) (by simp) (by simp)) (by simp) ?_
          simp [h0, h2', h4]
          by_cases hch : chk (decide (c = 1)) acc = 0
          · simp [hch, h0, h2', h4]
            rw [show encR (decide (c = 1)) acc = encN (decide (c = 1)) acc by unfold encR; rw [if_pos hch]]
            refine (v_bEqual (kk := true) (km := kk) (l := encN (decide (c = 1)) acc) (m := c :: m :: r) (by simp [encN]) (by simp) (encN_byte (by omega)) hbB).callU [BS true (encN (decide (c = 1)) acc), BS kk (c :: m :: r)] (by simp) ?_
            by_cases heq : encN (decide (c = 1)) acc = c :: m :: r
            · simp [heq, hch, h0, h2', h4, Try.results38]
              first | (refine GV.ans hcl ?_; simp [decV, hch, heq]; done) | (refine GV.ans0 ?_; simp [decV, hch, heq]; done)
            · simp [heq, hch, h0, h2', h4, Try.results38]
              first | (refine GV.ans hcl ?_; simp [decV, hch, heq]; done) | (refine GV.ans0 ?_; simp [decV, hch, heq]; done)
          · simp [hch, h0, h2', h4, Try.results38]
            first | (refine GV.ans hcl ?_; simp [decV, hch]; done) | (refine GV.ans0 ?_; simp [decV, hch]; done)
        have hz : (getN q).2.2 = 0 := by simpa using hz
        have hz1 := get1_ok hz
        have hq2 := drop_byte hq (getN q).2.1
        have hl2 := drop_le hql (getN q).2.1
        simp [hz, h0, h2', h4, hw1, hw2, hw3]
        refine v_once hC ?_
        simp [h0, h2', h4, hw1, hw2, hw3]
        rw [← List.map_drop]
        generalize q.drop (getN q).2.1 = q2 at hz1 hq2 hl2 ⊢
        refine (v_Get (kk := true) (l := q2) hl2 hq2).callU [BS true q2] (by simp) ?_
        simp [h0, h2', h4, hw1, hw2, hw3]
        refine CondV.on (fun hz => ?_) (fun hz => ?_)
        · have hz : (getN q2).2.2 ≠ 0 := by simpa using hz
          have hD2 : decL m.toNat r = acc := by rw [hD, decL_none (by simp [getEnt, hz1, get1_no hz]), List.append_nil]
          rw [hD2]
          simp [hz, h0, h2', h4, hw1, hw2, hw3]
          refine (v_Encode (kk := true) (l := acc) (lf := decide (c = 1)) (by omega)).callF [.agg [bo (decide (c = 1)), ES true acc]] (Frz.vec (g := H.length + 2) (w := w) (s := 3) (rows := acc.map ec) (rw := true) (t := t) (by simp) (by simp)) (by simp) ?_
          simp [h0, h2', h4]
          by_cases hch : chk (decide (c = 1)) acc = 0
          · simp [hch, h0, h2', h4]
            rw [show encR (decide (c = 1)) acc = encN (decide (c = 1)) acc by unfold encR; rw [if_pos hch]]
            refine (v_bEqual (kk := true) (km := kk) (l := encN (decide (c = 1)) acc) (m := c :: m :: r) (by simp [encN]) (by simp) (encN_byte (by omega)) hbB).callU [BS true (encN (decide (c = 1)) acc), BS kk (c :: m :: r)] (by simp) ?_
            by_cases heq : encN (decide (c = 1)) acc = c :: m :: r
            · simp [heq, hch, h0, h2', h4, Try.results38]
              first | (refine GV.ans hcl ?_; simp [decV, hch, heq]; done) | (refine GV.ans0 ?_; simp [decV, hch, heq]; done)
            · simp [heq, hch, h0, h2', h4, Try.results38]
              first | (refine GV.ans hcl ?_; simp [decV, hch, heq]; done) | (refine GV.ans0 ?_; simp [decV, hch, heq]; done)
          · simp [hch, h0, h2', h4, Try.results38]
            first | (refine GV.ans hcl ?_; simp [decV, hch]; done) | (refine GV.ans0 ?_; simp [decV, hch]; done)
        have hz : (getN q2).2.2 = 0 := by simpa using hz
        have hz2 := get1_ok hz
        have hq3 := drop_byte hq2 (getN q2).2.1
        have hl3 := drop_le hl2 (getN q2).2.1
        simp [hz, h0, h2', h4, hw1, hw2, hw3]
        refine v_once hC ?_
        simp [h0, h2', h4, hw1, hw2, hw3]
        rw [← List.map_drop]
        generalize q2.drop (getN q2).2.1 = q3 at hz2 hq3 hl3 ⊢
        refine (v_Get (kk := true) (l := q3) hl3 hq3).callU [BS true q3] (by simp) ?_
        simp [h0, h2', h4, hw1, hw2, hw3]
        refine CondV.on (fun hz => ?_) (fun hz => ?_)
        · have hz : (getN q3).2.2 ≠ 0 := by simpa using hz
          have hD2 : decL m.toNat r = acc := by rw [hD, decL_none (by simp [getEnt, hz1, hz2, get1_no hz]), List.append_nil]
          rw [hD2]
          simp [hz, h0, h2', h4, hw1, hw2, hw3]
          refine (v_Encode (kk := true) (l := acc) (lf := decide (c = 1)) (by omega)).callF [.agg [bo (decide (c = 1)), ES true acc]] (Frz.vec (g := H.length + 2) (w := w) (s := 3) (rows := acc.map ec) (rw := true) (t := t) (by simp) (by simp)) (by simp) ?_
          simp [h0, h2', h4]
          by_cases hch : chk (decide (c = 1)) acc = 0
          · simp [hch, h0, h2', h4]
            rw [show encR (decide (c = 1)) acc = encN (decide (c = 1)) acc by unfold encR; rw [if_pos hch]]
            refine (v_bEqual (kk := true) (km := kk) (l := encN (decide (c = 1)) acc) (m := c :: m :: r) (by simp [encN]) (by simp) (encN_byte (by omega)) hbB).callU [BS true (encN (decide (c = 1)) acc), BS kk (c :: m :: r)] (by simp) ?_
            by_cases heq : encN (decide (c = 1)) acc = c :: m :: r
            · simp [heq, hch, h0, h2', h4, Try.results38]
              first | (refine GV.ans hcl ?_; simp [decV, hch, heq]; done) | (refine GV.ans0 ?_; simp [decV, hch, heq]; done)
            · simp [heq, hch, h0, h2', h4, Try.results38]
              first | (refine GV.ans hcl ?_; simp [decV, hch, heq]; done) | (refine GV.ans0 ?_; simp [decV, hch, heq]; done)
          · simp [hch, h0, h2', h4, Try.results38]
            first | (refine GV.ans hcl ?_; simp [decV, hch]; done) | (refine GV.ans0 ?_; simp [decV, hch]; done)
        have hz : (getN q3).2.2 = 0 := by simpa using hz
        have hz3 := get1_ok hz
        have hq4 := drop_byte hq3 (getN q3).2.1
        have hl4 := drop_le hl3 (getN q3).2.1
        simp [hz, h0, h2', h4, hw1, hw2, hw3]
        refine v_once hC ?_
        simp [h0, h2', h4, h33, h34, hw1, hw2, hw3, w64 (n := (k : Int) + 1) (by omega)]
        have hent : getEnt q = some (⟨(getN q).1, (getN q2).1, (getN q3).1⟩, q3.drop (getN q3).2.1) := by simp [getEnt, hz1, hz2, hz3]
        rw [decL_some hent (by omega)] at hD
        refine ⟨by omega, GH.of (G.clip (Z := [_, _, _]) (X := [_]) (Z' := [.mem [bo false, .lit (.slice none 0 0)] true, .mem [bo (decide (c = 1)), .own (H.length + 2) (w + 1)] true, .vec (w + 1) ((acc ++ [(⟨(getN q).1, (getN q2).1, (getN q3).1⟩ : Ent)]).map ec) 3 true t]) hcl (by simp) (by simp; exact UpR.self (show PureR _ by simp)) ⟨(k + 1, acc ++ [(⟨(getN q).1, (getN q2).1, (getN q3).1⟩ : Ent)], q3.drop (getN q3).2.1), ⟨w + 1, t, true, rfl, ?_, ?_, ?_, ?_, ?_, ?_, ?_, ?_, hq4, hl4, ?_⟩, ?_⟩)⟩
        · simp [h0]
        · simp [h2']
        · simp [h4]
        · simp
        · simp [h33]
        · simp
        · simp only; omega
        · simp [hal]
        · simp only; rw [hD, show m.toNat - k - 1 = m.toNat - (k + 1) by omega]; simp
        · simp only; omega
      · have hD2 : decL m.toNat r = acc := by rw [hD, show m.toNat - k = 0 by omega]; simp [decL]
        rw [hD2]
        simp [h0, h2', h4, hw1, hw2, hw3]
        refine (v_Encode (kk := true) (l := acc) (lf := decide (c = 1)) (by omega)).callF [.agg [bo (decide (c = 1)), ES true acc]] (Frz.vec (g := H.length + 2) (w := w) (s := 3) (rows := acc.map ec) (rw := true) (t := t) (by simp) (by simp)) (by simp) ?_
        simp [h0, h2', h4]
        by_cases hch : chk (decide (c = 1)) acc = 0
        · simp [hch, h0, h2', h4]
          rw [show encR (decide (c = 1)) acc = encN (decide (c = 1)) acc by unfold encR; rw [if_pos hch]]
          refine (v_bEqual (kk := true) (km := kk) (l := encN (decide (c = 1)) acc) (m := c :: m :: r) (by simp [encN]) (by simp) (encN_byte (by omega)) hbB).callU [BS true (encN (decide (c = 1)) acc), BS kk (c :: m :: r)] (by simp) ?_
          by_cases heq : encN (decide (c = 1)) acc = c :: m :: r
          · simp [heq, hch, h0, h2', h4, Try.results38]
            first | (refine GV.ans hcl ?_; simp [decV, hch, heq]; done) | (refine GV.ans0 ?_; simp [decV, hch, heq]; done)
          · simp [heq, hch, h0, h2', h4, Try.results38]
            first | (refine GV.ans hcl ?_; simp [decV, hch, heq]; done) | (refine GV.ans0 ?_; simp [decV, hch, heq]; done)
        · simp [hch, h0, h2', h4, Try.results38]
          first | (refine GV.ans hcl ?_; simp [decV, hch]; done) | (refine GV.ans0 ?_; simp [decV, hch]; done)
end Go.Proofs.Ytenbclcfhjdcaaa.VM
end
section
set_option maxHeartbeats 8000000
set_option linter.unusedVariables false
set_option linter.unusedSimpArgs false
/- The document's Get. -/
namespace Go.Proofs.Ytenbclcfhjdcaaa.VM
open Go Go.Proofs AM B
set_option maxRecDepth 100000
/-- The document's reading of a number: the number, how many bytes, what is wrong. -/
def refF (gr : Nat) : Nat → Nat → List Int → Nat × Nat × Int
  | i, _, [] => (0, i, 4)
  | i, n, c :: cs =>
    if 9 < i then (0, i, 3)
    else if 0 < (c % 128).toNat ∧ (gr - n) / 2 ^ (7 * i) < (c % 128).toNat then (0, i, 3)
    else if c = 0 ∧ 0 < i then (0, i, 3)
    else if c < 128 then (n + (c % 128).toNat * 2 ^ (7 * i), i + 1, 0)
    else refF gr (i + 1) (n + (c % 128).toNat * 2 ^ (7 * i)) cs
theorem v_rGet {kk : Bool} {l : List Int} {a gr : Nat} (hl : l.length ≤ 100000) (ha : a ≤ l.length) (hb : ∀ x ∈ l, 0 ≤ x ∧ x ≤ 255) (hgr : gr < 18446744073709551616) : A 84 [BS kk l, i6 a, .lit (.int .u64 gr)]
    (.tup [.lit (.int .u64 (refF gr 0 0 (l.drop a)).1), i6 ((a + (refF gr 0 0 (l.drop a)).2.1 : Nat) : Int), i6 (refF gr 0 0 (l.drop a)).2.2]) := by
  intro H
  refine v_enter hC [] (fun _ _ => kn_none rfl) Try.func84 rfl ok84 (Nat.le_of_ble_eq_true rfl) fun hcl hbl => ?_
  simp
  refine v_loopX hC (fun (X : Nat × Nat) e T => T = H ∧ e 0 = BS kk l ∧ e 1 = i6 ((a + X.1 : Nat) : Int) ∧ e 2 = .lit (.int .u64 gr) ∧ e 9 = .lit (.int .u64 X.2) ∧ e 10 = i6 a ∧ a + X.1 ≤ l.length ∧ X.2 ≤ gr ∧ refF gr 0 0 (l.drop a) = refF gr X.1 X.2 (l.drop (a + X.1))) (fun X => l.length - a - X.1) (0, 0) (G.refl ?_) ?_
  · simp [ha]
  · rintro ⟨i, n⟩ e T ⟨rfl, h0, h1, h2, h9, h10, hi, hn, hv⟩
    simp only at h1 h9 hi hn hv
    simp [h0, h1]
    refine CondV.dec (fun hlt => ?_) (fun hge => ?_)
    · have hlt : a + i < l.length := by omega
      have hc := hb l[a + i] (List.getElem_mem hlt)
      rw [List.drop_eq_getElem_cons hlt] at hv
      generalize hcv : l[a + i] = c at hv hc
      obtain ⟨p, hp⟩ : ∃ p : Nat, (c % 128).toNat = p := ⟨_, rfl⟩
      have hp1 : IntKind.u8.wrap (c % 128) = (p : Int) := by simp [IntKind.wrap, IntKind.bits, IntKind.signed]; omega
      have hp2 : IntKind.u8.wrap (c.tmod 128) = (p : Int) := by rw [Int.tmod_eq_emod_of_nonneg hc.1]; exact hp1
      have hp3 : IntKind.u64.wrap (p : Int) = (p : Int) := by simp [IntKind.wrap, IntKind.bits, IntKind.signed]; omega
      have hsub : (a : Int) + i - a = i := by omega
      have hpos : ¬ (a : Int) + i < 0 := by omega
      have hnat : ((a : Int) + i).toNat = a + i := by omega
      simp only [refF, hp] at hv
      simp [h0, h1, h2, h9, h10, hsub, hp1, hp2, hp3, hpos, hnat, getL hlt, hcv, w64 (n := (i : Int)) (by omega)]
      refine ⟨by omega, CondV.dec (fun h => ?_) (fun h => ?_)⟩
      · rw [if_pos (by omega)] at hv
        simp [h0, h1, h2, h9, h10, hv, Try.results84]
        first | (refine GV.ans hcl ?_; simp [hv]; done) | (refine GV.ans0 ?_; simp [hv]; done)
      · rw [if_neg (by omega)] at hv
        have hi9 : i ≤ 9 := by omega
        have hpow : ∀ j, j ≤ 9 → (2 ^ (7 * j) : Nat) ≤ 9223372036854775808 := fun j hj => Nat.le_trans (Nat.pow_le_pow_right (by decide) (show 7 * j ≤ 63 by omega)) (by decide)
        simp [h0, h1, h2, h9, h10, hsub, w64 (n := (i : Int)) (by omega)]
        refine v_loopX hC (fun (j : Nat) f U => U = T ∧ f 0 = BS kk l ∧ f 1 = i6 ((a + i : Nat) : Int) ∧ f 2 = .lit (.int .u64 gr) ∧ f 9 = .lit (.int .u64 n) ∧ f 10 = i6 a ∧ f 11 = i6 i ∧ f 12 = .lit (.int .u64 p) ∧ f 13 = .lit (.int .u64 ((2 ^ (7 * j) : Nat) : Int)) ∧ f 14 = i6 j ∧ j ≤ i) (fun j => i - j) 0 (G.refl ?_) ?_
        · have hp4 : IntKind.u64.wrap (c.tmod 128) = (p : Int) := by rw [Int.tmod_eq_emod_of_nonneg hc.1, show c % 128 = (p : Int) by omega]; exact hp3
          simp [hp4, h0, h1, h2, h9, h10, hsub, hp1, hp2, hp3, hpos, hnat, getL hlt, hcv, w64 (n := (i : Int)) (by omega)]
        · rintro j f U ⟨rfl, g0, g1, g2, g9, g10, g11, g12, g13, g14, hj⟩
          simp [g11, g14]
          refine CondV.dec (fun hji => ?_) (fun hji => ?_)
          · have hw : IntKind.u64.wrap (((2 ^ (7 * j) : Nat) : Int) * 128) = ((2 ^ (7 * (j + 1)) : Nat) : Int) := by
              have h1 := hpow (j + 1) (by omega)
              rw [Nat.mul_add, Nat.pow_add] at h1 ⊢
              generalize 2 ^ (7 * j) = D at h1 ⊢
              simp only [Nat.mul_one, Nat.reducePow] at h1 ⊢
              rw [show (D : Int) * 128 = ((D * 128 : Nat) : Int) by omega]
              simp only [IntKind.wrap, IntKind.bits, IntKind.signed]
              simp
              omega
            generalize hD : (2 ^ (7 * j) : Nat) = D at g13 hw
            simp [g13, g14, hw, w64 (n := (j : Int) + 1) (by omega)]
            refine GH.refl ⟨j + 1, ⟨rfl, ?_, ?_, ?_, ?_, ?_, ?_, ?_, ?_, ?_, hji⟩, by omega⟩ <;> simp [g0, g1, g2, g9, g10, g11, g12]
          · have hji : j = i := by omega
            subst hji
            have hD0 : 0 < (2 ^ (7 * j) : Nat) := Nat.pow_pos (by decide)
            have hD1 := hpow j hi9
            generalize hD : (2 ^ (7 * j) : Nat) = D at g13 hv hD0 hD1
            have hgn : IntKind.u64.wrap ((gr : Int) - n) = ((gr - n : Nat) : Int) := by simp [IntKind.wrap, IntKind.bits, IntKind.signed]; omega
            simp [g0, g1, g2, g9, g10, g11, g12, g13]
            have hgl : U.length = U.length := rfl
            have hdz : ¬ (D : Int) = 0 := by omega
            by_cases p0 : 0 < p
            · have dz : ¬ D = 0 := by omega
              have hquo : IntKind.u64.wrap (((gr - n : Nat) : Int) / (D : Int)) = (((gr - n) / D : Nat) : Int) := by
                rw [show ((gr - n : Nat) : Int) / (D : Int) = (((gr - n) / D : Nat) : Int) by simp]
                have : (gr - n) / D ≤ gr - n := Nat.div_le_self _ _
                generalize (gr - n) / D = Q at this ⊢
                simp [IntKind.wrap, IntKind.bits, IntKind.signed]; omega
              generalize hQ : (gr - n) / D = Q at hquo hv
              simp [g0, g1, g2, g9, g10, g11, g12, g13, p0, hgn, hdz, dz, hquo]
              refine CondV.dec (fun hq => ?_) (fun hq => ?_)
              · rw [if_pos ⟨p0, by omega⟩] at hv
                simp [g0, g1, hv, Try.results84]
                first | (refine GV.ans hcl ?_; simp [hv]; done) | (refine GV.ans0 ?_; simp [hv]; done)
              · rw [if_neg (fun h => by omega)] at hv
                simp [g0, g1, g2, g9, g10, g11, g12, g13, p0, hgn, hdz, dz, hquo, hpos, hnat, getL hlt, hcv]
                have hpd : n + p * D ≤ gr := by
                  have : p * D ≤ gr - n := (Nat.le_div_iff_mul_le hD0).1 (by omega)
                  omega
                refine ⟨by omega, ?_⟩
                by_cases hz : c = 0 ∧ 0 < j
                · obtain ⟨c0, j0⟩ := hz
                  rw [if_pos ⟨c0, j0⟩] at hv
                  simp [g0, g1, g11, c0, j0, hv, Try.results84]
                  first | (refine GV.ans hcl ?_; simp [hv]; done) | (refine GV.ans0 ?_; simp [hv]; done)
                · rw [if_neg hz] at hv
                  have hmul : IntKind.u64.wrap ((p : Int) * (D : Int)) = ((p * D : Nat) : Int) := by
                    rw [show (p : Int) * (D : Int) = ((p * D : Nat) : Int) by simp]
                    generalize p * D = W at hpd ⊢
                    simp [IntKind.wrap, IntKind.bits, IntKind.signed]; omega
                  have hadd : IntKind.u64.wrap ((n : Int) + ((p * D : Nat) : Int)) = ((n + p * D : Nat) : Int) := by
                    generalize p * D = W at hpd ⊢
                    simp [IntKind.wrap, IntKind.bits, IntKind.signed]; omega
                  generalize p * D = W at hmul hadd hv hpd
                  have hx1 : IntKind.i64.wrap ((a : Int) + j + 1) = (a : Int) + j + 1 := w64 (by omega)
                  have hx2 : IntKind.i64.wrap ((a : Int) + j) = (a : Int) + j := w64 (by omega)
                  have hx3 : 0 ≤ (a : Int) + j := by omega
                  by_cases c0 : c = 0
                  · have nj : ¬ 0 < j := fun h => hz ⟨c0, h⟩
                    rw [if_pos (by omega)] at hv
                    simp [g0, g1, g9, g11, g12, g13, hcv, c0, nj, hmul, hadd, hpos, hnat, getL hlt, hx1, hx2, hx3, hv, Try.results84]
                    have hz2 : (a : Int) + j + 1 = ((a + (j + 1) : Nat) : Int) := by omega
                    first | (refine GV.ans hcl ?_; simp [hv, hz2]; done) | (refine GV.ans0 ?_; simp [hv, hz2]; done)
                  · simp [g0, g1, g9, g11, g12, g13, c0, hmul, hadd, hpos, hnat, getL hlt, hcv, hx1, hx2, hx3]
                    refine CondV.dec (fun hs => ?_) (fun hs => ?_)
                    · rw [if_pos hs] at hv
                      simp [g0, g1, g9, hv, Try.results84]
                      have hz2 : (a : Int) + j + 1 = ((a + (j + 1) : Nat) : Int) := by omega
                      first | (refine GV.ans hcl ?_; simp [hv, hz2]; done) | (refine GV.ans0 ?_; simp [hv, hz2]; done)
                    · rw [if_neg hs] at hv
                      simp
                      refine GH.refl ⟨(j + 1, n + W), ⟨rfl, ?_, ?_, ?_, ?_, ?_, hlt, hpd, ?_⟩, ?_⟩
                      · simp [g0]
                      · simp; omega
                      · simp [g2]
                      · simp
                      · simp [g10]
                      · simpa [Nat.add_assoc] using hv
                      · simp only; omega
            · · rw [if_neg (fun h => p0 h.1)] at hv
                have hpd : n + p * D ≤ gr := by rw [show p = 0 by omega, Nat.zero_mul]; exact hn
                simp [g0, g1, g2, g9, g10, g11, g12, g13, p0, hpos, hnat, getL hlt, hcv]
                refine ⟨by omega, ?_⟩
                by_cases hz : c = 0 ∧ 0 < j
                · obtain ⟨c0, j0⟩ := hz
                  rw [if_pos ⟨c0, j0⟩] at hv
                  simp [g0, g1, g11, c0, j0, hv, Try.results84]
                  first | (refine GV.ans hcl ?_; simp [hv]; done) | (refine GV.ans0 ?_; simp [hv]; done)
                · rw [if_neg hz] at hv
                  have hmul : IntKind.u64.wrap ((p : Int) * (D : Int)) = ((p * D : Nat) : Int) := by
                    rw [show (p : Int) * (D : Int) = ((p * D : Nat) : Int) by simp]
                    generalize p * D = W at hpd ⊢
                    simp [IntKind.wrap, IntKind.bits, IntKind.signed]; omega
                  have hadd : IntKind.u64.wrap ((n : Int) + ((p * D : Nat) : Int)) = ((n + p * D : Nat) : Int) := by
                    generalize p * D = W at hpd ⊢
                    simp [IntKind.wrap, IntKind.bits, IntKind.signed]; omega
                  generalize p * D = W at hmul hadd hv hpd
                  have hx1 : IntKind.i64.wrap ((a : Int) + j + 1) = (a : Int) + j + 1 := w64 (by omega)
                  have hx2 : IntKind.i64.wrap ((a : Int) + j) = (a : Int) + j := w64 (by omega)
                  have hx3 : 0 ≤ (a : Int) + j := by omega
                  by_cases c0 : c = 0
                  · have nj : ¬ 0 < j := fun h => hz ⟨c0, h⟩
                    rw [if_pos (by omega)] at hv
                    simp [g0, g1, g9, g11, g12, g13, hcv, c0, nj, hmul, hadd, hpos, hnat, getL hlt, hx1, hx2, hx3, hv, Try.results84]
                    have hz2 : (a : Int) + j + 1 = ((a + (j + 1) : Nat) : Int) := by omega
                    first | (refine GV.ans hcl ?_; simp [hv, hz2]; done) | (refine GV.ans0 ?_; simp [hv, hz2]; done)
                  · simp [g0, g1, g9, g11, g12, g13, c0, hmul, hadd, hpos, hnat, getL hlt, hcv, hx1, hx2, hx3]
                    refine CondV.dec (fun hs => ?_) (fun hs => ?_)
                    · rw [if_pos hs] at hv
                      simp [g0, g1, g9, hv, Try.results84]
                      have hz2 : (a : Int) + j + 1 = ((a + (j + 1) : Nat) : Int) := by omega
                      first | (refine GV.ans hcl ?_; simp [hv, hz2]; done) | (refine GV.ans0 ?_; simp [hv, hz2]; done)
                    · rw [if_neg hs] at hv
                      simp
                      refine GH.refl ⟨(j + 1, n + W), ⟨rfl, ?_, ?_, ?_, ?_, ?_, hlt, hpd, ?_⟩, ?_⟩
                      · simp [g0]
                      · simp; omega
                      · simp [g2]
                      · simp
                      · simp [g10]
                      · simpa [Nat.add_assoc] using hv
                      · simp only; omega
    · have hd : l.drop (a + i) = [] := List.drop_of_length_le (by omega)
      rw [hd] at hv
      simp [h1, Try.results84]
      first | (refine GV.ans hcl ?_; simp [hv, refF]; done) | (refine GV.ans0 ?_; simp [hv, refF]; done)
end Go.Proofs.Ytenbclcfhjdcaaa.VM
end
section
set_option maxHeartbeats 8000000
set_option linter.unusedVariables false
set_option linter.unusedSimpArgs false
/- The document's Decode. -/
namespace Go.Proofs.Ytenbclcfhjdcaaa.VM
open Go Go.Proofs AM B
set_option maxRecDepth 100000
theorem v_rDecode0 {kk : Bool} {l : List Int} (hl : l.length < 2) : A 39 [BS kk l] (.tup [.agg [bo false, ES true []], i6 3]) := by
  intro H
  refine v_enter hC [] (fun _ _ => kn_none rfl) Try.func39 rfl ok39 (Nat.le_of_ble_eq_true rfl) fun hcl hbl => ?_
  have hl' : (l.length : Int) < 2 := by omega
  simp [hl', Try.results39]
  first | (refine GV.ans hcl ?_; simp []; done) | (refine GV.ans0 ?_; simp []; done)
/-- A number read by the document at a place: it, and the place behind it. -/
def rget1 (b : List Int) (at_ : Nat) : Option (Int × Nat) := if (refF 65535 0 0 (b.drop at_)).2.2 = 0 then some (((refF 65535 0 0 (b.drop at_)).1 : Int), at_ + (refF 65535 0 0 (b.drop at_)).2.1) else none
def rgetEnt (b : List Int) (at_ : Nat) : Option (Ent × Nat) := (rget1 b at_).bind fun x => (rget1 b x.2).bind fun y => (rget1 b y.2).map fun z => (⟨x.1, y.1, z.1⟩, z.2)
def rdecL (b : List Int) : Nat → Nat → Option (List Ent × Nat)
  | 0, at_ => some ([], at_)
  | m + 1, at_ => (rgetEnt b at_).bind fun x => (rdecL b m x.2).map fun y => (x.1 :: y.1, y.2)
/-- What the document's Decode answers. -/
def rdecV (l : List Int) (lf : Bool) : Option (List Ent × Nat) → V
  | some (D, at_) => if at_ = l.length ∧ chk lf D = 0 then .tup [.agg [bo lf, ES true D], i6 0] else .tup [.agg [bo false, ES true []], i6 3]
  | none => .tup [.agg [bo false, ES true []], i6 3]
theorem refF_le {gr : Nat} : ∀ (l : List Int) (i n : Nat), (refF gr i n l).2.1 ≤ i + l.length
  | [], i, n => by simp [refF]
  | c :: cs, i, n => by
    unfold refF
    split
    · simp
    · split
      · simp
      · split
        · simp
        · split
          · simp only [List.length_cons]; omega
          · have := refF_le (gr := gr) cs (i + 1) (n + (c % 128).toNat * 2 ^ (7 * i))
            simp only [List.length_cons]; omega
theorem refF_val {gr : Nat} : ∀ (l : List Int) (i n : Nat), n ≤ gr → (refF gr i n l).1 ≤ gr
  | [], i, n, _ => by simp [refF]
  | c :: cs, i, n, hn => by
    unfold refF
    have hD0 : 0 < (2 ^ (7 * i) : Nat) := Nat.pow_pos (by decide)
    generalize hp : (c % 128).toNat = p
    generalize (2 ^ (7 * i) : Nat) = D at hD0
    split
    · simp
    · split
      · simp
      · rename_i h1 h2
        have h : n + p * D ≤ gr := by
          by_cases p0 : 0 < p
          · have : p * D ≤ gr - n := (Nat.le_div_iff_mul_le hD0).1 (Nat.le_of_not_lt fun h => h2 ⟨p0, h⟩)
            omega
          · rw [show p = 0 by omega, Nat.zero_mul]; exact hn
        split
        · simp
        · split
          · exact h
          · exact refF_val cs (i + 1) (n + p * D) h
theorem rdecL_none {b : List Int} {n q : Nat} (h : rgetEnt b q = none) (hn : 0 < n) : rdecL b n q = none := by
  cases n with
  | zero => omega
  | succ n => simp [rdecL, h]
theorem rdecL_some {b : List Int} {n q q' : Nat} {e : Ent} (h : rgetEnt b q = some (e, q')) (hn : 0 < n) : rdecL b n q = (rdecL b (n - 1) q').map fun y => (e :: y.1, y.2) := by
  cases n with
  | zero => omega
  | succ n => simp [rdecL, h]
theorem v_rDecode {kk : Bool} {c m : Int} {r : List Int} (hl : r.length ≤ 90000) (hc : 0 ≤ c ∧ c ≤ 255) (hm : 0 ≤ m ∧ m ≤ 255) (hb : ∀ x ∈ r, 0 ≤ x ∧ x ≤ 255) : A 39 [BS kk (c :: m :: r)] (if 1 < c then .tup [.agg [bo false, ES true []], i6 3] else rdecV (c :: m :: r) (decide (c = 1)) (rdecL (c :: m :: r) m.toNat 2)) := by
  intro H
  refine v_enter hC [] (fun _ _ => kn_none rfl) Try.func39 rfl ok39 (Nat.le_of_ble_eq_true rfl) fun hcl hbl => ?_
  have hl' : ¬ ((r.length : Int) + 1 + 1 < 2) := by omega
  simp [hl']
  refine CondV.dec (fun h2 => ?_) (fun h2 => ?_)
  · simp [Try.results39]
    first | (refine GV.ans hcl ?_; simp [h2]; done) | (refine GV.ans0 ?_; simp [h2]; done)
  · have hwm : IntKind.i64.wrap m = m := w64 (by omega)
    have hw1 : IntKind.i64.wrap 1 = 1 := rfl
    have hw2 : IntKind.i64.wrap 2 = 2 := rfl
    have hw3 : IntKind.i64.wrap 3 = 3 := rfl
    rw [if_neg h2]
    have hbB : ∀ x ∈ c :: m :: r, 0 ≤ x ∧ x ≤ 255 := fun x hx => by
      rcases List.mem_cons.1 hx with rfl | hx
      · exact hc
      · rcases List.mem_cons.1 hx with rfl | hx
        · exact hm
        · exact hb x hx
    simp [hwm]
    refine v_loopX hC (fun (X : Nat × List Ent × Nat) e T => ∃ w t, T = H ++ [.mem [bo false, .lit (.slice none 0 0)] true, .mem [bo (decide (c = 1)), .own (H.length + 2) w] true, .vec w (X.2.1.map ec) 3 true t] ∧ e 0 = BS kk (c :: m :: r) ∧ e 2 = .ptr H.length 0 ∧ e 4 = .ptr (H.length + 1) 0 ∧ e 5 = i6 X.2.2 ∧ e 6 = i6 X.1 ∧ X.1 ≤ m.toNat ∧ X.2.1.length = X.1 ∧ X.2.2 ≤ r.length + 2 ∧ rdecL (c :: m :: r) m.toNat 2 = (rdecL (c :: m :: r) (m.toNat - X.1) X.2.2).map fun y => (X.2.1 ++ y.1, y.2)) (fun X => m.toNat - X.1) (0, [], 2) ?_ ?_
    · refine G.nils (Z' := [.mem [bo false, .lit (.slice none 0 0)] true, .mem [bo (decide (c = 1)), .own (H.length + 2) 0] true]) [3] hcl (by simp) (by simp) (by simp) ?_
      exact ⟨0, true, by simp, by simp, by simp, by simp, by simp, by simp, by simp, by simp, by simp, by simp⟩
    · rintro ⟨k, acc, q⟩ e T ⟨w, t, rfl, h0, h2', h4, h5, h6, hk, hal, hq, hD⟩
      simp only at h5 h6 hk hal hq hD
      simp [h0, h6, hwm]
      refine CondV.dec (fun hlt => ?_) (fun hge => ?_)
      · simp [h0, h2', h4, h5]
        refine v_once hC ?_
        simp [h0, h2', h4, h5]
        refine (v_rGet (kk := kk) (l := c :: m :: r) (a := q) (gr := 65535) (by simp; omega) (by simp; omega) hbB (by omega)).callU [BS kk (c :: m :: r), i6 q, .lit (.int .u64 65535)] (by simp) ?_
        simp [h0, h2', h4]
        refine CondV.on (fun hz => ?_) (fun hz => ?_)
        · have hz : (refF 65535 0 0 (List.drop q (c :: m :: r))).2.2 ≠ 0 := by simpa using hz
          have hD2 : rdecL (c :: m :: r) m.toNat 2 = none := by rw [hD, rdecL_none (by simp [rgetEnt, rget1, hz]) (by omega)]; rfl
          rw [hD2]
          simp [hz, h0, h2', h4, Try.results39]
          first | (refine GV.ans hcl ?_; simp [rdecV]; done) | (refine GV.ans0 ?_; simp [rdecV]; done)
        have hz : (refF 65535 0 0 (List.drop q (c :: m :: r))).2.2 = 0 := by simpa using hz
        obtain ⟨G1, hG1⟩ : ∃ G, refF 65535 0 0 (List.drop q (c :: m :: r)) = G := ⟨_, rfl⟩
        have hv1 := refF_val (gr := 65535) (List.drop q (c :: m :: r)) 0 0 (by omega)
        have hl1 := refF_le (gr := 65535) (List.drop q (c :: m :: r)) 0 0
        rw [List.length_drop, List.length_cons, List.length_cons] at hl1
        rw [hG1] at hz
        have hz1 : rget1 (c :: m :: r) q = some ((G1.1 : Int), q + G1.2.1) := by simp [rget1, hz, hG1]
        rw [hG1] at hv1 hl1
        have hwv1 : IntKind.i64.wrap (G1.1 : Int) = (G1.1 : Int) := w64 (by omega)
        simp [hG1, hz, hwv1, h0, h2', h4, hw1, hw2, hw3]
        refine v_once hC ?_
        simp [h0, h2', h4, hw1, hw2, hw3]
        obtain ⟨q2, eq2⟩ : ∃ x, x = q + G1.2.1 := ⟨_, rfl⟩
        rw [← eq2] at hz1
        refine (v_rGet (kk := kk) (l := c :: m :: r) (a := q2) (gr := 65535) (by simp; omega) (by simp; omega) hbB (by omega)).callU [BS kk (c :: m :: r), i6 q2, .lit (.int .u64 65535)] (by simp [eq2]) ?_
        obtain ⟨G2, hG2⟩ : ∃ G, refF 65535 0 0 (List.drop q2 (c :: m :: r)) = G := ⟨_, rfl⟩
        have hv2 := refF_val (gr := 65535) (List.drop q2 (c :: m :: r)) 0 0 (by omega)
        have hl2 := refF_le (gr := 65535) (List.drop q2 (c :: m :: r)) 0 0
        rw [List.length_drop, List.length_cons, List.length_cons] at hl2
        rw [hG2] at hv2 hl2
        simp [hG2, h0, h2', h4]
        refine CondV.on (fun hz => ?_) (fun hz => ?_)
        · have hz : G2.2.2 ≠ 0 := by simpa using hz
          have hno : rget1 (c :: m :: r) q2 = none := by simp [rget1, hG2, hz]
          have hD2 : rdecL (c :: m :: r) m.toNat 2 = none := by rw [hD, rdecL_none (by simp [rgetEnt, hz1, hno]) (by omega)]; rfl
          rw [hD2]
          simp [hz, h0, h2', h4, Try.results39]
          first | (refine GV.ans hcl ?_; simp [rdecV]; done) | (refine GV.ans0 ?_; simp [rdecV]; done)
        have hz : G2.2.2 = 0 := by simpa using hz
        have hz2 : rget1 (c :: m :: r) q2 = some ((G2.1 : Int), q2 + G2.2.1) := by simp [rget1, hz, hG2]
        have hwv2 : IntKind.i64.wrap (G2.1 : Int) = (G2.1 : Int) := w64 (by omega)
        simp [hG2, hz, hwv2, h0, h2', h4, hw1, hw2, hw3]
        refine v_once hC ?_
        simp [h0, h2', h4, h6, hw1, hw2, hw3, w64 (n := (k : Int) + 1) (by omega)]
        obtain ⟨q3, eq3⟩ : ∃ x, x = q2 + G2.2.1 := ⟨_, rfl⟩
        rw [← eq3] at hz2
        refine (v_rGet (kk := kk) (l := c :: m :: r) (a := q3) (gr := 65535) (by simp; omega) (by simp; omega) hbB (by omega)).callU [BS kk (c :: m :: r), i6 q3, .lit (.int .u64 65535)] (by simp [eq3]) ?_
        obtain ⟨G3, hG3⟩ : ∃ G, refF 65535 0 0 (List.drop q3 (c :: m :: r)) = G := ⟨_, rfl⟩
        have hv3 := refF_val (gr := 65535) (List.drop q3 (c :: m :: r)) 0 0 (by omega)
        have hl3 := refF_le (gr := 65535) (List.drop q3 (c :: m :: r)) 0 0
        rw [List.length_drop, List.length_cons, List.length_cons] at hl3
        rw [hG3] at hv3 hl3
        simp [hG3, h0, h2', h4]
        refine CondV.on (fun hz => ?_) (fun hz => ?_)
        · have hz : G3.2.2 ≠ 0 := by simpa using hz
          have hno : rget1 (c :: m :: r) q3 = none := by simp [rget1, hG3, hz]
          have hD2 : rdecL (c :: m :: r) m.toNat 2 = none := by rw [hD, rdecL_none (by simp [rgetEnt, hz1, hz2, hno]) (by omega)]; rfl
          rw [hD2]
          simp [hz, h0, h2', h4, Try.results39]
          first | (refine GV.ans hcl ?_; simp [rdecV]; done) | (refine GV.ans0 ?_; simp [rdecV]; done)
        have hz : G3.2.2 = 0 := by simpa using hz
        have hz3 : rget1 (c :: m :: r) q3 = some ((G3.1 : Int), q3 + G3.2.1) := by simp [rget1, hz, hG3]
        have hwv3 : IntKind.i64.wrap (G3.1 : Int) = (G3.1 : Int) := w64 (by omega)
        simp [hG3, hz, hwv3, h0, h2', h4, hw1, hw2, hw3]
        refine v_once hC ?_
        simp [h0, h2', h4, h6, hw1, hw2, hw3, w64 (n := (k : Int) + 1) (by omega)]
        have hent : rgetEnt (c :: m :: r) q = some (⟨G1.1, G2.1, G3.1⟩, q3 + G3.2.1) := by simp [rgetEnt, hz1, hz2, hz3]
        rw [rdecL_some hent (by omega)] at hD
        refine ⟨by omega, GH.of (G.clip (Z := [_, _, _]) (X := [_]) (Z' := [.mem [bo false, .lit (.slice none 0 0)] true, .mem [bo (decide (c = 1)), .own (H.length + 2) (w + 1)] true, .vec (w + 1) ((acc ++ [(⟨G1.1, G2.1, G3.1⟩ : Ent)]).map ec) 3 true t]) hcl (by simp) (by simp; exact UpR.self (show PureR _ by simp)) ⟨(k + 1, acc ++ [(⟨G1.1, G2.1, G3.1⟩ : Ent)], q3 + G3.2.1), ⟨w + 1, t, rfl, ?_, ?_, ?_, ?_, ?_, ?_, ?_, ?_, ?_⟩, ?_⟩)⟩
        · simp [h0]
        · simp [h2']
        · simp [h4]
        · simp
        · simp
        · simp only; omega
        · simp [hal]
        · simp only; omega
        · simp only; rw [hD, show m.toNat - k - 1 = m.toNat - (k + 1) by omega]; cases rdecL (c :: m :: r) (m.toNat - (k + 1)) (q3 + G3.2.1) <;> simp
        · simp only; omega
      · have hD2 : rdecL (c :: m :: r) m.toNat 2 = some (acc, q) := by rw [hD, show m.toNat - k = 0 by omega]; simp [rdecL]
        rw [hD2]
        by_cases hql : q = r.length + 1 + 1
        · have hql' : (q : Int) = (r.length : Int) + 1 + 1 := by omega
          simp [h0, h2', h4, h5, hql']
          refine (v_rCheck (kk := true) (l := acc) (lf := decide (c = 1)) (by omega)).callF [.agg [bo (decide (c = 1)), ES true acc]] (Frz.vec (g := H.length + 2) (w := w) (s := 3) (rows := acc.map ec) (rw := true) (t := t) (by simp) (by simp)) (by simp) ?_
          by_cases hch : chk (decide (c = 1)) acc = 0
          · simp [hch, h0, h2', h4, h5, hql', Try.results39]
            first | (refine GV.ans hcl ?_; simp [rdecV, hql, hch]; done) | (refine GV.ans0 ?_; simp [rdecV, hql, hch]; done)
          · simp [hch, h0, h2', h4, h5, hql', Try.results39]
            first | (refine GV.ans hcl ?_; simp [rdecV, hql, hch]; done) | (refine GV.ans0 ?_; simp [rdecV, hql, hch]; done)
        · have hql' : ¬ (q : Int) = (r.length : Int) + 1 + 1 := by omega
          simp [h0, h2', h4, h5, hql', Try.results39]
          first | (refine GV.ans hcl ?_; simp [rdecV, hql]; done) | (refine GV.ans0 ?_; simp [rdecV, hql]; done)
end Go.Proofs.Ytenbclcfhjdcaaa.VM
end
section
set_option maxHeartbeats 8000000
set_option linter.unusedVariables false
set_option linter.unusedSimpArgs false
/- What is written is read again; both read the same: plain. -/
namespace Go.Proofs.Ytenbclcfhjdcaaa.VM
open Go Go.Proofs AM B
theorem pow7 (i : Nat) : 2 ^ (7 * (i + 1)) = 2 ^ (7 * i) * 128 := by rw [Nat.mul_add, Nat.pow_add]
theorem pow7_big {i n : Nat} (h : n * 2 ^ (7 * i) < 18446744073709551616) (hn : 0 < n) : i ≤ 9 := by
  rcases Nat.lt_or_ge 9 i with h9 | h9
  · exfalso
    have : 2 ^ (7 * 10) ≤ 2 ^ (7 * i) := Nat.pow_le_pow_right (by decide) (by omega)
    have h2 : 2 ^ (7 * i) ≤ n * 2 ^ (7 * i) := Nat.le_mul_of_pos_left _ hn
    generalize 2 ^ (7 * i) = D at *
    simp at this
    omega
  · exact h9
theorem split128 (acc n D : Nat) : acc + n % 128 * D + n / 128 * (D * 128) = acc + n * D := by
  have h1 : n * D = (128 * (n / 128) + n % 128) * D := by rw [Nat.div_add_mod]
  have h2 : n / 128 * (D * 128) = 128 * (n / 128) * D := by rw [Nat.mul_comm D 128, ← Nat.mul_assoc, Nat.mul_comm (n / 128) 128]
  rw [h1, h2, Nat.add_mul]
  omega
theorem numF_venc {gr : Nat} (hgr : gr < 18446744073709551616) : ∀ (n i acc : Nat) (rest : List Int), acc + n * 2 ^ (7 * i) ≤ gr → i ≤ 9 → (0 < i → 0 < n) → numF gr i acc (venc n ++ rest) = (acc + n * 2 ^ (7 * i), i + (venc n).length, 0) := by
  intro n
  induction n using Nat.strongRecOn with
  | _ n ih =>
  intro i acc rest h hi h0
  have hD0 : 0 < (2 ^ (7 * i) : Nat) := Nat.pow_pos (by decide)
  by_cases hn : n < 128
  · rw [venc_lt n hn]
    simp only [List.cons_append, List.nil_append, numF, List.length_singleton]
    have hp : ((n : Int) % 128).toNat = n := by omega
    rw [hp, if_neg, if_neg (by omega), if_pos (by omega)]
    have : n ≤ 18446744073709551615 / 2 ^ (7 * i) := (Nat.le_div_iff_mul_le hD0).2 (by generalize 2 ^ (7 * i) = D at *; omega)
    omega
  · have hnD : n ≤ n * 2 ^ (7 * i) := Nat.le_mul_of_pos_right _ hD0
    have hlt : n < 18446744073709551616 := by omega
    rw [venc_ge n (by omega) hlt]
    simp only [List.cons_append, numF, List.length_cons]
    have hp : (((n % 128 + 128 : Nat) : Int) % 128).toNat = n % 128 := by omega
    have hs := split128 acc n (2 ^ (7 * i))
    have hs2 := split128 0 n (2 ^ (7 * i))
    have hle : n % 128 * 2 ^ (7 * i) ≤ gr := by omega
    have hle2 : n / 128 * 2 ^ (7 * (i + 1)) < 18446744073709551616 := by rw [pow7]; omega
    rw [hp, if_neg, if_neg (by omega), if_neg (by omega)]
    · rw [ih (n / 128) (by omega) (i + 1) _ rest (by rw [pow7]; omega) (pow7_big hle2 (by omega)) (by omega), pow7, hs]
      simp only [Prod.mk.injEq, true_and, and_true]
      omega
    · have : n % 128 ≤ 18446744073709551615 / 2 ^ (7 * i) := (Nat.le_div_iff_mul_le hD0).2 (by omega)
      omega
theorem refF_venc {gr : Nat} (hgr : gr < 18446744073709551616) : ∀ (n i acc : Nat) (rest : List Int), acc + n * 2 ^ (7 * i) ≤ gr → i ≤ 9 → (0 < i → 0 < n) → refF gr i acc (venc n ++ rest) = (acc + n * 2 ^ (7 * i), i + (venc n).length, 0) := by
  intro n
  induction n using Nat.strongRecOn with
  | _ n ih =>
  intro i acc rest h hi h0
  have hD0 : 0 < (2 ^ (7 * i) : Nat) := Nat.pow_pos (by decide)
  by_cases hn : n < 128
  · rw [venc_lt n hn]
    simp only [List.cons_append, List.nil_append, refF, List.length_singleton]
    have hp : ((n : Int) % 128).toNat = n := by omega
    rw [hp, if_neg (by omega), if_neg, if_neg (by omega), if_pos (by omega)]
    rintro ⟨_, h2⟩
    have : n ≤ (gr - acc) / 2 ^ (7 * i) := (Nat.le_div_iff_mul_le hD0).2 (by omega)
    omega
  · have hnD : n ≤ n * 2 ^ (7 * i) := Nat.le_mul_of_pos_right _ hD0
    have hlt : n < 18446744073709551616 := by omega
    rw [venc_ge n (by omega) hlt]
    simp only [List.cons_append, refF, List.length_cons]
    have hp : (((n % 128 + 128 : Nat) : Int) % 128).toNat = n % 128 := by omega
    have hs := split128 acc n (2 ^ (7 * i))
    have hs2 := split128 0 n (2 ^ (7 * i))
    have hle2 : n / 128 * 2 ^ (7 * (i + 1)) < 18446744073709551616 := by rw [pow7]; omega
    rw [hp, if_neg (by omega), if_neg, if_neg (by omega), if_neg (by omega)]
    · rw [ih (n / 128) (by omega) (i + 1) _ rest (by rw [pow7]; omega) (pow7_big hle2 (by omega)) (by omega), pow7, hs]
      simp only [Prod.mk.injEq, true_and, and_true]
      omega
    · rintro ⟨_, h2⟩
      have : n % 128 ≤ (gr - acc) / 2 ^ (7 * i) := (Nat.le_div_iff_mul_le hD0).2 (by omega)
      omega
/-- A number read without error was written so. -/
theorem refF_canon {gr : Nat} (hgr : gr < 18446744073709551616) : ∀ (l : List Int) (i acc : Nat), (∀ x ∈ l, 0 ≤ x ∧ x ≤ 255) → acc ≤ gr → (refF gr i acc l).2.2 = 0 → ∃ (x : Nat) (rest : List Int), l = venc x ++ rest ∧ refF gr i acc l = (acc + x * 2 ^ (7 * i), i + (venc x).length, 0) ∧ (0 < i → 0 < x) ∧ acc + x * 2 ^ (7 * i) ≤ gr
  | [], i, acc, _, _, h => by simp [refF] at h
  | c :: cs, i, acc, hb, ha, h => by
    have hc := hb c (by simp)
    have hD0 : 0 < (2 ^ (7 * i) : Nat) := Nat.pow_pos (by decide)
    unfold refF at h ⊢
    split at h
    · simp at h
    · rename_i h9
      rw [if_neg h9]
      split at h
      · simp at h
      · rename_i h1
        rw [if_neg h1]
        have hpD : acc + (c % 128).toNat * 2 ^ (7 * i) ≤ gr := by
          by_cases p0 : 0 < (c % 128).toNat
          · have : (c % 128).toNat * 2 ^ (7 * i) ≤ gr - acc := (Nat.le_div_iff_mul_le hD0).1 (Nat.le_of_not_lt fun h => h1 ⟨p0, h⟩)
            omega
          · rw [show (c % 128).toNat = 0 by omega, Nat.zero_mul]; exact ha
        split at h
        · simp at h
        · rename_i h2
          rw [if_neg h2]
          split at h
          · rename_i h3
            rw [if_pos h3]
            refine ⟨(c % 128).toNat, cs, ?_, ?_, ?_, hpD⟩
            · rw [venc_lt _ (by omega)]
              simp
              omega
            · rw [venc_lt _ (by omega)]; rfl
            · omega
          · rename_i h3
            rw [if_neg h3]
            obtain ⟨x, rest, e1, e2, e3, e4⟩ := refF_canon hgr cs (i + 1) _ (fun x hx => hb x (by simp [hx])) hpD h
            have hx0 := e3 (by omega)
            have hval : acc + (c % 128).toNat * 2 ^ (7 * i) + x * 2 ^ (7 * (i + 1)) = acc + ((c % 128).toNat + 128 * x) * 2 ^ (7 * i) := by
              have := split128 acc ((c % 128).toNat + 128 * x) (2 ^ (7 * i))
              rw [show ((c % 128).toNat + 128 * x) % 128 = (c % 128).toNat by omega, show ((c % 128).toNat + 128 * x) / 128 = x by omega] at this
              rw [pow7]; exact this
            have hle : (c % 128).toNat + 128 * x ≤ ((c % 128).toNat + 128 * x) * 2 ^ (7 * i) := Nat.le_mul_of_pos_right _ hD0
            rw [hval] at e2 e4
            have hv : venc ((c % 128).toNat + 128 * x) = c :: venc x := by
              rw [venc_ge _ (by omega) (by omega)]
              rw [show ((c % 128).toNat + 128 * x) / 128 = x by omega]
              congr 1
              omega
            refine ⟨(c % 128).toNat + 128 * x, rest, ?_, ?_, fun _ => by omega, e4⟩
            · rw [hv, e1]; rfl
            · rw [e2, hv, List.length_cons]
              simp only [Prod.mk.injEq, true_and, and_true]
              omega
/-- One number, read by leaf. -/
theorem get1_venc {n : Nat} {rest : List Int} (h : n < 9223372036854775808) : get1 (venc n ++ rest) = some ((n : Int), rest) := by
  have := numF_venc (gr := 9223372036854775807) (by decide) n 0 0 rest (by simp; omega) (by omega) (by omega)
  unfold get1 getN
  rw [this]
  simp
theorem getEnt_enc {e : Ent} {rest : List Int} (h : okE e = true) : getEnt (encE e ++ rest) = some (e, rest) := by
  simp only [okE, rightE, decide_eq_true_eq] at h
  have : encE e ++ rest = venc e.s.toNat ++ (venc e.n.toNat ++ (venc e.p.toNat ++ rest)) := by simp [encE, vencs]
  rw [this]
  unfold getEnt
  rw [get1_venc (by omega)]
  simp only [Option.bind_some]
  rw [get1_venc (by omega)]
  simp only [Option.bind_some]
  rw [get1_venc (by omega)]
  simp only [Option.map_some]
  cases e
  simp only [Option.some.injEq, Prod.mk.injEq, Ent.mk.injEq, and_true] at *
  omega
theorem decL_enc : ∀ {l : List Ent} {rest : List Int}, (∀ e ∈ l, okE e = true) → decL l.length (l.flatMap encE ++ rest) = l
  | [], _, _ => rfl
  | e :: l, rest, h => by
    simp only [List.flatMap_cons, List.length_cons, List.append_assoc, decL]
    rw [getEnt_enc (h e (by simp))]
    simp only
    rw [decL_enc fun x hx => h x (by simp [hx])]
theorem rget1_venc {b : List Int} {at_ : Nat} {n : Nat} {rest : List Int} (h : n ≤ 65535) (hb : b.drop at_ = venc n ++ rest) : rget1 b at_ = some ((n : Int), at_ + (venc n).length) := by
  have := refF_venc (gr := 65535) (by decide) n 0 0 rest (by simp; omega) (by omega) (by omega)
  unfold rget1
  rw [hb, this]
  simp
theorem drop_step {b : List Int} {k : Nat} {x y : List Int} (h : b.drop k = x ++ y) : b.drop (k + x.length) = y := by
  rw [← List.drop_drop, h]; simp
theorem rgetEnt_enc {b : List Int} {at_ : Nat} {e : Ent} {rest : List Int} (h : okE e = true) (hb : b.drop at_ = encE e ++ rest) : rgetEnt b at_ = some (e, at_ + (encE e).length) := by
  simp only [okE, rightE, decide_eq_true_eq] at h
  have e1 : b.drop at_ = venc e.s.toNat ++ (venc e.n.toNat ++ (venc e.p.toNat ++ rest)) := by rw [hb]; simp [encE, vencs]
  have e2 := drop_step e1
  have e3 := drop_step e2
  unfold rgetEnt
  rw [rget1_venc (by omega) e1]
  simp only [Option.bind_some]
  rw [rget1_venc (by omega) e2]
  simp only [Option.bind_some]
  rw [rget1_venc (by omega) e3]
  simp only [Option.map_some, encE, vencs]
  cases e
  simp only [Option.some.injEq, Prod.mk.injEq, Ent.mk.injEq, List.flatMap_cons, List.flatMap_nil, List.length_append, List.length_nil] at *
  omega
theorem rdecL_enc {b : List Int} : ∀ {l : List Ent} {at_ : Nat} {rest : List Int}, (∀ e ∈ l, okE e = true) → b.drop at_ = l.flatMap encE ++ rest → rdecL b l.length at_ = some (l, at_ + (l.flatMap encE).length)
  | [], _, _, _, _ => rfl
  | e :: l, at_, rest, h, hb => by
    rw [List.flatMap_cons, List.append_assoc] at hb
    simp only [List.length_cons, rdecL]
    rw [rgetEnt_enc (h e (by simp)) hb]
    simp only [Option.bind_some]
    rw [rdecL_enc (l := l) (rest := rest) (fun x hx => h x (by simp [hx])) (drop_step hb)]
    simp only [Option.map_some, List.flatMap_cons, List.length_append, Nat.add_assoc]
theorem rget1_canon {b : List Int} {at_ : Nat} {v : Int} {to : Nat} (hb : ∀ x ∈ b, 0 ≤ x ∧ x ≤ 255) (h : rget1 b at_ = some (v, to)) : ∃ n : Nat, v = n ∧ b.drop at_ = venc n ++ b.drop to := by
  unfold rget1 at h
  split at h
  · rename_i h0
    obtain ⟨x, rest, e1, e2, _, _⟩ := refF_canon (gr := 65535) (by decide) (b.drop at_) 0 0 (drop_byte hb _) (by omega) h0
    rw [e2] at h
    simp only [Option.some.injEq, Prod.mk.injEq] at h
    obtain ⟨h1, h2⟩ := h
    refine ⟨x, by simp at h1; omega, ?_⟩
    have := drop_step e1
    rw [e1, ← h2]
    simp only [Nat.zero_add]
    rw [this]
  · cases h
theorem rgetEnt_canon {b : List Int} {at_ : Nat} {e : Ent} {to : Nat} (hb : ∀ x ∈ b, 0 ≤ x ∧ x ≤ 255) (h : rgetEnt b at_ = some (e, to)) : b.drop at_ = encE e ++ b.drop to := by
  unfold rgetEnt at h
  rw [Option.bind_eq_some_iff] at h
  obtain ⟨⟨v1, t1⟩, h1, h⟩ := h
  rw [Option.bind_eq_some_iff] at h
  obtain ⟨⟨v2, t2⟩, h2, h⟩ := h
  rw [Option.map_eq_some_iff] at h
  obtain ⟨⟨v3, t3⟩, h3, h⟩ := h
  cases h
  obtain ⟨n1, e1, d1⟩ := rget1_canon hb h1
  obtain ⟨n2, e2, d2⟩ := rget1_canon hb h2
  obtain ⟨n3, e3, d3⟩ := rget1_canon hb h3
  simp only at e1 e2 e3 d1 d2 d3
  rw [d1, d2, d3, e1, e2, e3]
  simp [encE, vencs]
theorem rdecL_canon {b : List Int} (hb : ∀ x ∈ b, 0 ≤ x ∧ x ≤ 255) : ∀ {m at_ : Nat} {D : List Ent} {to : Nat}, rdecL b m at_ = some (D, to) → D.length = m ∧ b.drop at_ = D.flatMap encE ++ b.drop to
  | 0, at_, D, to, h => by cases h; simp
  | m + 1, at_, D, to, h => by
    unfold rdecL at h
    rw [Option.bind_eq_some_iff] at h
    obtain ⟨⟨e, t1⟩, h1, h⟩ := h
    rw [Option.map_eq_some_iff] at h
    obtain ⟨⟨D', t2⟩, h2, h⟩ := h
    cases h
    obtain ⟨i1, i2⟩ := rdecL_canon hb h2
    have := rgetEnt_canon hb h1
    simp only at i2 this
    refine ⟨by simp [i1], ?_⟩
    rw [this, i2]
    simp
theorem chk_okE {lf : Bool} {D : List Ent} (h : chk lf D = 0) : ∀ e ∈ D, okE e = true := by
  have := (chk_zero h).2.1
  exact List.all_eq_true.1 this
/-- Both read the same. -/
theorem dec_same {c m : Int} {r : List Int} (hc : 0 ≤ c ∧ c ≤ 1) (hm : 0 ≤ m ∧ m ≤ 255) (hb : ∀ x ∈ r, 0 ≤ x ∧ x ≤ 255) : (∃ D, chk (decide (c = 1)) D = 0 ∧ encN (decide (c = 1)) D = c :: m :: r ∧ decL m.toNat r = D ∧ rdecL (c :: m :: r) m.toNat 2 = some (D, r.length + 2)) ∨
    (¬ (chk (decide (c = 1)) (decL m.toNat r) = 0 ∧ encN (decide (c = 1)) (decL m.toNat r) = c :: m :: r) ∧ ∀ D at_, rdecL (c :: m :: r) m.toNat 2 = some (D, at_) → ¬ (at_ = (c :: m :: r).length ∧ chk (decide (c = 1)) D = 0)) := by
  have hbB : ∀ x ∈ c :: m :: r, 0 ≤ x ∧ x ≤ 255 := fun x hx => by
    rcases List.mem_cons.1 hx with rfl | hx
    · omega
    · rcases List.mem_cons.1 hx with rfl | hx
      · exact hm
      · exact hb x hx
  by_cases h : ∃ D, chk (decide (c = 1)) D = 0 ∧ encN (decide (c = 1)) D = c :: m :: r
  · obtain ⟨D, h1, h2⟩ := h
    left
    refine ⟨D, h1, h2, ?_⟩
    unfold encN at h2
    simp only [List.cons_append, List.nil_append, List.cons.injEq] at h2
    obtain ⟨_, e1, e2⟩ := h2
    have e3 : m.toNat = D.length := by omega
    have := decL_enc (rest := []) (chk_okE h1)
    rw [List.append_nil, e2] at this
    have h4 := rdecL_enc (b := c :: m :: r) (l := D) (at_ := 2) (rest := []) (chk_okE h1) (by simp [e2])
    rw [e2] at h4
    exact ⟨by rw [e3, this], by rw [e3, h4, Nat.add_comm]⟩
  · right
    refine ⟨fun h2 => h ⟨_, h2.1, h2.2⟩, fun D at_ hD => ?_⟩
    rintro ⟨rfl, h2⟩
    obtain ⟨i1, i2⟩ := rdecL_canon hbB hD
    refine h ⟨D, h2, ?_⟩
    simp only [List.drop_succ_cons, List.drop_zero, List.length_cons] at i2
    rw [List.drop_of_length_le (Nat.le_refl _), List.append_nil] at i2
    unfold encN
    rw [← i2, i1]
    by_cases h1 : c = 1
    · simp [h1]; omega
    · simp [h1]; omega
end Go.Proofs.Ytenbclcfhjdcaaa.VM
end
section
set_option maxHeartbeats 8000000
set_option linter.unusedVariables false
set_option linter.unusedSimpArgs false
/- The laws LeafBytes and LeafReads: the walks. -/
namespace Go.Proofs.Ytenbclcfhjdcaaa.VM
open Go Go.Proofs AM B
set_option maxRecDepth 100000
theorem v_known9 : A 25 [] (bo true) := fun H => VC.known (y := .bool true) (fun σ => by rfl) rfl ⟨rfl, rfl⟩
theorem v_DecodeEnc {kk : Bool} {a : Bool} {L : List Ent} (h : chk a L = 0) : A 38 [BS kk (encN a L)] (.tup [.agg [bo a, ES true L], i6 0]) := by
  obtain ⟨z1, z2, _, _⟩ := chk_zero h
  have hbE := encN_byte (lf := a) (l := L) (by omega)
  have hflat := flat_len L
  have hdec : decL L.length (L.flatMap encE) = L := by
    have := decL_enc (rest := []) (chk_okE h)
    rwa [List.append_nil] at this
  have hdv : decV (encN a L) a L = .tup [.agg [bo a, ES true L], i6 0] := by unfold decV; rw [if_pos ⟨h, rfl⟩]
  obtain ⟨c, hc⟩ : ∃ c : Int, c = if a then 1 else 0 := ⟨_, rfl⟩
  have hc01 : 0 ≤ c ∧ c ≤ 1 := by rw [hc]; cases a <;> simp
  have hda : decide (c = 1) = a := by rw [hc]; cases a <;> rfl
  have hen : encN a L = c :: (L.length : Int) :: L.flatMap encE := by rw [hc]; rfl
  have hV := v_Decode (kk := kk) (c := c) (m := L.length) (r := L.flatMap encE) (by omega) (by omega) (by omega) (fun x hx => hbE x (by rw [hen]; simp only [List.mem_cons]; exact .inr (.inr hx)))
  rw [if_neg (by omega), hda, Int.toNat_natCast, hdec, ← hen, hdv] at hV
  exact hV
set_option maxHeartbeats 8000000 in
theorem v_LeafBytes {kk : Bool} {l : List Ent} (hl : l.length < 2 ^ 63) {a : Bool} : A 8 [.agg [bo a, ES kk l]] (bo true) := by
  intro H
  refine v_enter hC [] (fun _ _ => kn_none rfl) Try.func8 rfl ok8 (Nat.le_of_ble_eq_true rfl) fun hcl hbl => ?_
  simp
  refine (v_To hl).call ?_
  have hL : (l.take 18).length ≤ 18 := by simp [Nat.min_le_left]
  generalize l.take 18 = L at hL ⊢
  simp
  refine (v_Of (kk := true) (l := L) (by omega)).call ?_
  simp
  refine (v_Encode (kk := true) (l := L) (lf := a) (by omega)).call ?_
  simp
  refine (v_rCheck (kk := true) (l := L) (by omega)).call ?_
  simp
  refine (v_Check (kk := true) (l := L) (by omega)).call ?_
  simp
  refine (v_Same (kk := true) (km := true) (l := L) (m := L) (by omega)).call ?_
  simp
  by_cases h : chk a L = 0
  · rw [show encR a L = encN a L by unfold encR; rw [if_pos h]]
    have hV := v_DecodeEnc (kk := true) h
    simp [h]
    refine hV.call ?_
    simp
    refine v_known9.call ?_
    simp
    refine (v_rE (kk := true) (l := L) (lf := a) (chk_zero h).1 (fun e he => chk_okE h e he)).call ?_
    simp
    have hen : (encN a L).length < 2 ^ 62 := by have := flat_len L; simp [encN, -List.length_flatMap]; omega
    refine (v_Same1 (kk := true) (km := true) (l := encN a L) (m := encN a L) hen).call ?_
    simp
    refine (v_Same (kk := true) (km := true) (l := L) (m := L) (by omega)).call ?_
    simp [Try.results8]
    first | (refine GV.ans hcl ?_; simp []; done) | (refine GV.ans0 ?_; simp []; done)
  · simp [h]
    refine v_known9.call ?_
    have hr : encR a L = [] := by unfold encR; rw [if_neg h]
    simp [hr, Try.results8]
    first | (refine GV.ans hcl ?_; simp []; done) | (refine GV.ans0 ?_; simp []; done)
theorem dec_both {kk : Bool} {q : List Int} (hq : q.length ≤ 200) (hb : ∀ x ∈ q, 0 ≤ x ∧ x ≤ 255) : ∃ a D e, A 38 [BS kk q] (.tup [.agg [bo a, ES true D], i6 e]) ∧ A 39 [BS kk q] (.tup [.agg [bo a, ES true D], i6 e]) ∧ (e = 0 ∨ e = 3) ∧ D.length ≤ 16 ∧ (e = 0 → chk a D = 0 ∧ encN a D = q) := by
  match q, hq, hb with
  | [], _, _ => exact ⟨false, [], 3, v_Decode0 (by simp), v_rDecode0 (by simp), .inr rfl, by simp, by simp⟩
  | [x], _, _ => exact ⟨false, [], 3, v_Decode0 (by simp), v_rDecode0 (by simp), .inr rfl, by simp, by simp⟩
  | c :: m :: r, hq, hb =>
    simp only [List.length_cons] at hq
    have hc := hb c (by simp)
    have hm := hb m (by simp)
    have hr : ∀ x ∈ r, 0 ≤ x ∧ x ≤ 255 := fun x hx => hb x (by simp [hx])
    have h1 := v_Decode (kk := kk) (c := c) (m := m) (r := r) (by omega) hc hm hr
    have h2 := v_rDecode (kk := kk) (c := c) (m := m) (r := r) (by omega) hc hm hr
    by_cases h : 1 < c
    · rw [if_pos h] at h1 h2
      exact ⟨false, [], 3, h1, h2, .inr rfl, by simp, by simp⟩
    · rw [if_neg h] at h1 h2
      rcases dec_same (c := c) (m := m) (r := r) (by omega) hm hr with ⟨D, e1, e2, e3, e4⟩ | ⟨e1, e2⟩
      · rw [e3, show decV (c :: m :: r) (decide (c = 1)) D = .tup [.agg [bo (decide (c = 1)), ES true D], i6 0] by unfold decV; rw [if_pos ⟨e1, e2⟩]] at h1
        rw [e4, show rdecV (c :: m :: r) (decide (c = 1)) (some (D, r.length + 2)) = .tup [.agg [bo (decide (c = 1)), ES true D], i6 0] by unfold rdecV; simp only; rw [if_pos ⟨rfl, e1⟩]] at h2
        exact ⟨_, D, 0, h1, h2, .inl rfl, (chk_zero e1).1, fun _ => ⟨e1, e2⟩⟩
      · rw [show decV (c :: m :: r) (decide (c = 1)) (decL m.toNat r) = .tup [.agg [bo false, ES true []], i6 3] by unfold decV; rw [if_neg e1]] at h1
        refine ⟨false, [], 3, h1, ?_, .inr rfl, by simp, by simp⟩
        cases hD : rdecL (c :: m :: r) m.toNat 2 with
        | none => rw [hD] at h2; exact h2
        | some p =>
          rw [hD] at h2
          have := e2 p.1 p.2 hD
          rw [show rdecV (c :: m :: r) (decide (c = 1)) (some p) = .tup [.agg [bo false, ES true []], i6 3] by unfold rdecV; simp only; rw [if_neg this]] at h2
          exact h2
set_option maxHeartbeats 8000000 in
theorem v_LeafReads {kk : Bool} {l : List Int} (hl : l.length < 2 ^ 63) (hb : ∀ x ∈ l, 0 ≤ x ∧ x ≤ 255) : A 7 [BS kk l] (bo true) := by
  intro H
  refine v_enter hC [] (fun _ _ => kn_none rfl) Try.func7 rfl ok7 (Nat.le_of_ble_eq_true rfl) fun hcl hbl => ?_
  simp
  have hbd : bounds l.length l.length none (some (if 200 < (l.length : Int) then 200 else (l.length : Int))) none = some (0, min l.length 200, l.length) := by
    rw [show (if 200 < (l.length : Int) then 200 else (l.length : Int)) = ((min l.length 200 : Nat) : Int) by split <;> omega]
    exact bounds_hi (by omega)
  simp [hbd]
  rw [← List.map_take]
  have hq : (l.take (min l.length 200)).length ≤ 200 := by rw [List.length_take]; omega
  have hqb : ∀ x ∈ l.take (min l.length 200), 0 ≤ x ∧ x ≤ 255 := fun x hx => hb x (List.mem_of_mem_take hx)
  generalize l.take (min l.length 200) = q at hq hqb ⊢
  obtain ⟨a, D, e, h1, h2, h3, h4, h5⟩ := dec_both (kk := kk) hq hqb
  refine h1.callU [BS kk q] (by simp) ?_
  simp
  refine h2.callU [BS kk q] (by simp) ?_
  simp
  refine v_draw (ord := [0, 1, 2, 3, 4, 5, 6, 7, 8, 9]) (m := 7) (by decide +kernel) ?_
  simp
  have hlen : ∀ {a : Bool} {D : List Ent}, D.length ≤ 16 → (encN a D).length < 2 ^ 62 := fun h => by rename_i D; have := flat_len D; simp [encN, -List.length_flatMap]; omega
  refine (v_Of (kk := true) (l := D) (by omega)).call ?_
  simp
  refine (v_rSame (kk := true) (km := true) (l := D) (m := D) (by omega)).call ?_
  simp
  by_cases he : e = 0
  · obtain ⟨e1, e2⟩ := h5 he
    subst he
    simp
    refine (v_Encode (kk := true) (l := D) (lf := a) (by omega)).call ?_
    rw [show encR a D = encN a D by unfold encR; rw [if_pos e1]]
    simp [e1]
    refine v_known9.call ?_
    simp
    refine (v_Same1 (kk := kk) (km := true) (l := q) (m := encN a D) (by omega)).callU [BS kk q, BS true (encN a D)] (by simp) ?_
    simp [e2, Try.results7]
    first | (refine GV.ans hcl ?_; simp []; done) | (refine GV.ans0 ?_; simp []; done)
  · simp [he]
    refine v_known9.call ?_
    simp [Try.results7]
    first | (refine GV.ans hcl ?_; simp []; done) | (refine GV.ans0 ?_; simp []; done)
end Go.Proofs.Ytenbclcfhjdcaaa.VM
end
section
set_option maxHeartbeats 8000000
set_option linter.unusedVariables false
set_option linter.unusedSimpArgs false
/- LeafBytes and LeafReads at the arguments as they read. -/
namespace Go.Proofs.Ytenbclcfhjdcaaa
open Go Go.RowKit AM VM B
namespace VM
theorem rows_bc : ∀ {rows : List (List V)}, (∀ r ∈ rows, ∃ x : Int, (0 ≤ x ∧ x ≤ 255) ∧ r = bc x) → ∃ l : List Int, rows = l.map bc ∧ ∀ x ∈ l, 0 ≤ x ∧ x ≤ 255
  | [], _ => ⟨[], rfl, by simp⟩
  | r :: rs, h => by
    obtain ⟨e, he1, he2⟩ := h r (by simp)
    obtain ⟨l, hl, hb⟩ := rows_bc (rows := rs) fun x hx => h x (by simp [hx])
    refine ⟨e :: l, by rw [he2, hl]; rfl, fun x hx => ?_⟩
    rcases List.mem_cons.1 hx with rfl | hx
    · exact he1
    · exact hb x hx
/-- Bytes. -/
theorem rd_bytes {H : Type} {enc : TypeId × Value → H} {w : World} {cs : List Value} (h : Rd enc Try.prog w 23 cs) : ∃ v kk, ∃ l : List Int, cs = [v] ∧ l.length < 2 ^ 63 ∧ (∀ x ∈ l, 0 ≤ x ∧ x ≤ 255) ∧ CellV w (BS kk l) v := by
  obtain ⟨v, kk, rows, e, hc, hl, hg⟩ := rd_sliceV (fun r => ∃ x : Int, (0 ≤ x ∧ x ≤ 255) ∧ r = bc x) h Try.underlying23 (by kernel_rfl : Try.prog.cellsOf 5 = 1) (by omega) (by omega) (fun es h1 h2 => by
    obtain ⟨x, rfl, hw⟩ := h2.int Try.underlying5
    refine ⟨bc x, rfl, ⟨_, _, rfl, .lit rfl, rfl⟩, x, ?_, rfl⟩
    simp [Lit.wf, IntKind.min, IntKind.max, IntKind.signed, IntKind.bits] at hw
    omega)
  obtain ⟨l, rfl, hb⟩ := rows_bc hg
  exact ⟨v, kk, l, e, by simp only [List.length_map, maxLen] at hl; omega, hb, hc⟩
theorem arg_bytes {H : Type} {enc : TypeId × Value → H} {w : World} {v : Value} (h : Rd enc Try.prog w 23 [v]) : ∃ kk, ∃ l : List Int, l.length < 2 ^ 63 ∧ (∀ x ∈ l, 0 ≤ x ∧ x ≤ 255) ∧ ArgV w (BS kk l) v := by
  obtain ⟨u, kk, l, e, h1, h2, h3⟩ := rd_bytes h
  cases e
  exact ⟨kk, l, h1, h2, h3.arg⟩
end VM
theorem leafBytes_row {H : Type} {enc : TypeId × Value → H} (cs0 : Array Value) (w : World) (h0 : Rd enc Try.prog w 37 cs0.toList) :
    Calls Try.prog 8 #[.agg cs0] w fun e w' => e = .returned (.bool true) ∧ Below w.heap.size w w' := by
  obtain ⟨a, kk, l, hl, ha⟩ := arg_node h0
  exact (v_LeafBytes hl).law mixed prims_ok ⟨_, _, rfl, ha, rfl⟩
theorem leafReads_row {H : Type} {enc : TypeId × Value → H} (A0 : Option Addr) (n0 c0 : Nat) (w : World) (h0 : Rd enc Try.prog w 23 [.slice A0 n0 c0]) :
    Calls Try.prog 7 #[.slice A0 n0 c0] w fun e w' => e = .returned (.bool true) ∧ Below w.heap.size w w' := by
  obtain ⟨kk, l, hl, hb, ha⟩ := arg_bytes h0
  exact (v_LeafReads hl hb).law mixed prims_ok ⟨_, _, rfl, ha, rfl⟩
end Go.Proofs.Ytenbclcfhjdcaaa
end
