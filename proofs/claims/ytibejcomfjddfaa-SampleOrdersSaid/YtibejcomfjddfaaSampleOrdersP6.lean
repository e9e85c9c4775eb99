/- What the proof of SampleOrders rests on, part 6 of 7. -/
import Derived.Test.YtibejcomfjddfaaSampleOrdersP5
import Derived.Test.YtibejcomfjddfaaSampleOrdersS
import Derived.BigQuiet
import Derived.Carry
import Derived.ChangeSame
import Derived.Deep.AppendLies
import Derived.Deep.DeepFit
import Derived.Deep.Draws
import Derived.Deep.LoopGhost
import Derived.Deep.QuietTactic
import Derived.Deep.RegionHeld3
import Derived.Deep.Slices
import Derived.KernelRfl
import Derived.Lib.Hide
import Derived.Maps.AppendAt
import Derived.OpenShut
import Derived.ProofKit
import Derived.RowKit3
import Derived.Shelf.Abstract
import Derived.WalkKit
import Derived.WalkSpells
section
set_option maxHeartbeats 8000000
set_option linter.unusedVariables false
set_option linter.unusedSimpArgs false

/- Words of this seat: a slice that reads as a list of cells; what stays readable when memory grows. No program is named here. -/
namespace Go.Proofs.Ytibejcomfjddfaa.B
open Go.RowKit

/-- A fact that the walk's simp does not look into. -/
structure Keep (p : Prop) : Prop where
  out : p

/-- The slice v has n elements; its cells are xs (as many as the element's size a piece). -/
def Row (w : World) (v : Value) (n : Nat) (xs : List Value) : Prop :=
  ∃ A c, v = .slice A n c ∧ n ≤ c ∧ c ≤ maxLen ∧ (0 < n → ∃ g o, A = some ⟨g, o, none⟩ ∧ ∀ j u, xs[j]? = some u → w.cell? ⟨g, o + j, none⟩ = some u)

def ints (l : List Int) : List Value := l.map (Value.int .i64)
def u8s (l : List Int) : List Value := l.map (Value.int .u8)
@[simp] theorem ints_length (l : List Int) : (ints l).length = l.length := by simp [ints]
@[simp] theorem u8s_length (l : List Int) : (u8s l).length = l.length := by simp [u8s]
/-- Element j of a list (closed to simp). -/
def el (l : List Int) (j : Nat) : Int := l.getD j 0
theorem el_eq (l : List Int) (j : Nat) (h : j < l.length) : el l j = l[j] := by simp [el, h]
theorem ints_get (l : List Int) (j : Nat) (h : j < l.length) : (ints l)[j]? = some (.int .i64 (el l j)) := by simp [ints, el, h]
theorem u8s_get (l : List Int) (j : Nat) (h : j < l.length) : (u8s l)[j]? = some (.int .u8 (el l j)) := by simp [u8s, el, h]
theorem ints_append (a b : List Int) : ints (a ++ b) = ints a ++ ints b := by simp [ints]
theorem u8s_append (a b : List Int) : u8s (a ++ b) = u8s a ++ u8s b := by simp [u8s]

theorem Row.below {w w' : World} {v : Value} {n : Nat} {xs : List Value} (h : Row w v n xs) (hb : Below w.heap.size w w') : Row w' v n xs := by
  obtain ⟨A, c, rfl, h1, h2, h3⟩ := h
  refine ⟨A, c, rfl, h1, h2, fun hn => ?_⟩
  obtain ⟨g, o, e, hc⟩ := h3 hn
  refine ⟨g, o, e, fun j u hu => ?_⟩
  have hc := hc j u hu
  rw [hb.cell (World.block_lt_of_cell? w _ hc)]
  exact hc
theorem Row.of_own {w : World} {base n : Nat} {e : TypeId} {size : Nat} {v : Value} {xs : List Value} (h : w.ownsRow base e size v n xs) : Row w v n xs := by
  rcases h.2 with ⟨rfl, rfl⟩ | ⟨g, cap, cur, rfl, hb, hh, h1, h2, h3, h4⟩
  · exact ⟨none, 0, rfl, Nat.le_refl _, Nat.zero_le _, fun h => absurd h (Nat.lt_irrefl 0)⟩
  · refine ⟨_, cap, rfl, h1, h2, fun _ => ⟨g, 0, rfl, fun j u hu => ?_⟩⟩
    rw [cell_of_row w g (0 + j) cur e (0, 0) hh, Nat.zero_add]
    rw [← h4, List.getElem?_take] at hu
    split at hu
    · simpa using hu
    · cases hu
/-- A slice that reads has no element, or lies somewhere. -/
theorem Row.open_ {w : World} {v : Value} {n : Nat} {xs : List Value} (h : Row w v n xs) :
    (n = 0 ∧ ∃ A c, v = .slice A 0 c ∧ c ≤ maxLen) ∨ ∃ g o c, v = .slice (some ⟨g, o, none⟩) n c ∧ n ≤ c ∧ c ≤ maxLen ∧ ∀ j u, xs[j]? = some u → w.cell? ⟨g, o + j, none⟩ = some u := by
  obtain ⟨A, c, rfl, h1, h2, h3⟩ := h
  rcases Nat.eq_zero_or_pos n with h0 | h0
  · subst h0; exact .inl ⟨rfl, A, c, rfl, h2⟩
  · obtain ⟨g, o, rfl, hc⟩ := h3 h0
    exact .inr ⟨g, o, c, rfl, h1, h2, hc⟩
theorem bcell {W w1 : World} (hb : Below W.heap.size W w1) :
    (∀ b o, b < W.heap.size → w1.cell? ⟨b, o, none⟩ = W.cell? ⟨b, o, none⟩) ∧ (∀ b o, b < W.heap.size → w1.frozen? ⟨b, o, none⟩ = W.frozen? ⟨b, o, none⟩) :=
  ⟨fun b o h => hb.cell (p := ⟨b, o, none⟩) h, fun b o h => hb.frozen (p := ⟨b, o, none⟩) h⟩
theorem grown_set (w : World) (a : Addr) (u : Value) : w.grownBy (w.setCell a u) (some a.block) :=
  ⟨rfl, rfl, rfl, by simp [World.setCell], fun k _ hk => Below.heap_setCell _ _ _ _ (fun e => hk (by rw [e]))⟩
theorem own_set {w : World} {base n : Nat} {e : TypeId} {size : Nat} {v : Value} {xs : List Value} (h : w.ownsRow base e size v n xs) (a : Addr) (u : Value) (hne : v.ownBlock ≠ some a.block) : (w.setCell a u).ownsRow base e size v n xs :=
  h.kept (grown_set w a u) (.inr hne)
theorem heap_set_same {w : World} {b o : Nat} {cs : Array Value} {t : TypeId} {fr : Nat × Nat} (h : w.heap[b]? = some (.cells cs t fr)) (u : Value) :
    (w.setCell ⟨b, o, none⟩ u).heap[b]? = some (.cells (cs.setIfInBounds o u) t fr) := by
  simp [World.setCell, Array.getElem?_modify, h]
theorem heap_lt {w : World} {b : Nat} {o : Obj} (h : w.heap[b]? = some o) : b < w.heap.size := (Array.getElem?_eq_some_iff.1 h).1
theorem own_lt {w : World} {base n : Nat} {e : TypeId} {size : Nat} {v : Value} {xs : List Value} (h : w.ownsRow base e size v n xs) {k : Nat} (hk : v.ownBlock = some k) : k < w.heap.size := (h.lt k hk).2
theorem own_not {w : World} {base n : Nat} {e : TypeId} {size : Nat} {v : Value} {xs : List Value} (h : w.ownsRow base e size v n xs) {k : Nat} (hk : w.heap.size ≤ k) : v.ownBlock ≠ some k := fun e => by
  have := own_lt h e; omega
theorem new_blk {W : World} {o : Obj} {s : Nat} (h : W.heap.size = s) : (W.alloc o).heap[s]? = some o := by subst h; exact heap_alloc_new _ _
theorem retI {k : IntKind} {a b : Int} (h : a = b) : Ending.returned (.int k a) = .returned (.int k b) := by rw [h]
theorem retT {k : IntKind} {a b : Int} {x : Value} (h : a = b) : Ending.returned (.tuple #[.int k a, x]) = .returned (.tuple #[.int k b, x]) := by rw [h]
theorem retB {a b : Bool} (h : a = b) : Ending.returned (.bool a) = .returned (.bool b) := by rw [h]
theorem bdraw {B : Nat} {w W : World} (h : Below B w W) (n : Nat) : Below B w (W.drewN n) := ⟨h.os, h.tape, h.output, h.size, h.block⟩
theorem balloc {w W : World} (h : Below w.heap.size w W) (o : Obj) : Below w.heap.size w (W.alloc o) := h.alloc h.size o
theorem kc {w w1 : World} (h : Below w.heap.size w w1) {a : Addr} {v : Value} (hc : w.cell? a = some v) : w1.cell? a = some v := (h.cell (World.block_lt_of_cell? w a hc)).trans hc
theorem balloc' {w W : World} {B : Nat} (h : Below B w W) (o : Obj) (hB : B ≤ W.heap.size := by omega) : Below B w (W.alloc o) := h.alloc hB o
theorem own_nil' (W : World) (base : Nat) (e : TypeId) (size : Nat) : W.ownsRow base e size (.slice none 0 0) 0 [] := ⟨by simp, .inl ⟨rfl, rfl⟩⟩
theorem bnext {B : Nat} {w w1 w2 : World} (h : Below B w w1) (hB : B ≤ w1.heap.size) (k : Below w1.heap.size w1 w2) : Below B w w2 :=
  h.trans (k.mono hB)
/-- append of one element that was just laid into a block of its own. -/
theorem app1 {P : Program} {ops : Array Oper} {rest : List Oper} {o : Oper} {a : Act} {Q : Exit → Act → World → Prop} {W : World} (hgd : o.guard = none) (s x : Operand) (t : TypeId)
    (ho : o.op = .call { callee := .builtin .append, args := #[s, x], argTypes := #[t, t] })
    (base : Nat) (e te : TypeId) (i : TypeInfo) (z : Value) (size bytes : Nat) (ht : P.underlying t = some (.slice e)) (hi : P.info? e = some i) (hz : i.zero = some z)
    (hsize : i.size = size) (hby : i.bytes = bytes) (hzs : z.cells.size = size) (hsz : 0 < size)
    (v : Value) (n : Nat) (xs : List Value) (hs : a.eval s = v) (hown : W.ownsRow base e size v n xs)
    (cs : List Value) (hx : a.eval x = .slice (some ⟨W.heap.size, 0, none⟩) 1 1) (hl : cs.length = size) (h1 : ∀ u ∈ cs, u.oneCell' = true)
    (h63 : n + 1 ≤ 1000000000) (hb : bytes ≤ 100) (hbase : base ≤ W.heap.size)
    (h : ∀ g cap w', w'.ownsRow base e size (.slice (some ⟨g, 0, none⟩) (n + 1) cap) (n + 1) (xs ++ cs) → (W.alloc (.cells cs.toArray te)).grownBy w' v.ownBlock → (v.ownBlock = some g ∨ g = W.heap.size + 1) → wpList P ops Q rest (a.put o.dst (.slice (some ⟨g, 0, none⟩) (n + 1) cap)) w') :
    wpList P ops Q (o :: rest) a (W.alloc (.cells cs.toArray te)) := by
  refine wpList_append_lies _ hgd s x t ho base e i z size bytes ht hi hz hsize hby hzs hsz v n xs hs (hown.alloc _) ⟨W.heap.size, 0, none⟩ 1 1 cs hx (by simp [hl]) (fun j u hj => ?_) h1 (by omega) (by simp only [maxLen]; omega) ?_ (by simp; omega) (W.heap.size + 1) (by simp) ?_
  · rw [show (⟨W.heap.size, 0, none⟩ : Addr).add j = ⟨W.heap.size, j, none⟩ by unfold Addr.add; split <;> simp_all]
    rw [World.cell?_alloc_new]; simpa using hj
  · calc (n + 1) * bytes ≤ 1000000000 * 100 := Nat.mul_le_mul h63 hb
      _ ≤ _ := by omega
  · intro g cap w' g1 g2 g3 _
    exact h g cap w' g1 g2 g3
/-- append of the m elements of another slice. -/
theorem appN {P : Program} {ops : Array Oper} {rest : List Oper} {o : Oper} {a : Act} {Q : Exit → Act → World → Prop} {W : World} (hgd : o.guard = none) (s x : Operand) (t : TypeId)
    (ho : o.op = .call { callee := .builtin .append, args := #[s, x], argTypes := #[t, t] })
    (base : Nat) (e : TypeId) (i : TypeInfo) (z : Value) (size bytes : Nat) (ht : P.underlying t = some (.slice e)) (hi : P.info? e = some i) (hz : i.zero = some z)
    (hsize : i.size = size) (hby : i.bytes = bytes) (hzs : z.cells.size = size) (hsz : 0 < size)
    (v : Value) (n : Nat) (xs : List Value) (hs : a.eval s = v) (hown : W.ownsRow base e size v n xs)
    (xv : Value) (m : Nat) (us : List Value) (hx : a.eval x = xv) (hrow : Row W xv m us) (hl : us.length = m * size) (h1 : ∀ u ∈ us, u.oneCell' = true)
    (hm : 0 < m) (h63 : n + m ≤ 1000000000) (hb : bytes ≤ 100) (hbase : base ≤ W.heap.size)
    (h : ∀ g cap w', w'.ownsRow base e size (.slice (some ⟨g, 0, none⟩) (n + m) cap) (n + m) (xs ++ us) → W.grownBy w' v.ownBlock → (v.ownBlock = some g ∨ g = W.heap.size) → wpList P ops Q rest (a.put o.dst (.slice (some ⟨g, 0, none⟩) (n + m) cap)) w') :
    wpList P ops Q (o :: rest) a W := by
  rcases hrow.open_ with ⟨h0, _⟩ | ⟨g0, o0, c0, rfl, _, _, hc⟩
  · omega
  refine wpList_append_lies _ hgd s x t ho base e i z size bytes ht hi hz hsize hby hzs hsz v n xs hs hown ⟨g0, o0, none⟩ m c0 us hx hl (fun j u hj => ?_) h1 hm (by simp only [maxLen]; omega) ?_ hbase W.heap.size rfl ?_
  · rw [show (⟨g0, o0, none⟩ : Addr).add j = ⟨g0, o0 + j, none⟩ by unfold Addr.add; split <;> simp_all]
    exact hc j u hj
  · calc (n + m) * bytes ≤ 1000000000 * 100 := Nat.mul_le_mul h63 hb
      _ ≤ _ := by omega
  · intro g cap w' g1 g2 g3 _
    exact h g cap w' g1 g2 g3
theorem u8s_one {l : List Int} : ∀ u ∈ u8s l, u.oneCell' = true := by
  intro u hu
  simp [u8s] at hu
  obtain ⟨x, _, rfl⟩ := hu
  rfl
/-- A block laid just now, as a row. -/
theorem own_blk {w : World} {b : Nat} {cs : Array Value} {e : TypeId} {size n : Nat} (base : Nat) (h : w.heap[b]? = some (.cells cs e (0, 0))) (hb : base ≤ b) (hn : cs.size = n * size) (hm : n ≤ maxLen) :
    w.ownsRow base e size (.slice (some ⟨b, 0, none⟩) n n) n cs.toList :=
  ⟨by simpa using hn, .inr ⟨b, n, cs, rfl, hb, h, Nat.le_refl _, hm, hn, by rw [List.take_of_length_le (by simp [hn])]⟩⟩
/-- The same at a step of a region that draws its order. -/
theorem step1 {P : Program} {ops : Array Oper} {o : Oper} {a : Act} {K : Act → World → Prop} {Q : Exit → Act → World → Prop} {E : Prop} {W : World} (hgd : o.guard = none) (s x : Operand) (t : TypeId)
    (ho : o.op = .call { callee := .builtin .append, args := #[s, x], argTypes := #[t, t] })
    (base : Nat) (e te : TypeId) (i : TypeInfo) (z : Value) (size bytes : Nat) (ht : P.underlying t = some (.slice e)) (hi : P.info? e = some i) (hz : i.zero = some z)
    (hsize : i.size = size) (hby : i.bytes = bytes) (hzs : z.cells.size = size) (hsz : 0 < size)
    (v : Value) (n : Nat) (xs : List Value) (hs : a.eval s = v) (hown : W.ownsRow base e size v n xs)
    (cs : List Value) (hx : a.eval x = .slice (some ⟨W.heap.size, 0, none⟩) 1 1) (hl : cs.length = size) (h1 : ∀ u ∈ cs, u.oneCell' = true)
    (h63 : n + 1 ≤ 1000000000) (hb : bytes ≤ 100) (hbase : base ≤ W.heap.size)
    (h : ∀ g cap w', w'.ownsRow base e size (.slice (some ⟨g, 0, none⟩) (n + 1) cap) (n + 1) (xs ++ cs) → (W.alloc (.cells cs.toArray te)).grownBy w' v.ownBlock → (v.ownBlock = some g ∨ g = W.heap.size + 1) → K (a.put o.dst (.slice (some ⟨g, 0, none⟩) (n + 1) cap)) w') :
    if Region.wanted o (yielded ops a.tmps) = true then Oper.wp P o a (W.alloc (.cells cs.toArray te)).drew K Q else E := by
  refine step_append_lies _ hgd s x t ho base e i z size bytes ht hi hz hsize hby hzs hsz v n xs hs ((hown.alloc _).kept (w' := (W.alloc (.cells cs.toArray te)).drew) (row := none) ⟨rfl, rfl, rfl, Nat.le_refl _, fun _ _ _ => rfl⟩ (by cases v.ownBlock <;> simp)) ⟨W.heap.size, 0, none⟩ 1 1 cs hx (by simp [hl]) (fun j u hj => ?_) h1 (by omega) (by simp only [maxLen]; omega) ?_ (by simp; omega) (W.heap.size + 1) (by simp) ?_
  · rw [show (⟨W.heap.size, 0, none⟩ : Addr).add j = ⟨W.heap.size, j, none⟩ by unfold Addr.add; split <;> simp_all]
    rw [World.cell?_drew, World.cell?_alloc_new]; simpa using hj
  · calc (n + 1) * bytes ≤ 1000000000 * 100 := Nat.mul_le_mul h63 hb
      _ ≤ _ := by omega
  · intro g cap w' g1 g2 g3 _
    exact h g cap w' g1 ⟨g2.os, g2.tape, g2.output, g2.size, g2.block⟩ g3
/-- The same, behind a call that made memory. -/
theorem step1n {P : Program} {ops : Array Oper} {o : Oper} {a : Act} {K : Act → World → Prop} {Q : Exit → Act → World → Prop} {E : Prop} {W : World} (hgd : o.guard = none) (s x : Operand) (t : TypeId)
    (ho : o.op = .call { callee := .builtin .append, args := #[s, x], argTypes := #[t, t] })
    (base : Nat) (e te : TypeId) (i : TypeInfo) (z : Value) (size bytes : Nat) (ht : P.underlying t = some (.slice e)) (hi : P.info? e = some i) (hz : i.zero = some z)
    (hsize : i.size = size) (hby : i.bytes = bytes) (hzs : z.cells.size = size) (hsz : 0 < size)
    (v : Value) (n : Nat) (xs : List Value) (hs : a.eval s = v) (hown : W.ownsRow base e size v n xs)
    (cs : List Value) (hx : a.eval x = .slice (some ⟨W.heap.size, 0, none⟩) 1 1) (hl : cs.length = size) (h1 : ∀ u ∈ cs, u.oneCell' = true)
    (h63 : n + 1 ≤ 1000000000) (hb : bytes ≤ 100) (hbase : base ≤ W.heap.size)
    (h : ∀ g cap w', w'.ownsRow base e size (.slice (some ⟨g, 0, none⟩) (n + 1) cap) (n + 1) (xs ++ cs) → (W.alloc (.cells cs.toArray te)).grownBy w' v.ownBlock → (v.ownBlock = some g ∨ g = W.heap.size + 1) → K (a.put o.dst (.slice (some ⟨g, 0, none⟩) (n + 1) cap)) w') :
    if Region.wanted o (yielded ops a.tmps) = true then Oper.wp P o a (W.alloc (.cells cs.toArray te)) K Q else E := by
  refine step_append_lies _ hgd s x t ho base e i z size bytes ht hi hz hsize hby hzs hsz v n xs hs (hown.alloc _) ⟨W.heap.size, 0, none⟩ 1 1 cs hx (by simp [hl]) (fun j u hj => ?_) h1 (by omega) (by simp only [maxLen]; omega) ?_ (by simp; omega) (W.heap.size + 1) (by simp) ?_
  · rw [show (⟨W.heap.size, 0, none⟩ : Addr).add j = ⟨W.heap.size, j, none⟩ by unfold Addr.add; split <;> simp_all]
    rw [World.cell?_alloc_new]; simpa using hj
  · calc (n + 1) * bytes ≤ 1000000000 * 100 := Nat.mul_le_mul h63 hb
      _ ≤ _ := by omega
  · intro g cap w' g1 g2 g3 _
    exact h g cap w' g1 g2 g3
theorem ne_swap {a b : Option Nat} (h : a = none ∨ a ≠ b) : b = none ∨ b ≠ a := by
  rcases h with e | e
  · rw [e]; cases b <;> simp
  · exact .inr (Ne.symm e)
theorem own_slice {w : World} {base n : Nat} {e : TypeId} {size : Nat} {v : Value} {xs : List Value} (h : w.ownsRow base e size v n xs) : ∃ A c, v = .slice A n c := by
  rcases h.2 with ⟨rfl, rfl⟩ | ⟨g, cap, cur, rfl, _⟩
  · exact ⟨none, 0, rfl⟩
  · exact ⟨_, cap, rfl⟩
theorem addr_add0 (A : Option Addr) (c : Nat) : (if c = 0 then A else A.map (fun x => x.add 0)) = A := by cases A <;> simp [Addr.add]
/-- s[:k], whatever s is. -/
theorem run_cut {P : Program} {t e : TypeId} {i : TypeInfo} (ht : P.underlying t = some (.slice e)) (hi : P.info? e = some i) (A : Option Addr) (n c k : Nat) (h : k ≤ c) (w : World) :
    (Instr.slice t (.slice A n c) none (some (.int .i64 (k : Int))) none).run P w = .ok (.slice A k c) w := by
  have hs : (P.elem t) = e := by simp [Program.elem, ht]
  rw [run_slice_h (P := P) (t := t) (ht := by rw [hs]; exact ht) (h0 := by omega) (h2 := by omega)]
  simp [hs, sizeOf, typeInfo, hi, Result.andThen, sliced, Int.toNat_natCast]
  cases A <;> simp [Addr.add]
theorem own_below {w w1 : World} {base : Nat} {e : TypeId} {size n : Nat} {v : Value} {xs : List Value} (h : w.ownsRow base e size v n xs) (hb : Below w.heap.size w w1) : w1.ownsRow base e size v n xs :=
  h.kept (row := none) ⟨hb.os, hb.tape, hb.output, hb.size, fun k hk _ => hb.block k hk⟩ (by cases v.ownBlock <;> simp)
theorem row_blk {w : World} {b n : Nat} {cs : Array Value} {e : TypeId} {fr : Nat × Nat} (h : w.heap[b]? = some (.cells cs e fr)) (hm : n ≤ maxLen) : Row w (.slice (some ⟨b, 0, none⟩) n n) n cs.toList :=
  ⟨_, n, rfl, Nat.le_refl _, hm, fun _ => ⟨b, 0, rfl, fun j u hu => by rw [cell_of_row w b _ cs e fr h, Nat.zero_add]; simpa using hu⟩⟩
theorem grown_trans {w w1 w2 : World} {r r1 : Option Nat} (h1 : w.grownBy w1 r) (h2 : w1.grownBy w2 r1) (hr : r1 = r ∨ ∀ k, r1 = some k → w.heap.size ≤ k) : w.grownBy w2 r := by
  refine ⟨h2.os.trans h1.os, h2.tape.trans h1.tape, h2.output.trans h1.output, Nat.le_trans h1.size h2.size, fun k hk hne => ?_⟩
  rw [h2.block k (Nat.lt_of_lt_of_le hk h1.size) ?_, h1.block k hk hne]
  intro e
  rcases hr with h | h
  · exact hne (e.trans h)
  · have := h k e.symm; omega
theorem grown_alloc {w w1 : World} {r : Option Nat} (h1 : w.grownBy w1 r) (o : Obj) : w.grownBy (w1.alloc o) r :=
  ⟨h1.os, h1.tape, h1.output, by have := h1.size; simp; omega, fun k hk hne => (heap_alloc_old _ _ (Nat.lt_of_lt_of_le hk h1.size)).trans (h1.block k hk hne)⟩
theorem grown_below {w w1 : World} (h : Below w.heap.size w w1) (r : Option Nat) : w.grownBy w1 r := ⟨h.os, h.tape, h.output, h.size, fun k hk _ => h.block k hk⟩
theorem below_grown {w w0 w1 : World} {B bb : Nat} (h : Below B w w0) (hg : w0.grownBy w1 (some bb)) (hB : B ≤ w0.heap.size) (hb : B ≤ bb) : Below B w w1 := h.grown hg hB (fun k hk => by cases hk; exact hb)
theorem gcell {w0 wr : World} {bb : Nat} (hg : w0.grownBy wr (some bb)) {a : Addr} {v : Value} (h : w0.cell? a = some v) (hne : a.block ≠ bb) : wr.cell? a = some v := hg.cell h (by simpa using hne)
theorem unfrozen {w : World} {b o : Nat} {cs : Array Value} {t : TypeId} (h : w.heap[b]? = some (.cells cs t (0, 0))) : w.frozen? ⟨b, o, none⟩ = false := by simp [World.frozen?, h]
/-- A block that is not the row that was appended to. -/
theorem blk_far {wr w1 : World} {o ob : Obj} {b : Nat} {row : Option Nat} (h : wr.heap[b]? = some ob) (hg : (wr.alloc o).grownBy w1 row) (hne : row ≠ some b) : w1.heap[b]? = some ob := by
  have hlt := heap_lt h
  rw [hg.block b (by simp; omega) (fun e => hne e.symm), heap_alloc_old _ _ hlt]; exact h
end Go.Proofs.Ytibejcomfjddfaa.B
end
section
set_option maxHeartbeats 8000000
set_option linter.unusedVariables false
set_option linter.unusedSimpArgs false

/- How an argument's reading opens into the words of Base; the end of a row's proof where nothing old has changed. -/
namespace Go.Proofs.Ytibejcomfjddfaa.B
open Go Go.RowKit Go.WideShapes Go.ChangeShapes Go.Deep

section
variable {H : Type} {enc : TypeId × Value → H} {P : Program}
/-- The cells read as data of the type t. -/
def Rd (enc : TypeId × Value → H) (P : Program) (w : World) (t : TypeId) (cs : List Value) : Prop := ∃ fuel x, DataW.trod enc P w 0 (fun _ => true) true fuel t cs = some x
theorem Rd.of {w : World} {t : TypeId} {v : Value} {d : DataW H} {ps : List MemPlace} (h : DataW.Trod enc P w 0 (fun _ => true) true t v d ps) : Rd enc P w t v.cells.toList := by
  obtain ⟨m, hm⟩ := h
  exact ⟨m, _, hm⟩
theorem Rd.int {w : World} {t : TypeId} {k : IntKind} {cs : List Value} (h : Rd enc P w t cs) (ht : P.underlying t = some (.int k)) : ∃ n, cs = [.int k n] ∧ (Lit.int k n).wf = true := by
  obtain ⟨m, x, hm⟩ := h
  obtain ⟨n, h1, _, h2⟩ := DataW.trod_int ht hm
  exact ⟨n, h1, h2⟩
theorem Rd.bool {w : World} {t : TypeId} {cs : List Value} (h : Rd enc P w t cs) (ht : P.underlying t = some .bool) : ∃ b, cs = [.bool b] := by
  obtain ⟨m, x, hm⟩ := h
  obtain ⟨n, h1, _⟩ := DataW.trod_bool ht hm
  exact ⟨n, h1⟩
theorem Rd.struct1 {w : World} {t : TypeId} {f0 : Field} {cs : List Value} (h : Rd enc P w t cs) (ht : P.underlying t = some (.struct #[f0])) : cs.length = P.cellsOf t ∧ Rd enc P w f0.type ((cs.drop f0.offset).take (P.cellsOf f0.type)) := by
  obtain ⟨m, x, hm⟩ := h
  obtain ⟨y0, n, _, hl, h0⟩ := trod_struct1 ht hm
  exact ⟨hl, ⟨n, _, h0⟩⟩
theorem Rd.struct2 {w : World} {t : TypeId} {f0 f1 : Field} {cs : List Value} (h : Rd enc P w t cs) (ht : P.underlying t = some (.struct #[f0, f1])) :
    cs.length = P.cellsOf t ∧ Rd enc P w f0.type ((cs.drop f0.offset).take (P.cellsOf f0.type)) ∧ Rd enc P w f1.type ((cs.drop f1.offset).take (P.cellsOf f1.type)) := by
  obtain ⟨m, x, hm⟩ := h
  obtain ⟨y0, y1, n, _, hl, h0, h1⟩ := trod_struct2 ht hm
  exact ⟨hl, ⟨n, _, h0⟩, ⟨n, _, h1⟩⟩
theorem mapM_some {α β : Type} (f : α → Option β) : ∀ (l : List α) (r : List β), l.mapM f = some r → r.length = l.length ∧ ∀ i (h : i < l.length), ∃ y, r[i]? = some y ∧ f l[i] = some y
  | [], r, h => by simp at h; subst h; exact ⟨rfl, fun i h => by simp at h⟩
  | a :: l, r, h => by
    rw [List.mapM_cons] at h
    cases ha : f a with
    | none => simp [ha] at h
    | some y =>
      cases hl : l.mapM f with
      | none => simp [ha, hl] at h
      | some s =>
        simp [ha, hl] at h
        subst h
        obtain ⟨h1, h2⟩ := mapM_some f l s hl
        refine ⟨by simp [h1], fun i hi => ?_⟩
        cases i with
        | zero => exact ⟨y, rfl, ha⟩
        | succ i => simpa using h2 i (by simpa using hi)
/-- Cells in a row that are read: each one is there. -/
theorem cells_some {w : World} {a : Addr} {n : Nat} {cs : List Value} (h : w.cells? 0 a n = some cs) : cs.length = n ∧ ∀ i, i < n → ∃ u, cs[i]? = some u ∧ w.cell? (a.add i) = some u := by
  unfold World.cells? at h
  rw [if_pos (Nat.zero_le _)] at h
  obtain ⟨h1, h2⟩ := mapM_some _ _ _ h
  refine ⟨by simpa using h1, fun i hi => ?_⟩
  obtain ⟨y, hy, hc⟩ := h2 i (by simpa using hi)
  exact ⟨y, hy, by simpa using hc⟩
theorem sum_const {α : Type} (k : Nat) (l : List α) : (l.map fun _ => k).sum = l.length * k := by
  induction l with
  | nil => simp
  | cons a l ih => rw [List.map_cons, List.sum_cons, ih, List.length_cons, Nat.add_mul]; omega
theorem spot_none {w : World} {a : Addr} {u : Value} (h : w.cell? a = some u) : a.spot = none := by
  unfold World.cell? at h
  split at h
  · cases hs : a.spot with
    | none => rfl
    | some s => simp [hs] at h
  · cases h
theorem add_none (g o i : Nat) : (⟨g, o, none⟩ : Addr).add i = ⟨g, o + i, none⟩ := by unfold Addr.add; split <;> simp_all
/-- A slice whose elements take k cells each: the row of all its cells, and each element's own reading. -/
theorem Rd.slice {w : World} {t e : TypeId} {cs : List Value} {k : Nat} (h : Rd enc P w t cs) (ht : P.underlying t = some (.slice e)) (hk : P.cellsOf e = k) (hk0 : 0 < k) :
    ∃ v n, ∃ es : List (List Value), cs = [v] ∧ es.length = n ∧ Row w v n es.flatten ∧ ∀ i (h : i < es.length), es[i].length = k ∧ Rd enc P w e es[i] := by
  obtain ⟨m, x, hm⟩ := h
  rcases open_slice ht hm with ⟨rfl, _⟩ | ⟨a, len, cap, mm, n, D, Pl, rfl, hb, hl, hm', hmm, rfl, hx⟩
  · exact ⟨_, 0, [], rfl, rfl, ⟨none, 0, rfl, Nat.le_refl _, Nat.zero_le _, fun h => absurd h (Nat.lt_irrefl 0)⟩, fun i h => by simp at h⟩
  · simp at hmm
    obtain rfl : mm = cap := hmm
    rw [hk] at hx
    have hx' : ∀ i, ∃ cs', i < len → w.cells? 0 (a.add (i * k)) k = some cs' ∧ DataW.trod enc P w 0 (fun _ => true) true n e cs' = some (D i, Pl i) := fun i => by
      by_cases hi : i < len
      · obtain ⟨c, hc⟩ := hx i (by omega); exact ⟨c, fun _ => hc⟩
      · exact ⟨[], fun h => absurd h hi⟩
    obtain ⟨f, hf⟩ := Classical.axiomOfChoice hx'
    have hlen : ∀ i, i < len → (f i).length = k := fun i hi => (cells_some (hf i hi).1).1
    refine ⟨_, len, (List.range len).map f, rfl, by simp, ⟨some a, mm, rfl, hl, hm', fun hn => ?_⟩, fun i hi => ?_⟩
    · have h0 := (cells_some (hf 0 hn).1).2 0 hk0
      obtain ⟨u0, _, hu0⟩ := h0
      have hs := spot_none hu0
      obtain ⟨g, o, sp⟩ := a
      have hs : sp = none := by simpa [Addr.add] using hs
      subst hs
      refine ⟨g, o, rfl, fun j u hj => ?_⟩
      have hfl : ∀ (len : Nat), (∀ i, i < len → (f i).length = k) → ∀ j u, ((List.range len).map f).flatten[j]? = some u → j / k < len ∧ (f (j / k))[j % k]? = some u := by
        intro len
        induction len with
        | zero => intro _ j u h; simp at h
        | succ len ih =>
          intro hL j u h
          have hfl : ((List.range len).map f).flatten.length = len * k := by
            rw [List.length_flatten, List.map_map, show (List.range len).map (List.length ∘ f) = (List.range len).map (fun _ => k) from List.map_congr_left fun x hx => hL x (by simp at hx; omega), sum_const, List.length_range]
          rw [List.range_succ, List.map_append, List.flatten_append, List.getElem?_append] at h
          split at h
          · obtain ⟨h1, h2⟩ := ih (fun i hi => hL i (by omega)) j u h
            exact ⟨by omega, h2⟩
          · rename_i hge
            rw [hfl] at hge h
            simp at h
            have hlt : j - len * k < k := by
              have := (List.getElem?_eq_some_iff.1 h).1
              rw [hL len (by omega)] at this
              exact this
            have e1 : j / k = len := by
              rw [Nat.div_eq_iff hk0]
              constructor
              · omega
              · have : (len + 1) * k = len * k + k := by rw [Nat.add_mul]; omega
                omega
            have e2 : j % k = j - len * k := by
              have := Nat.div_add_mod j k
              rw [e1, Nat.mul_comm] at this
              omega
            rw [e1, e2]
            exact ⟨by omega, h⟩
      obtain ⟨h1, h2⟩ := hfl len hlen j u hj
      obtain ⟨y, hy, hc⟩ := (cells_some (hf (j / k) h1).1).2 (j % k) (Nat.mod_lt _ hk0)
      rw [add_none, add_none] at hc
      rw [h2] at hy
      cases hy
      rw [← hc]
      have := Nat.div_add_mod j k
      rw [Nat.mul_comm] at this
      rw [show o + j = o + j / k * k + j % k by omega]
    · simp only [List.length_map, List.length_range] at hi
      simp only [List.getElem_map, List.getElem_range]
      exact ⟨hlen i hi, ⟨n, _, (hf i hi).2⟩⟩
/-- A slice whose elements take one cell each. -/
theorem Rd.slice1 {w : World} {t e : TypeId} {A : Option Addr} {n c : Nat} (h : Rd enc P w t [.slice A n c]) (ht : P.underlying t = some (.slice e)) (hk : P.cellsOf e = 1) :
    n ≤ c ∧ c ≤ maxLen ∧ (0 < n → ∃ g o, A = some ⟨g, o, none⟩ ∧ g < w.heap.size) ∧ ∃ f : Nat → Value, ∀ i, i < n → (∀ g o, A = some ⟨g, o, none⟩ → w.cell? ⟨g, o + i, none⟩ = some (f i)) ∧ Rd enc P w e [f i] := by
  obtain ⟨m, x, hm⟩ := h
  rcases open_slice1 ht hk hm with ⟨h0, _⟩ | ⟨a, len, cap, mm, n', V, D, Pl, h0, hb, hl, hm', hmm, rfl, hx⟩
  · simp at h0
    obtain ⟨rfl, rfl, rfl⟩ := h0
    exact ⟨Nat.le_refl _, Nat.zero_le _, fun h => absurd h (Nat.lt_irrefl 0), fun _ => undef, fun i hi => absurd hi (Nat.not_lt_zero _)⟩
  · simp at h0
    obtain ⟨rfl, rfl, rfl⟩ := h0
    simp at hmm
    refine ⟨hl, hm', fun hn => ?_, V, fun i hi => ⟨fun g o e => ?_, ⟨n', _, (hx i (by omega)).2⟩⟩⟩
    · have h0 := (hx 0 (by omega)).1
      have hs := spot_none h0
      obtain ⟨g, o, sp⟩ := a
      have hs : sp = none := by simpa [Addr.add] using hs
      subst hs
      exact ⟨g, o, rfl, World.block_lt_of_cell? w _ h0⟩
    · cases e
      have h0 := (hx i (by omega)).1
      rw [add_none] at h0
      exact h0
theorem post_of_below {f : Func} {s : ChangeSpec} {apart fresh handsOn again : Bool} {W W' : World} {args : Array Value} {v : Value} {ds gs : List (DataW H)} {before pa pv : List MemPlace}
    (hW : DataW.Whole enc P f.params.toList s.vars apart W args.toList ds gs before)
    (hres : ∀ (b : Nat) (sp : Nat → Bool) (hd : Bool), DataW.TrodAll enc P W' b sp hd f.resultTypes.toList (v.resultList f.resultTypes.size) (s.fn H (ds ++ gs)).results [])
    (hargs : ∀ sp : Nat → Bool, (∀ p ∈ before, sp p.block = true) → DataW.TrodAll enc P W' 0 sp true f.params.toList args.toList (s.fn H (ds ++ gs)).args pa)
    (hvars : ∀ sp : Nat → Bool, (∀ p ∈ before, sp p.block = true) → DataW.TrodVars enc P W' sp s.vars (s.fn H (ds ++ gs)).vars pv)
    (hps : before = pa ++ pv) (hb : Below W.heap.size W W')
    (hok : ∀ (j : Nat) (t : TypeId) (r : Value), f.resultTypes[j]? = some t → (v.resultList f.resultTypes.size)[j]? = some r → Value.okWide P W' .any 0 t r) :
    s.post enc P f apart fresh handsOn again W args v W' := by
  have hlt : ∀ p ∈ before, p.block < W.heap.size := fun p hp => hW.lt p hp
  have hold : ∀ p ∈ before, (fun b => decide (b < W.heap.size)) p.block = true := fun p hp => by simpa using hlt p hp
  refine ⟨ds, gs, before, [], pa, pv, hW, hres _ _ _, hargs _ hold, hvars _ hold, World.keptBut_mono (fun p hp => ⟨hp, ?_⟩) (hb.frame (· ∈ before)), fun _ => ?_⟩
  · rw [hps, List.mem_append] at hp
    exact Or.inr hp
  · obtain ⟨_, _, _, _, _, hz, hn⟩ := hW
    refine ⟨hok, _, _, ([] ++ pa) ++ pv, ⟨[] ++ pa, pv, trodAll_append (hargs _ (fun _ _ => rfl)) (hres _ _ _), hvars _ (fun _ _ => rfl), rfl, ?_, ?_⟩, ?_⟩
    · intro b off hp
      have hin : MemPlace.cell b off ∈ before := by rw [hps]; simpa using hp
      rw [hb.frozen (hlt _ hin)]
      exact hz b off hin
    · intro ha
      have := hn ha
      rw [hps] at this
      simpa using this
    · intro p hp _
      rw [hps]
      simpa using hp
/-- An argument reads behind the call as it read ahead of it. -/
theorem trod_again {t : TypeId} (hl : laidOutB P = true) (hr : P.readableRec t = true) (hrow : t < P.types.size) {W W' : World} {v : Value} {d : DataW H} {ps : List MemPlace}
    (h : DataW.Trod enc P W 0 (fun _ => true) true t v d ps) (hb : Below W.heap.size W W') (hlt : ∀ x ∈ ps, x.block < W.heap.size) (sp : Nat → Bool) (hs : ∀ p ∈ ps, sp p.block = true) :
    DataW.Trod enc P W' 0 sp true t v d ps :=
  WideElems.Trod_stays hl hr hrow h (fun x hx => hb.same (hlt x hx)) hs
end
end Go.Proofs.Ytibejcomfjddfaa.B
end
section
set_option maxHeartbeats 8000000
set_option linter.unusedVariables false
set_option linter.unusedSimpArgs false

/- What a law's arguments are for the machine of values: of whatever law. -/
namespace Go.Proofs.Ytibejcomfjddfaa.VM
open Go Go.Proofs Go.RowKit Go.WideShapes Go.ChangeShapes Go.Deep AM B
section
variable {H : Type} {enc : TypeId × Value → H} {P : Program} {w : World}
theorem rd_nil {t e : TypeId} {cs : List Value} (h : Rd enc P w t cs) (ht : P.underlying t = some (.slice e)) : ∃ v, cs = [v] ∧ (v = .slice none 0 0 ∨ ∃ a n c, v = .slice (some a) n c) := by
  obtain ⟨m, x, hm⟩ := h
  rcases open_slice ht hm with ⟨rfl, _⟩ | ⟨a, len, cap, mm, n, D, Pl, rfl, _⟩
  · exact ⟨_, rfl, .inl rfl⟩
  · exact ⟨_, rfl, .inr ⟨_, _, _, rfl⟩⟩
theorem rd_sliceV {t e : TypeId} {cs : List Value} {k : Nat} (Good : List V → Prop) (h : Rd enc P w t cs) (ht : P.underlying t = some (.slice e)) (hk : P.cellsOf e = k) (hk0 : 0 < k) (hk1 : k ≤ 1048576)
    (f : ∀ es, es.length = k → Rd enc P w e es → ∃ row : List V, row.length = k ∧ CellsV w row es ∧ Good row) : ∃ v kk rows, cs = [v] ∧ CellV w (.fsl kk k rows) v ∧ rows.length ≤ maxLen ∧ ∀ r ∈ rows, Good r := by
  obtain ⟨v0, hv0, hnil⟩ := rd_nil h ht
  obtain ⟨v, n, es, h1, h2, ⟨A, c, h3, h4, h5, h6⟩, h7⟩ := h.slice ht hk hk0
  have hvv : v0 = v := by rw [hv0] at h1; cases h1; rfl
  subst hvv
  have rows : ∀ es : List (List Value), (∀ i (h : i < es.length), es[i].length = k ∧ Rd enc P w e es[i]) → ∃ rows : List (List V), RowsV w k rows es.flatten ∧ rows.length = es.length ∧ ∀ r ∈ rows, Good r := by
    intro es
    induction es with
    | nil => exact fun _ => ⟨[], rfl, rfl, fun r hr => by simp at hr⟩
    | cons a es ih =>
      intro h
      obtain ⟨rows, r1, r2, r3⟩ := ih fun i hi => h (i + 1) (by simpa using hi)
      obtain ⟨row, q1, q2, q3⟩ := f a (h 0 (by simp)).1 (h 0 (by simp)).2
      refine ⟨row :: rows, ⟨a, es.flatten, by simp, q1, q2, r1⟩, by simp [r2], fun r hr => ?_⟩
      rcases List.mem_cons.1 hr with rfl | hr
      · exact q3
      · exact r3 r hr
  obtain ⟨rows, r1, r2, r3⟩ := rows es h7
  obtain ⟨kk, hc⟩ := CellV.slice (A := A) (n := n) (c := c) hk0 hk1 (fun hA => by
    rcases hnil with hq | ⟨a, n', c', hq⟩
    · rw [h3] at hq; cases hq; exact ⟨rfl, rfl⟩
    · rw [h3, hA] at hq; cases hq) h4 h5 (by omega) r1 h6
  exact ⟨v0, kk, rows, h1, by rw [h3]; exact hc, by omega, r3⟩
theorem rd_two {t : TypeId} {f0 f1 : Field} {cs : List Value} (h : Rd enc P w t cs) (ht : P.underlying t = some (.struct #[f0, f1])) {a b : Nat} (o0 : f0.offset = 0) (c0 : P.cellsOf f0.type = a) (o1 : f1.offset = a) (c1 : P.cellsOf f1.type = b) (hc : P.cellsOf t = a + b) :
    ∃ x y, cs = x ++ y ∧ x.length = a ∧ y.length = b ∧ Rd enc P w f0.type x ∧ Rd enc P w f1.type y := by
  obtain ⟨hl, h0, h1⟩ := h.struct2 ht
  rw [o0, c0, List.drop_zero] at h0
  rw [o1, c1] at h1
  have e1 : (cs.drop a).take b = cs.drop a := List.take_of_length_le (by simp; omega)
  rw [e1] at h1
  exact ⟨cs.take a, cs.drop a, (List.take_append_drop a cs).symm, by simp; omega, by simp; omega, h0, h1⟩
end
end Go.Proofs.Ytibejcomfjddfaa.VM
end
section
set_option maxHeartbeats 8000000
set_option linter.unusedVariables false
set_option linter.unusedSimpArgs false

/- Numbers as bytes, seven bits a byte: plain. -/
namespace Go.Proofs.Ytibejcomfjddfaa
open B
def vencF : Nat → Nat → List Int
  | 0, _ => []
  | k + 1, n => if n < 128 then [(n : Int)] else ((n % 128 + 128 : Nat) : Int) :: vencF k (n / 128)
/-- A number's bytes. -/
def venc (n : Nat) : List Int := vencF 10 n
theorem vencF_more : ∀ (k n : Nat), n < 128 ^ k → 0 < k → vencF (k + 1) n = vencF k n := by
  intro k
  induction k with
  | zero => intro n _ h; omega
  | succ k ih =>
    intro n hn _
    by_cases h : n < 128
    · simp [vencF, h]
    · have e1 : ∀ j, vencF (j + 1) n = ((n % 128 + 128 : Nat) : Int) :: vencF j (n / 128) := fun j => by rw [vencF, if_neg h]
      rw [e1, e1]
      congr 1
      rcases Nat.eq_zero_or_pos k with h0 | h0
      · subst h0; omega
      · exact ih (n / 128) (by rw [Nat.pow_succ] at hn; omega) h0
theorem venc_lt (n : Nat) (h : n < 128) : venc n = [(n : Int)] := by simp [venc, vencF, h]
theorem venc_ge (n : Nat) (h : 128 ≤ n) (h2 : n < 18446744073709551616) : venc n = ((n % 128 + 128 : Nat) : Int) :: venc (n / 128) := by
  have e : vencF 10 n = ((n % 128 + 128 : Nat) : Int) :: vencF 9 (n / 128) := by rw [vencF, if_neg (by omega)]
  unfold venc
  rw [e, vencF_more 9 (n / 128) (by omega) (by omega)]
theorem vencF_length : ∀ k n, (vencF k n).length ≤ k := by
  intro k
  induction k with
  | zero => intro n; simp [vencF]
  | succ k ih => intro n; unfold vencF; split <;> simp [ih]
theorem venc_length (n : Nat) : (venc n).length ≤ 10 := vencF_length 10 n
theorem venc_pos (n : Nat) : 0 < (venc n).length := by unfold venc vencF; split <;> simp
theorem vencF_byte : ∀ k n x, x ∈ vencF k n → 0 ≤ x ∧ x ≤ 255 := by
  intro k
  induction k with
  | zero => intro n x h; simp [vencF] at h
  | succ k ih =>
    intro n x h
    unfold vencF at h
    split at h
    · simp at h; omega
    · rcases List.mem_cons.1 h with rfl | h
      · omega
      · exact ih _ x h
theorem venc_byte (n : Nat) (x : Int) (h : x ∈ venc n) : 0 ≤ x ∧ x ≤ 255 := vencF_byte 10 n x h
/-- Numbers' bytes, one behind the other. -/
def vencs (l : List Int) : List Int := l.flatMap fun n => venc n.toNat
theorem vencs_append (a b : List Int) : vencs (a ++ b) = vencs a ++ vencs b := by simp [vencs]
theorem vencs_length (l : List Int) : (vencs l).length ≤ 10 * l.length := by
  induction l with
  | nil => simp [vencs]
  | cons a l ih =>
    have := venc_length a.toNat
    simp only [vencs, List.flatMap_cons, List.length_append, List.length_cons] at *
    omega
theorem vencs_pos (l : List Int) : l.length ≤ (vencs l).length := by
  induction l with
  | nil => simp [vencs]
  | cons a l ih =>
    have := venc_pos a.toNat
    simp only [vencs, List.flatMap_cons, List.length_append, List.length_cons] at *
    omega
end Go.Proofs.Ytibejcomfjddfaa
end
section
set_option maxHeartbeats 8000000
set_option linter.unusedVariables false
set_option linter.unusedSimpArgs false

/- varint: put and Put. -/
namespace Go.Proofs.Ytibejcomfjddfaa.VM
open Go Go.Proofs AM
/-- A byte, in a row. -/
def bc (b : Int) : List V := [.lit (.int .u8 b)]
/-- A slice of bytes; of whole numbers. -/
def BS (k : Bool) (l : List Int) : V := .fsl k 1 (l.map bc)
def ic (n : Int) : List V := [i6 n]
def IS (k : Bool) (l : List Int) : V := .fsl k 1 (l.map ic)
attribute [simp] BS bc IS ic
set_option maxRecDepth 100000
theorem bits_or (r : Nat) (h : r < 256) : bits BinOp.or IntKind.u8 (r : Int) 128 = ((r % 128 + 128 : Nat) : Int) := by
  have : ∀ r : Fin 256, bits BinOp.or IntKind.u8 ((r : Nat) : Int) 128 = (((r : Nat) % 128 + 128 : Nat) : Int) := by decide +kernel
  exact this ⟨r, h⟩
theorem bits_or' (q : Nat) : bits BinOp.or IntKind.u8 ((q : Int) % 256) 128 = ((q % 128 + 128 : Nat) : Int) := by
  have := bits_or (q % 256) (by omega)
  rw [show ((q % 256 : Nat) : Int) = (q : Int) % 256 by omega] at this
  rw [this]
  congr 1
  omega
theorem v_put {H : Hp} {g w : Nat} {rows : List (List V)} {t : Bool} {n : Nat} (hg : H[g]? = some (.vec w rows 1 true t)) (hp : PureR rows) (hl : rows.length ≤ 1000000) (hn : n < 18446744073709551616) :
    VC Try.prog prims 49 [.own g w, .lit (.int .u64 n)] H fun u T => ∃ w', u = .own g w' ∧ T = H.set g (.vec w' (rows ++ (venc n).map bc) 1 true t) := by
  refine v_enter hC [] (fun _ _ => kn_none rfl) Try.func49 rfl ok49 (Nat.le_of_ble_eq_true rfl) fun hcl hbl => ?_
  simp
  refine v_loopX hC (fun (X : Nat × List Int) e T => ∃ w', T = H.set g (.vec w' (rows ++ X.2.map bc) 1 true t) ∧ e 0 = .own g w' ∧ e 1 = .lit (.int .u64 X.1) ∧ X.1 < 18446744073709551616 ∧ venc n = X.2 ++ venc X.1 ∧ X.2.length ≤ 10) (fun X => X.1) (n, []) (G.refl ?_) ?_
  · refine ⟨w, ?_, by simp, by simp, hn, by simp, by simp⟩
    rw [List.map_nil, List.append_nil]
    exact (set_self hg).symm
  · rintro ⟨m, done⟩ e T ⟨w', rfl, h0, h1, hm, hv, hd⟩
    have hgl := get_lt hg
    have hset : ∀ y, (H.set g y)[g]? = some y := fun y => List.getElem?_set_self hgl
    simp [h0, h1, hset]
    simp only at h1 hm hv hd
    have hw8 : IntKind.u8.wrap (m : Int) = (m : Int) % 256 := by simp [IntKind.wrap, IntKind.bits, IntKind.signed]
    have hlen : done.length + (venc m).length ≤ 10 := by have := venc_length n; rw [hv, List.length_append] at this; exact this
    have hpos := venc_pos m
    refine CondV.dec (fun hge => ?_) (fun hlt => ?_)
    · have hge : 128 ≤ m := by omega
      have hfd : ((m : Int)).fdiv (2 ^ min 7 IntKind.u64.bits) = ((m / 128 : Nat) : Int) := by
        rw [show min 7 IntKind.u64.bits = 7 from rfl, Int.fdiv_eq_ediv_of_nonneg _ (by decide)]; omega
      have hvm := venc_ge m hge hm
      simp [h0, h1, hset, hw8, bits_or', hfd]
      refine ⟨by omega, GH.refl ⟨(m / 128, done ++ [((m % 128 + 128 : Nat) : Int)]), ⟨w' + 1, ?_, ?_, ?_, ?_, ?_, ?_⟩, ?_⟩⟩
      · simp
      · simp
      · simp
      · simp only; omega
      · simp only; rw [hv, hvm]; simp
      · simp only [List.length_append, List.length_singleton]; omega
      · simp only; omega
    · have hlt : m < 128 := by omega
      simp [h0, h1, hset, hw8, Try.results49]
      refine ⟨by omega, GV.refl ⟨w' + 1, rfl, ?_⟩⟩
      rw [hv, venc_lt m hlt]
      simp [show (m : Int) % 256 = m by omega]
/-- Numbers' bytes, or none. -/
def putB (l : List Int) : List Int := if l.all (fun n => decide (0 ≤ n)) then vencs l else []
theorem v_Put {kk : Bool} {l : List Int} (hl : l.length ≤ 10000) (hr : ∀ n ∈ l, n < 9223372036854775808) : A 33 [IS kk l] (BS true (putB l)) := by
  intro H
  refine v_enter hC [] (fun _ _ => kn_none rfl) Try.func33 rfl ok33 (Nat.le_of_ble_eq_true rfl) fun hcl hbl => ?_
  simp
  have get : ∀ {k : Nat} (h : k < l.length), l[k]? = some l[k] := fun h => List.getElem?_eq_getElem h
  refine v_loopX hC (fun (k : Nat) e T => ∃ w t, T = H ++ [.vec w ((vencs (l.take k)).map bc) 1 true t] ∧ e 3 = .own H.length w ∧ e 6 = IS kk l ∧ e 7 = i6 l.length ∧ e 8 = i6 k ∧ k ≤ l.length ∧ ∀ n ∈ l.take k, 0 ≤ n) (fun k => l.length - k) 0 ?_ ?_
  · refine G.nilT0 (s := 1) 3 hcl (Nat.le_refl _) (by omega) (by simp) ?_
    exact ⟨0, true, by simp [vencs], by simp, by simp, by simp, by simp, by simp, by simp⟩
  · rintro k e T ⟨w, t, rfl, h3, h6, h7, h8, hk, hpos⟩
    simp [h3, h6, h7, h8]
    refine CondV.dec (fun hlt => ?_) (fun hge => ?_)
    · simp [h3, h6, h7, h8, get hlt]
      have hrk := hr l[k] (List.getElem_mem hlt)
      refine CondV.dec (fun hneg => ?_) (fun hnn => ?_)
      · have hm : putB l = [] := by
          unfold putB
          rw [if_neg]
          intro h
          have := List.all_eq_true.1 h l[k] (List.getElem_mem hlt)
          simp at this
          omega
        simp [Try.results33]
        first | (refine GV.ans hcl ?_; simp [hm]; done) | (refine GV.ans0 ?_; simp [hm]; done)
      · obtain ⟨n, hln⟩ : ∃ n : Nat, l[k] = n := ⟨l[k].toNat, by omega⟩
        have hw : IntKind.u64.wrap l[k] = (n : Int) := by simp [IntKind.wrap, IntKind.bits, IntKind.signed]; omega
        have hlen : (vencs (l.take k)).length ≤ 100000 := by
          have := vencs_length (l.take k)
          rw [List.length_take] at this
          omega
        simp [h3, hw]
        refine CALLv.at (v_put (n := n) (rows := (vencs (l.take k)).map bc) (List.getElem?_concat_length ..) (by simp) (by simp; omega) (by omega)) fun u T' hu => ?_
        obtain ⟨w2, e1, e2⟩ := hu
        subst e1; subst e2
        simp [h3, h6, h7, h8, w64 (n := (k : Int) + 1) (by omega)]
        refine GH.refl ⟨k + 1, ⟨w2, t, ?_, ?_, ?_, ?_, ?_, hlt, ?_⟩, by omega⟩ <;> (try simp [h6, h7])
        · rw [List.take_succ_eq_append_getElem hlt, vencs_append]
          simp [vencs, hln]
        · rw [List.take_succ_eq_append_getElem hlt]
          intro n hn
          rcases List.mem_append.1 hn with hn | hn
          · exact hpos n hn
          · simp at hn; subst hn; omega
    · have hm : putB l = vencs l := by
        unfold putB
        rw [if_pos]
        rw [List.all_eq_true]
        intro n hn
        rw [List.take_of_length_le (by omega)] at hpos
        simpa using hpos n hn
      have ht : l.take k = l := List.take_of_length_le (by omega)
      simp [h3, Try.results33]
      first | (refine GV.ans hcl ?_; simp [hm, ht]; done) | (refine GV.ans0 ?_; simp [hm, ht]; done)
end Go.Proofs.Ytibejcomfjddfaa.VM
end
section
set_option maxHeartbeats 8000000
set_option linter.unusedVariables false
set_option linter.unusedSimpArgs false

/- Bytes as a law's argument. -/
namespace Go.Proofs.Ytibejcomfjddfaa.VM
open Go Go.Proofs Go.RowKit AM B
theorem rows_bc : ∀ {rows : List (List V)}, (∀ r ∈ rows, ∃ x : Int, (0 ≤ x ∧ x ≤ 255) ∧ r = bc x) → ∃ l : List Int, rows = l.map bc ∧ ∀ x ∈ l, 0 ≤ x ∧ x ≤ 255
  | [], _ => ⟨[], rfl, by simp⟩
  | r :: rs, h => by
    obtain ⟨e, he1, he2⟩ := h r (by simp)
    obtain ⟨l, hl, hb⟩ := rows_bc (rows := rs) fun x hx => h x (by simp [hx])
    refine ⟨e :: l, by rw [he2, hl]; rfl, fun x hx => ?_⟩
    rcases List.mem_cons.1 hx with rfl | hx
    · exact he1
    · exact hb x hx
/-- Bytes. -/
theorem rd_bytes {H : Type} {enc : TypeId × Value → H} {w : World} {cs : List Value} (h : Rd enc Try.prog w 51 cs) : ∃ v kk, ∃ l : List Int, cs = [v] ∧ l.length < 2 ^ 63 ∧ (∀ x ∈ l, 0 ≤ x ∧ x ≤ 255) ∧ CellV w (BS kk l) v := by
  obtain ⟨v, kk, rows, e, hc, hl, hg⟩ := rd_sliceV (fun r => ∃ x : Int, (0 ≤ x ∧ x ≤ 255) ∧ r = bc x) h Try.underlying51 (by kernel_rfl : Try.prog.cellsOf 5 = 1) (by omega) (by omega) (fun es h1 h2 => by
    obtain ⟨x, rfl, hw⟩ := h2.int Try.underlying5
    refine ⟨bc x, rfl, ⟨_, _, rfl, .lit rfl, rfl⟩, x, ?_, rfl⟩
    simp [Lit.wf, IntKind.min, IntKind.max, IntKind.signed, IntKind.bits] at hw
    omega)
  obtain ⟨l, rfl, hb⟩ := rows_bc hg
  exact ⟨v, kk, l, e, by simp only [List.length_map, maxLen] at hl; omega, hb, hc⟩
theorem arg_bytes {H : Type} {enc : TypeId × Value → H} {w : World} {v : Value} (h : Rd enc Try.prog w 51 [v]) : ∃ kk, ∃ l : List Int, l.length < 2 ^ 63 ∧ (∀ x ∈ l, 0 ≤ x ∧ x ≤ 255) ∧ ArgV w (BS kk l) v := by
  obtain ⟨u, kk, l, e, h1, h2, h3⟩ := rd_bytes h
  cases e
  exact ⟨kk, l, h1, h2, h3.arg⟩
theorem rows_ic : ∀ {rows : List (List V)}, (∀ r ∈ rows, ∃ x : Int, r = ic x) → ∃ l : List Int, rows = l.map ic
  | [], _ => ⟨[], rfl⟩
  | r :: rs, h => by
    obtain ⟨e, he⟩ := h r (by simp)
    obtain ⟨l, hl⟩ := rows_ic (rows := rs) fun x hx => h x (by simp [hx])
    exact ⟨e :: l, by rw [he, hl]; rfl⟩
/-- Whole numbers. -/
theorem rd_ints {H : Type} {enc : TypeId × Value → H} {w : World} {cs : List Value} (h : Rd enc Try.prog w 22 cs) : ∃ v kk, ∃ l : List Int, cs = [v] ∧ l.length < 2 ^ 63 ∧ CellV w (IS kk l) v := by
  obtain ⟨v, kk, rows, e, hc, hl, hg⟩ := rd_sliceV (fun r => ∃ x : Int, r = ic x) h Try.underlying22 (by kernel_rfl : Try.prog.cellsOf 3 = 1) (by omega) (by omega) (fun es h1 h2 => by
    obtain ⟨x, rfl, hw⟩ := h2.int Try.underlying3
    exact ⟨ic x, rfl, ⟨_, _, rfl, .lit rfl, rfl⟩, x, rfl⟩)
  obtain ⟨l, rfl⟩ := rows_ic hg
  exact ⟨v, kk, l, e, by simp only [List.length_map, maxLen] at hl; omega, hc⟩
theorem arg_ints {H : Type} {enc : TypeId × Value → H} {w : World} {v : Value} (h : Rd enc Try.prog w 22 [v]) : ∃ kk, ∃ l : List Int, l.length < 2 ^ 63 ∧ ArgV w (IS kk l) v := by
  obtain ⟨u, kk, l, e, h1, h3⟩ := rd_ints h
  cases e
  exact ⟨kk, l, h1, h3.arg⟩
end Go.Proofs.Ytibejcomfjddfaa.VM
end
section
set_option maxHeartbeats 8000000
set_option linter.unusedVariables false
set_option linter.unusedSimpArgs false

/- bytes: the document's Put, Same, bytes.Equal. -/
namespace Go.Proofs.Ytibejcomfjddfaa.VM
open Go Go.Proofs AM
set_option maxRecDepth 100000
theorem v_rPut {n : Nat} (hn : n < 18446744073709551616) : A 37 [.lit (.int .u64 n)] (BS true (venc n)) := by
  intro H
  refine v_enter hC [] (fun _ _ => kn_none rfl) Try.func37 rfl ok37 (Nat.le_of_ble_eq_true rfl) fun hcl hbl => ?_
  simp
  refine v_loopX hC (fun (X : Nat × List Int) e T => ∃ w t, T = H ++ [.vec w (X.2.map bc) 1 true t] ∧ e 0 = .lit (.int .u64 X.1) ∧ e 3 = .own H.length w ∧ X.1 < 18446744073709551616 ∧ venc n = X.2 ++ venc X.1) (fun X => X.1) (n, []) ?_ ?_
  · refine G.nilT0 (s := 1) 3 hcl (Nat.le_refl _) (by omega) (by simp) ?_
    exact ⟨0, true, by simp, by simp, by simp, hn, by simp⟩
  · rintro ⟨m, done⟩ e T ⟨w, t, rfl, h0, h3, hm, hv⟩
    simp only at h0 hm hv
    have hlen : done.length + (venc m).length ≤ 10 := by have := venc_length n; rw [hv, List.length_append] at this; exact this
    have hpos := venc_pos m
    have hw1 : IntKind.u8.wrap ((m : Int) % 128) = ((m % 128 : Nat) : Int) := by
      simp [IntKind.wrap, IntKind.bits, IntKind.signed]; omega
    have hw3 : IntKind.u8.wrap ((m : Int).tmod 128) = ((m % 128 : Nat) : Int) := by
      rw [Int.tmod_eq_emod_of_nonneg (by omega)]; exact hw1
    have hw2 : IntKind.u64.wrap ((m : Int) / 128) = ((m / 128 : Nat) : Int) := by
      simp [IntKind.wrap, IntKind.bits, IntKind.signed]; omega
    simp [h0, h3, hw1, hw2, hw3]
    refine CondV.dec (fun hz => ?_) (fun hnz => ?_)
    · have hlt : m < 128 := by omega
      have hv2 : venc n = done ++ [(m : Int)] := by rw [hv, venc_lt m hlt]
      simp [h0, h3, hw1, hw2, hw3, Try.results37]
      refine ⟨by omega, ?_⟩
      have hmm : (m : Int) % 128 = m := by omega
      rw [hmm]
      first | (refine GV.ans hcl ?_; simp [hv2]; done) | (refine GV.ans0 ?_; simp [hv2]; done)
    · have hge : 128 ≤ m := by omega
      have hvm := venc_ge m hge hm
      have hw4 : IntKind.u8.wrap ((m : Int) % 128 + 128) = ((m % 128 + 128 : Nat) : Int) := by
        simp [IntKind.wrap, IntKind.bits, IntKind.signed]; omega
      simp [h0, h3, hw1, hw2, hw3, hw4]
      refine ⟨by omega, GH.refl ⟨(m / 128, done ++ [((m % 128 + 128 : Nat) : Int)]), ⟨w + 1, t, ?_, ?_, ?_, ?_, ?_⟩, ?_⟩⟩
      · simp
      · simp
      · simp
      · simp only; omega
      · simp only; rw [hv, hvm]; simp
      · simp only; omega
theorem getL {l : List Int} {k : Nat} (h : k < l.length) : l[k]? = some l[k] := List.getElem?_eq_getElem h
theorem v_Same1 {kk km : Bool} {l m : List Int} (hl : l.length < 2 ^ 62) : A 16 [BS kk l, BS km m] (bo (decide (l = m))) := by
  intro H
  refine v_enter hC [] (fun _ _ => kn_none rfl) Try.func16 rfl ok16 (Nat.le_of_ble_eq_true rfl) fun hcl hbl => ?_
  simp
  by_cases hlen : l.length = m.length
  · simp [hlen]
    refine v_loopX hC (fun (k : Nat) e T => T = H ∧ e 0 = BS kk l ∧ e 1 = BS km m ∧ e 5 = i6 k ∧ k ≤ l.length ∧ ∀ j (h : j < k) (h1 : j < l.length) (h2 : j < m.length), l[j] = m[j]) (fun k => l.length - k) 0 (G.refl ?_) ?_
    · simp
    · rintro k e T ⟨rfl, h0, h1, h5, hk, hall⟩
      simp [h0, h1, h5]
      refine CondV.dec (fun hlt => ?_) (fun hge => ?_)
      · have hlt : k < l.length := by omega
        simp [h0, h1, h5]
        refine v_draw (ord := [0, 1, 2, 3, 4, 5, 6, 7, 8]) (m := 8) (by decide +kernel) (by decide +kernel) ?_
        simp [h0, h1, h5, getL hlt, getL (show k < m.length by omega)]
        refine CondV.on (fun hb => ?_) (fun hb => ?_)
        · have : l ≠ m := fun e => by subst e; simp at hb
          simp [Try.results16]
          first | (refine GV.ans hcl ?_; simp [this]; done) | (refine GV.ans0 ?_; simp [this]; done)
        · have hb : l[k] = m[k] := by simpa using hb
          simp [h0, h1, h5, w64 (n := (k : Int) + 1) (by omega)]
          refine GH.refl ⟨k + 1, ⟨rfl, ?_, ?_, ?_, hlt, fun j hj h1 h2 => ?_⟩, by omega⟩ <;> (try simp [h0, h1])
          by_cases hjk : j = k
          · subst hjk; exact hb
          · exact hall j (by omega) h1 h2
      · have : l = m := List.ext_getElem hlen fun j h1 h2 => hall j (by omega) h1 h2
        simp [Try.results16]
        first | (refine GV.ans hcl ?_; simp [this]; done) | (refine GV.ans0 ?_; simp [this]; done)
  · have : l ≠ m := fun e => hlen (by rw [e])
    have hlen : ¬ ((l.length : Int) = m.length) := by omega
    simp [hlen, Try.results16]
    first | (refine GV.ans hcl ?_; simp [this]; done) | (refine GV.ans0 ?_; simp [this]; done)
def u8 (x : Int) : UInt8 := UInt8.ofNat x.toNat
theorem bytesV_bc : ∀ l : List Int, bytesV (l.map bc) = some (l.map u8)
  | [] => rfl
  | x :: l => by
    have := bytesV_bc l
    simp only [List.map_cons, bc, bytesV, byteOfV] at this ⊢
    rw [bytesV_bc l]
    rfl
theorem u8_inj {x y : Int} (hx : 0 ≤ x ∧ x ≤ 255) (hy : 0 ≤ y ∧ y ≤ 255) (h : u8 x = u8 y) : x = y := by
  have := congrArg UInt8.toNat h
  simp [u8] at this
  omega
theorem map_u8 : ∀ {l m : List Int}, (∀ x ∈ l, 0 ≤ x ∧ x ≤ 255) → (∀ x ∈ m, 0 ≤ x ∧ x ≤ 255) → (l.map u8 == m.map u8) = decide (l = m)
  | [], [], _, _ => by simp
  | [], _ :: _, _, _ => by simp
  | _ :: _, [], _, _ => by simp
  | x :: l, y :: m, hl, hm => by
    have := map_u8 (l := l) (m := m) (fun z hz => hl z (by simp [hz])) (fun z hz => hm z (by simp [hz]))
    simp only [List.map_cons, List.cons_beq_cons, this]
    by_cases hxy : x = y
    · subst hxy; simp
    · have : u8 x ≠ u8 y := fun h => hxy (u8_inj (hl x (by simp)) (hm y (by simp)) h)
      simp [hxy, this]
end Go.Proofs.Ytibejcomfjddfaa.VM
end
section
set_option maxHeartbeats 8000000
set_option linter.unusedVariables false
set_option linter.unusedSimpArgs false

/- Sets of numbers as words of 64 bits: plain laws. -/
namespace Go.Proofs.Ytibejcomfjddfaa.VM
open Go Go.Proofs AM
/-- Bits as a number. -/
def ofB : List Bool → Nat
  | [] => 0
  | b :: l => b.toNat + 2 * ofB l
theorem ofB_lt : ∀ l : List Bool, ofB l < 2 ^ l.length
  | [] => by simp [ofB]
  | b :: l => by
    have := ofB_lt l
    simp only [ofB, List.length_cons, Nat.pow_succ]
    have : b.toNat ≤ 1 := Bool.toNat_le b
    omega
theorem ofB_bit : ∀ (l : List Bool) (j : Nat), (ofB l).testBit j = l.getD j false
  | [], j => by simp [ofB]
  | b :: l, 0 => by
    simp only [ofB, Nat.testBit_zero, List.getD_cons_zero]
    cases b <;> simp <;> omega
  | b :: l, j + 1 => by
    have : (ofB (b :: l)) / 2 = ofB l := by
      simp only [ofB]
      have : b.toNat ≤ 1 := Bool.toNat_le b
      omega
    rw [Nat.testBit_succ, this, ofB_bit l j, List.getD_cons_succ]
/-- Word i. -/
def wd (m : List Bool) (i : Nat) : Nat := ofB ((m.drop (64 * i)).take 64)
theorem wd_lt (m : List Bool) (i : Nat) : wd m i < 18446744073709551616 := by
  have h := ofB_lt ((m.drop (64 * i)).take 64)
  have h2 : ((m.drop (64 * i)).take 64).length ≤ 64 := by rw [List.length_take]; exact Nat.min_le_left ..
  exact Nat.lt_of_lt_of_le h (Nat.pow_le_pow_right (by omega) h2)
theorem wd_bit (m : List Bool) (i j : Nat) : (wd m i).testBit j = (decide (j < 64) && m.getD (64 * i + j) false) := by
  unfold wd
  rw [ofB_bit, List.getD_eq_getElem?_getD, List.getElem?_take]
  by_cases h : j < 64
  · simp [h, List.getElem?_drop]
  · simp [h]
def nw (n : Nat) : Nat := (n + 63) / 64
def words (m : List Bool) : List Nat := (List.range (nw m.length)).map (wd m)
theorem words_len (m : List Bool) : (words m).length = nw m.length := by simp [words]
theorem words_at (m : List Bool) {i : Nat} (h : i < nw m.length) : (words m)[i]? = some (wd m i) := by simp [words, h]
/-- A number's word and bit. -/
theorem wd_num (m : List Bool) (k : Nat) : (wd m (k / 64)).testBit (k % 64) = m.getD k false := by
  rw [wd_bit]
  have h1 : k % 64 < 64 := Nat.mod_lt _ (by omega)
  have h2 : 64 * (k / 64) + k % 64 = k := Nat.div_add_mod ..
  simp [h1, h2]
theorem wd_set (m : List Bool) (k i : Nat) (b : Bool) (hk : k < m.length) (hne : m.getD k false ≠ b) : wd (m.set k b) i = if i = k / 64 then wd m i ^^^ 2 ^ (k % 64) else wd m i := by
  apply Nat.eq_of_testBit_eq
  intro j
  have h2 : 64 * (k / 64) + k % 64 = k := Nat.div_add_mod ..
  have h1 : k % 64 < 64 := Nat.mod_lt _ (by omega)
  rw [wd_bit]
  by_cases hi : i = k / 64
  · rw [if_pos hi, Nat.testBit_xor, wd_bit, Nat.testBit_two_pow]
    subst hi
    by_cases hj : j = k % 64
    · subst hj
      rw [h2]
      simp only [h1, decide_true, Bool.true_and]
      rw [List.getD_eq_getElem?_getD, List.getElem?_set_self hk]
      revert hne
      cases m.getD k false <;> cases b <;> simp
    · have hne2 : k ≠ 64 * (k / 64) + j := by omega
      have e1 : ¬ k % 64 = j := fun e => hj e.symm
      simp only [List.getD_eq_getElem?_getD, List.getElem?_set_ne hne2, e1, decide_false, Bool.xor_false]
  · rw [if_neg hi, wd_bit]
    by_cases h64 : j < 64
    · have hne2 : k ≠ 64 * i + j := by
        intro e
        apply hi
        omega
      simp only [List.getD_eq_getElem?_getD, List.getElem?_set_ne hne2]
    · simp [h64]
theorem words_set (m : List Bool) (k : Nat) (b : Bool) (hk : k < m.length) (hne : m.getD k false ≠ b) : words (m.set k b) = (words m).set (k / 64) (wd m (k / 64) ^^^ 2 ^ (k % 64)) := by
  apply List.ext_getElem?
  intro i
  have hl : nw (m.set k b).length = nw m.length := by simp
  by_cases hi : i < nw m.length
  · rw [words_at _ (by rw [hl]; exact hi), wd_set m k i b hk hne]
    by_cases e : i = k / 64
    · subst e
      rw [if_pos rfl, List.getElem?_set_self (by rw [words_len]; exact hi)]
    · rw [if_neg e, List.getElem?_set_ne (fun h => e h.symm), words_at _ hi]
  · rw [List.getElem?_eq_none (by rw [words_len, hl]; omega), List.getElem?_eq_none (by rw [List.length_set, words_len]; omega)]
theorem words_zero (n : Nat) : words (List.replicate n false) = List.replicate (nw n) 0 := by
  have h : ∀ i, wd (List.replicate n false) i = 0 := fun i => by
    apply Nat.eq_of_testBit_eq
    intro j
    rw [wd_bit]
    have : (List.replicate n false).getD (64 * i + j) false = false := by
      rw [List.getD_eq_getElem?_getD, List.getElem?_replicate]; split <;> rfl
    rw [this]
    simp
  apply List.ext_getElem?
  intro i
  simp only [words, List.length_replicate, List.getElem?_map, List.getElem?_replicate, List.getElem?_range']
  by_cases hi : i < nw n
  · simp [hi, h]
  · simp [hi]
/-- The machine's bits. -/
theorem wrap64 {n : Nat} (h : n < 18446744073709551616) : IntKind.u64.wrap (n : Int) = n := by
  simp [IntKind.wrap, IntKind.bits, IntKind.signed]; omega
theorem bv64 (n : Nat) : BitVec.ofInt 64 (n : Int) = BitVec.ofNat 64 n := by rw [BitVec.ofInt_natCast]
theorem u64_and {a b : Nat} (ha : a < 18446744073709551616) (hb : b < 18446744073709551616) : bits BinOp.and IntKind.u64 (a : Int) (b : Int) = ((a &&& b : Nat) : Int) := by
  show IntKind.u64.wrap (((BitVec.ofInt 64 (a : Int) &&& BitVec.ofInt 64 (b : Int)).toNat : Nat) : Int) = _
  rw [bv64, bv64, BitVec.toNat_and, BitVec.toNat_ofNat, BitVec.toNat_ofNat, Nat.mod_eq_of_lt ha, Nat.mod_eq_of_lt hb]
  exact wrap64 (Nat.lt_of_le_of_lt Nat.and_le_left ha)
theorem u64_xor {a b : Nat} (ha : a < 18446744073709551616) (hb : b < 18446744073709551616) : bits BinOp.xor IntKind.u64 (a : Int) (b : Int) = ((a ^^^ b : Nat) : Int) := by
  show IntKind.u64.wrap (((BitVec.ofInt 64 (a : Int) ^^^ BitVec.ofInt 64 (b : Int)).toNat : Nat) : Int) = _
  rw [bv64, bv64, BitVec.toNat_xor, BitVec.toNat_ofNat, BitVec.toNat_ofNat, Nat.mod_eq_of_lt ha, Nat.mod_eq_of_lt hb]
  exact wrap64 (Nat.xor_lt_two_pow (n := 64) ha hb)
theorem u64_or {a b : Nat} (ha : a < 18446744073709551616) (hb : b < 18446744073709551616) : bits BinOp.or IntKind.u64 (a : Int) (b : Int) = ((a ||| b : Nat) : Int) := by
  show IntKind.u64.wrap (((BitVec.ofInt 64 (a : Int) ||| BitVec.ofInt 64 (b : Int)).toNat : Nat) : Int) = _
  rw [bv64, bv64, BitVec.toNat_or, BitVec.toNat_ofNat, BitVec.toNat_ofNat, Nat.mod_eq_of_lt ha, Nat.mod_eq_of_lt hb]
  exact wrap64 (Nat.or_lt_two_pow (n := 64) ha hb)
theorem u64_shr (a k : Nat) : Int.fdiv (a : Int) (2 ^ k) = ((a >>> k : Nat) : Int) := by
  rw [Int.fdiv_eq_ediv_of_nonneg _ (by exact Int.pow_nonneg (by decide)), Nat.shiftRight_eq_div_pow]
  simp
/-- One bit, asked. -/
theorem bit_ask (a k : Nat) : (((a >>> k) &&& 1 : Nat) : Int) = if a.testBit k = true then 1 else 0 := by
  have : (a >>> k) &&& 1 = if a.testBit k = true then 1 else 0 := by
    rw [Nat.testBit]
    have h1 : a >>> k &&& 1 = 1 &&& a >>> k := Nat.and_comm ..
    rw [h1]
    have h2 : 1 &&& a >>> k < 2 := Nat.lt_of_le_of_lt Nat.and_le_left (by omega)
    by_cases h0 : 1 &&& a >>> k = 0
    · simp [h0]
    · have : 1 &&& a >>> k = 1 := by omega
      simp [this]
  rw [this]
  split <;> rfl
theorem u64_bit {a : Nat} (ha : a < 18446744073709551616) (k : Nat) : bits BinOp.and IntKind.u64 ((a : Int) >>> k) 1 = if a.testBit k = true then 1 else 0 := by
  rw [← bit_ask, ← u64_and (Nat.lt_of_le_of_lt (Nat.shiftRight_le a k) ha) (by decide)]
  simp
end Go.Proofs.Ytibejcomfjddfaa.VM
end
section
set_option maxHeartbeats 8000000
set_option linter.unusedVariables false
set_option linter.unusedSimpArgs false

/- Bits of words: the lowest one, how many, which: plain laws. -/
namespace Go.Proofs.Ytibejcomfjddfaa.VM
open Go Go.Proofs AM
/-- How many ones among the first n bits. -/
def pc : Nat → Nat → Nat
  | 0, _ => 0
  | n + 1, w => w % 2 + pc n (w / 2)
theorem pc_add (m : Nat) : ∀ (n w : Nat), pc (n + m) w = pc n w + pc m (w / 2 ^ n)
  | 0, w => by simp [pc]
  | n + 1, w => by
    rw [show n + 1 + m = (n + m) + 1 by omega]
    simp only [pc]
    rw [pc_add m n (w / 2), Nat.div_div_eq_div_mul, Nat.pow_succ, Nat.mul_comm 2]
    omega
theorem pc_low : ∀ (n w r : Nat), pc n (w + 2 ^ n * r) = pc n w
  | 0, _, _ => rfl
  | n + 1, w, r => by
    simp only [pc]
    have h1 : (w + 2 ^ (n + 1) * r) % 2 = w % 2 := by rw [Nat.pow_succ, Nat.mul_comm (2 ^ n) 2, Nat.mul_assoc]; omega
    have h2 : (w + 2 ^ (n + 1) * r) / 2 = w / 2 + 2 ^ n * r := by rw [Nat.pow_succ, Nat.mul_comm (2 ^ n) 2, Nat.mul_assoc]; omega
    rw [h1, h2, pc_low n]
def bitsOf (w : Nat) : List Nat := (List.range 64).filter fun j => w.testBit j
theorem filter_pc : ∀ (n w : Nat), ((List.range n).filter fun j => w.testBit j).length = pc n w
  | 0, w => rfl
  | n + 1, w => by
    have ih := filter_pc n (w / 2)
    rw [List.range_succ_eq_map, List.filter_cons]
    have e : ((List.range n).map Nat.succ).filter (fun j => w.testBit j) = ((List.range n).filter fun j => (w / 2).testBit j).map Nat.succ := by
      rw [List.filter_map]
      congr 1
      apply List.filter_congr
      intro j _
      simp [Nat.testBit_succ]
    rw [e]
    simp only [Nat.testBit_zero, pc]
    have : w % 2 = 0 ∨ w % 2 = 1 := by omega
    rcases this with h | h <;> simp [h, ih] <;> omega
theorem bitsOf_len (w : Nat) : (bitsOf w).length = pc 64 w := filter_pc 64 w
/-- A number's lowest one. -/
theorem low_one : ∀ (n w : Nat), w ≠ 0 → w < 2 ^ n → ∃ k q, k < n ∧ w = 2 ^ k * (2 * q + 1)
  | 0, w, h0, h => by simp at h; omega
  | n + 1, w, h0, h => by
    by_cases hm : w % 2 = 1
    · exact ⟨0, w / 2, by omega, by simp; omega⟩
    · obtain ⟨k, q, hk, hq⟩ := low_one n (w / 2) (by omega) (by rw [Nat.pow_succ] at h; omega)
      refine ⟨k + 1, q, by omega, ?_⟩
      rw [Nat.pow_succ, Nat.mul_comm (2 ^ k) 2, Nat.mul_assoc, ← hq]
      omega
theorem low_bit (k q i : Nat) : (2 ^ k * (2 * q + 1)).testBit i = if i < k then false else if i = k then true else q.testBit (i - (k + 1)) := by
  have e : 2 ^ k * (2 * q + 1) = 2 ^ (k + 1) * q + 2 ^ k := by rw [Nat.pow_succ, Nat.mul_add, Nat.mul_one, Nat.mul_assoc]
  rw [e, Nat.testBit_two_pow_mul_add _ (Nat.pow_lt_pow_right (by omega) (by omega)), Nat.testBit_two_pow]
  by_cases h1 : i < k
  · rw [if_pos (by omega), if_pos h1]; simp; omega
  · rw [if_neg h1]
    by_cases h2 : i = k
    · subst h2; simp
    · rw [if_neg (by omega), if_neg h2]
theorem low_pred (k q i : Nat) : (2 ^ k * (2 * q + 1) - 1).testBit i = if i < k then true else if i = k then false else q.testBit (i - (k + 1)) := by
  have hp : 0 < 2 ^ k := Nat.two_pow_pos k
  have e : 2 ^ k * (2 * q + 1) - 1 = 2 ^ (k + 1) * q + (2 ^ k - 1) := by rw [Nat.pow_succ, Nat.mul_add, Nat.mul_one, Nat.mul_assoc]; omega
  have hlt : 2 ^ k - 1 < 2 ^ (k + 1) := by rw [Nat.pow_succ]; omega
  rw [e, Nat.testBit_two_pow_mul_add _ hlt, Nat.testBit_two_pow_sub_one]
  by_cases h1 : i < k
  · rw [if_pos (by omega), if_pos h1]; simp [h1]
  · rw [if_neg h1]
    by_cases h2 : i = k
    · subst h2; simp
    · rw [if_neg (by omega), if_neg h2]
theorem low_drop (k q i : Nat) : (2 ^ k * (2 * q + 1) &&& (2 ^ k * (2 * q + 1) - 1)).testBit i = if i ≤ k then false else (2 ^ k * (2 * q + 1)).testBit i := by
  rw [Nat.testBit_and, low_bit, low_pred]
  by_cases h1 : i < k
  · simp [h1, Nat.le_of_lt h1]
  · by_cases h2 : i = k
    · simp [h2]
    · have : ¬ i ≤ k := by omega
      simp [h1, h2, this]
theorem bitsOf_step {k q : Nat} (hk : k < 64) : bitsOf (2 ^ k * (2 * q + 1)) = k :: bitsOf (2 ^ k * (2 * q + 1) &&& (2 ^ k * (2 * q + 1) - 1)) := by
  unfold bitsOf
  have e : List.range 64 = List.range k ++ k :: (List.range (63 - k)).map (k + 1 + ·) := by
    rw [show 64 = k + (1 + (63 - k)) by omega, List.range_add, List.range_add]
    simp [Nat.add_assoc]
  rw [e, List.filter_append, List.filter_append, List.filter_cons, List.filter_cons]
  have f1 : ∀ (p : Nat → Bool), (∀ j, j < k → p j = false) → (List.range k).filter p = [] := fun p h => by
    rw [List.filter_eq_nil_iff]; intro j hj; rw [h j (List.mem_range.1 hj)]; simp
  rw [f1 _ (fun j hj => by rw [low_bit, if_pos hj]), f1 _ (fun j hj => by rw [low_drop, if_pos (by omega)])]
  have g1 : (2 ^ k * (2 * q + 1)).testBit k = true := by rw [low_bit, if_neg (by omega), if_pos rfl]
  have g2 : (2 ^ k * (2 * q + 1) &&& (2 ^ k * (2 * q + 1) - 1)).testBit k = false := by rw [low_drop, if_pos (by omega)]
  rw [if_pos g1, if_neg (by rw [g2]; simp)]
  simp only [List.nil_append, List.cons.injEq, true_and]
  apply List.filter_congr
  intro j hj
  obtain ⟨x, _, rfl⟩ := List.mem_map.1 hj
  rw [low_drop, if_neg (by omega)]
theorem bitsOf_zero : bitsOf 0 = [] := by
  unfold bitsOf
  rw [List.filter_eq_nil_iff]; intro j _; simp
/-- The lowest one alone. -/
theorem low_neg {k q : Nat} (hk : k < 64) (h : 2 ^ k * (2 * q + 1) < 18446744073709551616) : 2 ^ k * (2 * q + 1) &&& (18446744073709551616 - 2 ^ k * (2 * q + 1)) = 2 ^ k := by
  have hp : 0 < 2 ^ k * (2 * q + 1) := Nat.mul_pos (Nat.two_pow_pos k) (by omega)
  apply Nat.eq_of_testBit_eq
  intro i
  have e : 18446744073709551616 - 2 ^ k * (2 * q + 1) = 2 ^ 64 - ((2 ^ k * (2 * q + 1) - 1) + 1) := by omega
  rw [Nat.testBit_and, e, Nat.testBit_two_pow_sub_succ (by omega), low_bit, low_pred, Nat.testBit_two_pow]
  by_cases h1 : i < k
  · simp [h1]; omega
  · by_cases h2 : i = k
    · subst h2; simp [hk]
    · have h3 : ¬ k = i := fun e => h2 e.symm
      simp [h1, h2, h3]
      intro h; simp [h]
/-- A set's numbers. -/
def allN (m : List Bool) : List Nat := (List.range m.length).filter fun i => m.getD i false
theorem filter_more (m : List Bool) (n : Nat) (h : m.length ≤ n) : (List.range n).filter (fun i => m.getD i false) = allN m := by
  have e : List.range n = List.range m.length ++ (List.range (n - m.length)).map (m.length + ·) := by
    rw [← List.range_add, Nat.add_sub_cancel' h]
  rw [e, List.filter_append]
  have : ((List.range (n - m.length)).map (m.length + ·)).filter (fun i => m.getD i false) = [] := by
    rw [List.filter_eq_nil_iff]
    intro j hj
    obtain ⟨x, _, rfl⟩ := List.mem_map.1 hj
    simp
  rw [this, List.append_nil]; rfl
theorem word_nums (m : List Bool) (i : Nat) : (bitsOf (wd m i)).map (64 * i + ·) = ((List.range 64).map (64 * i + ·)).filter fun j => m.getD j false := by
  unfold bitsOf
  rw [List.filter_map]
  congr 1
  apply List.filter_congr
  intro j hj
  rw [wd_bit]
  simp [List.mem_range.1 hj]
def upTo (m : List Bool) (i : Nat) : List Nat := (List.range (64 * i)).filter fun j => m.getD j false
theorem upTo_succ (m : List Bool) (i : Nat) : upTo m (i + 1) = upTo m i ++ (bitsOf (wd m i)).map (64 * i + ·) := by
  unfold upTo
  rw [word_nums, show 64 * (i + 1) = 64 * i + 64 by omega, List.range_add, List.filter_append]
theorem upTo_end (m : List Bool) : upTo m (nw m.length) = allN m := filter_more m _ (by unfold nw; omega)
theorem upTo_len (m : List Bool) : ∀ i, (upTo m i).length ≤ 64 * i
  | i => Nat.le_trans (List.length_filter_le ..) (by simp)
theorem allN_len (m : List Bool) : (allN m).length ≤ m.length := Nat.le_trans (List.length_filter_le ..) (by simp)
theorem upTo_pc (m : List Bool) (i : Nat) : (upTo m (i + 1)).length = (upTo m i).length + pc 64 (wd m i) := by
  rw [upTo_succ, List.length_append, List.length_map, bitsOf_len]
/-- The parallel count: three rounds, byte by byte. -/
theorem and_step {b c r s : Nat} (hb : b < 256) (hc : c < 256) : (b + 256 * r) &&& (c + 256 * s) = (b &&& c) + 256 * (r &&& s) := by
  apply Nat.eq_of_testBit_eq
  intro i
  have e1 : b + 256 * r = 2 ^ 8 * r + b := by omega
  have e2 : c + 256 * s = 2 ^ 8 * s + c := by omega
  have e3 : (b &&& c) + 256 * (r &&& s) = 2 ^ 8 * (r &&& s) + (b &&& c) := by omega
  rw [e1, e2, e3, Nat.testBit_and, Nat.testBit_two_pow_mul_add _ hb, Nat.testBit_two_pow_mul_add _ hc, Nat.testBit_two_pow_mul_add _ (Nat.lt_of_le_of_lt Nat.and_le_left hb)]
  split <;> simp
def g1 (b : Nat) : Nat := (b / 2 &&& 85) + (b &&& 85)
def g2 (b : Nat) : Nat := (b / 4 &&& 51) + (b &&& 51)
def g3 (b : Nat) : Nat := (b / 16 + b) &&& 15
theorem s1 {b r M : Nat} (hb : b < 256) : ((b + 256 * r) / 2 &&& (85 + 256 * M)) + ((b + 256 * r) &&& (85 + 256 * M)) = g1 b + 256 * ((r / 2 &&& M) + (r &&& M)) := by
  have e : (b + 256 * r) / 2 = (b / 2 + (r % 2) * 128) + 256 * (r / 2) := by omega
  rw [e, and_step (by omega) (by decide), and_step hb (by decide)]
  have key : ∀ x : Fin 256, ∀ y : Fin 2, ((x : Nat) / 2 + (y : Nat) * 128 &&& 85) = ((x : Nat) / 2 &&& 85) := by decide +kernel
  have := key ⟨b, hb⟩ ⟨r % 2, by omega⟩
  simp only at this
  rw [this]
  unfold g1
  omega
theorem s2 {b r M : Nat} (hb : b < 256) : ((b + 256 * r) / 4 &&& (51 + 256 * M)) + ((b + 256 * r) &&& (51 + 256 * M)) = g2 b + 256 * ((r / 4 &&& M) + (r &&& M)) := by
  have e : (b + 256 * r) / 4 = (b / 4 + (r % 4) * 64) + 256 * (r / 4) := by omega
  rw [e, and_step (by omega) (by decide), and_step hb (by decide)]
  have key : ∀ x : Fin 256, ∀ y : Fin 4, ((x : Nat) / 4 + (y : Nat) * 64 &&& 51) = ((x : Nat) / 4 &&& 51) := by decide +kernel
  have := key ⟨b, hb⟩ ⟨r % 4, by omega⟩
  simp only at this
  rw [this]
  unfold g2
  omega
theorem s3 {b r M : Nat} (hb : b ≤ 68) (hr : r % 16 ≤ 4) : ((b + 256 * r) / 16 + (b + 256 * r)) &&& (15 + 256 * M) = g3 b + 256 * ((r / 16 + r) &&& M) := by
  have e : (b + 256 * r) / 16 + (b + 256 * r) = (b / 16 + b + (r % 16) * 16) + 256 * (r / 16 + r) := by omega
  rw [e, and_step (by omega) (by decide)]
  have key : ∀ x : Fin 69, ∀ y : Fin 5, ((x : Nat) / 16 + (x : Nat) + (y : Nat) * 16 &&& 15) = ((x : Nat) / 16 + (x : Nat) &&& 15) := by decide +kernel
  have := key ⟨b, by omega⟩ ⟨r % 16, by omega⟩
  simp only at this
  rw [this]
  rfl
theorem g_all : ∀ b : Fin 256, g1 b < 256 ∧ g2 (g1 b) ≤ 68 ∧ g2 (g1 b) % 16 ≤ 4 ∧ g3 (g2 (g1 b)) = pc 8 b ∧ pc 8 b ≤ 8 := by decide +kernel
/-- The three rounds over eight bytes. -/
theorem count3 {x b0 b1 b2 b3 b4 b5 b6 b7 : Nat} (h0 : b0 < 256) (h1 : b1 < 256) (h2 : b2 < 256) (h3 : b3 < 256) (h4 : b4 < 256) (h5 : b5 < 256) (h6 : b6 < 256) (h7 : b7 < 256)
    (hx : x = b0 + 256 * (b1 + 256 * (b2 + 256 * (b3 + 256 * (b4 + 256 * (b5 + 256 * (b6 + 256 * (b7 + 256 * 0)))))))) :
    let x1 := (x / 2 &&& 6148914691236517205) + (x &&& 6148914691236517205)
    let x2 := (x1 / 4 &&& 3689348814741910323) + (x1 &&& 3689348814741910323)
    x1 < 18446744073709551616 ∧ x2 < 18446744073709551616 ∧ x2 / 16 + x2 < 18446744073709551616 ∧
    (x2 / 16 + x2) &&& 1085102592571150095 = pc 8 b0 + 256 * (pc 8 b1 + 256 * (pc 8 b2 + 256 * (pc 8 b3 + 256 * (pc 8 b4 + 256 * (pc 8 b5 + 256 * (pc 8 b6 + 256 * (pc 8 b7 + 256 * 0))))))) := by
  intro x1 x2
  have q0 := g_all ⟨b0, h0⟩
  have q1 := g_all ⟨b1, h1⟩
  have q2 := g_all ⟨b2, h2⟩
  have q3 := g_all ⟨b3, h3⟩
  have q4 := g_all ⟨b4, h4⟩
  have q5 := g_all ⟨b5, h5⟩
  have q6 := g_all ⟨b6, h6⟩
  have q7 := g_all ⟨b7, h7⟩
  simp only at q0 q1 q2 q3 q4 q5 q6 q7
  have e1 : x1 = g1 b0 + 256 * (g1 b1 + 256 * (g1 b2 + 256 * (g1 b3 + 256 * (g1 b4 + 256 * (g1 b5 + 256 * (g1 b6 + 256 * (g1 b7 + 256 * 0))))))) := by
    show (x / 2 &&& 6148914691236517205) + (x &&& 6148914691236517205) = _
    rw [show 6148914691236517205 = 85 + 256 * (85 + 256 * (85 + 256 * (85 + 256 * (85 + 256 * (85 + 256 * (85 + 256 * (85 + 256 * 0))))))) from rfl, hx, s1 h0, s1 h1, s1 h2, s1 h3, s1 h4, s1 h5, s1 h6, s1 h7]
    simp
  have e2 : x2 = g2 (g1 b0) + 256 * (g2 (g1 b1) + 256 * (g2 (g1 b2) + 256 * (g2 (g1 b3) + 256 * (g2 (g1 b4) + 256 * (g2 (g1 b5) + 256 * (g2 (g1 b6) + 256 * (g2 (g1 b7) + 256 * 0))))))) := by
    show (x1 / 4 &&& 3689348814741910323) + (x1 &&& 3689348814741910323) = _
    rw [show 3689348814741910323 = 51 + 256 * (51 + 256 * (51 + 256 * (51 + 256 * (51 + 256 * (51 + 256 * (51 + 256 * (51 + 256 * 0))))))) from rfl, e1, s2 q0.1, s2 q1.1, s2 q2.1, s2 q3.1, s2 q4.1, s2 q5.1, s2 q6.1, s2 q7.1]
    simp
  refine ⟨by omega, by omega, by omega, ?_⟩
  rw [show 1085102592571150095 = 15 + 256 * (15 + 256 * (15 + 256 * (15 + 256 * (15 + 256 * (15 + 256 * (15 + 256 * (15 + 256 * 0))))))) from rfl, e2, s3 q0.2.1 (by omega), s3 q1.2.1 (by omega), s3 q2.2.1 (by omega), s3 q3.2.1 (by omega), s3 q4.2.1 (by omega), s3 q5.2.1 (by omega), s3 q6.2.1 (by omega), s3 q7.2.1 (by omega), q0.2.2.2.1, q1.2.2.2.1, q2.2.2.2.1, q3.2.2.2.1, q4.2.2.2.1, q5.2.2.2.1, q6.2.2.2.1, q7.2.2.2.1]
  simp
theorem pc_split {x b0 b1 b2 b3 b4 b5 b6 b7 : Nat} (h0 : b0 < 256) (h1 : b1 < 256) (h2 : b2 < 256) (h3 : b3 < 256) (h4 : b4 < 256) (h5 : b5 < 256) (h6 : b6 < 256)
    (hx : x = b0 + 256 * (b1 + 256 * (b2 + 256 * (b3 + 256 * (b4 + 256 * (b5 + 256 * (b6 + 256 * (b7 + 256 * 0)))))))) :
    pc 64 x = pc 8 b0 + pc 8 b1 + pc 8 b2 + pc 8 b3 + pc 8 b4 + pc 8 b5 + pc 8 b6 + pc 8 b7 := by
  have st : ∀ (n b r : Nat), b < 256 → pc (8 + n) (b + 256 * r) = pc 8 b + pc n r := fun n b r hb => by
    rw [pc_add, show b + 256 * r = b + 2 ^ 8 * r by rfl, pc_low]
    congr 2
    omega
  rw [show 64 = 8 + (8 + (8 + (8 + (8 + (8 + (8 + 8)))))) from rfl, hx, st _ _ _ h0, st _ _ _ h1, st _ _ _ h2, st _ _ _ h3, st _ _ _ h4, st _ _ _ h5, st _ _ _ h6]
  simp only [Nat.mul_zero, Nat.add_zero]
  omega
end Go.Proofs.Ytibejcomfjddfaa.VM
end
section
set_option maxHeartbeats 8000000
set_option linter.unusedVariables false
set_option linter.unusedSimpArgs false

/- sync.Once in the machine of values: Do. -/
namespace Go.Proofs.Ytibejcomfjddfaa.VM
open Go Go.Proofs AM
section
variable {K : Kn} {φ : List Rz} {H : Hp} {σ : Heap}
theorem spl_one {cells : List V} {o : Nat} {x : V} (h : o < cells.length) : spl cells o [x] = cells.set o x := by
  unfold spl
  rw [List.set_eq_take_append_cons_drop, if_pos h]
  simp
theorem rd1 (hR : Rel K φ H σ) {g o b : Nat} {cells : List V} {rw : Bool} {v : Value} (hg : H[g]? = some (.mem cells rw)) (hb : φ[g]? = some (.mem b)) (hc : cells[o]? = some (.lit v)) : readN σ ⟨b, o, none⟩ 1 = some [v] := by
  obtain ⟨vals, p, h1, h2, h3⟩ := hR.ob g _ _ hg hb
  obtain ⟨y, h4, h5⟩ := h3.get hc
  obtain ⟨rfl, _⟩ := h5
  have hl := get_lt h4
  rw [readN_eq, h1]
  unfold readB
  dsimp only
  rw [if_pos ⟨permOk_alive h2, by omega⟩]
  congr 1
  rw [List.drop_eq_getElem_cons hl]
  have : vals[o] = y := by rw [List.getElem?_eq_getElem hl] at h4; exact Option.some.inj h4
  rw [this]
  rfl
theorem wr1 (hR : Rel K φ H σ) {g o b : Nat} {cells : List V} {v : Value} (hg : H[g]? = some (.mem cells true)) (hb : φ[g]? = some (.mem b)) (ho : o < cells.length) (hv : scalarB v = true) (hc : cellB v = true) :
    ∃ σ', writeN σ ⟨b, o, none⟩ [v] = some σ' ∧ Rel K φ (H.set g (.mem (cells.set o (.lit v)) true)) σ' := by
  obtain ⟨b', o', σ', e, h1, h2⟩ := putAt_sound (x := .ptr g o) (a := .pointer (some ⟨b, o, none⟩)) (vs := [.lit v]) (vals := [v]) (H' := H.set g (.mem (cells.set o (.lit v)) true)) hR (by
    unfold putAt
    dsimp only
    rw [hg]; dsimp only
    rw [if_pos (by simp; omega), spl_one ho]) ⟨b, hb, rfl⟩ ⟨v, [], rfl, ⟨rfl, hv⟩, rfl⟩ (by show (cellB v && true) = true; rw [hc]; rfl)
  cases e
  exact ⟨σ', h1, h2⟩
end
theorem doArgs {K : Kn} {φ : List Rz} {g o : Nat} {F : FuncId} {c : V} {us : Array Value} (ha : VRs K [.ptr g o, .fn F [] [c]] φ us.toList) : ∃ b ca, φ[g]? = some (.mem b) ∧ VR K c φ ca ∧ us = #[.pointer (some ⟨b, o, none⟩), .func (.func F) #[] #[ca]] := by
  obtain ⟨a1, us1, e1, ⟨b, h1, rfl⟩, a2, as2, rfl, ⟨fa, ca, rfl, h2, h3⟩, rfl⟩ := ha
  obtain ⟨c0, cs, h4, h5, rfl⟩ := h3
  have e2 : fa = #[] := Array.toList_eq_nil_iff.1 h2
  have e3 : ca = #[c0] := by rw [← Array.toArray_toList (xs := ca), h4]
  subst e2; subst e3
  exact ⟨b, c0, h1, h5, by rw [← Array.toArray_toList (xs := us), e1]⟩
theorem v_doDone {H : Hp} {g o : Nat} {cells : List V} {rw : Bool} {d : Int} {c : V} (hg : H[g]? = some (.mem cells rw)) (hc : cells[o]? = some (.lit (.int .u32 d))) (hd : d ≠ 0) :
    VC Try.prog prims 56 [.ptr g o, .fn 57 [] [c]] H fun u T => u = .tup [] ∧ T = H := by
  intro K φ σ us hR ha
  obtain ⟨b, ca, h1, h2, rfl⟩ := doArgs ha
  refine ac_prim (prims_do _ _ (r := (.tuple #[], σ)) ?_) ⟨K, φ, .tup [], H, .refl _ _ _, hR, ⟨#[], rfl, rfl⟩, rfl, rfl⟩
  unfold onceA
  rw [if_pos rfl]
  dsimp only
  rw [if_pos ⟨rfl, rfl⟩, rd1 hR hg h1 hc]
  dsimp only [u32Of]
  rw [if_neg hd]
theorem v_doFirst {H : Hp} {g o : Nat} {cells : List V} {c : V} {R : Hp → Prop} (hg : H[g]? = some (.mem cells true)) (h0 : cells[o]? = some (.lit (.int .u32 0))) (h1 : cells[o + 1]? = some (.lit (.int .i32 0)))
    (hF : VC Try.prog prims0 57 [c] (H.set g (.mem (cells.set (o + 1) (.lit (.int .i32 1))) true)) fun u T => u = .tup [] ∧ ∃ cells', T[g]? = some (.mem cells' true) ∧ cells'[o]? = some (.lit (.int .u32 0)) ∧ cells'[o + 1]? = some (.lit (.int .i32 1)) ∧
      R (T.set g (.mem ((cells'.set o (.lit (.int .u32 1))).set (o + 1) (.lit (.int .i32 0))) true))) :
    VC Try.prog prims 56 [.ptr g o, .fn 57 [] [c]] H fun u T => u = .tup [] ∧ R T := by
  intro K φ σ us hR ha
  obtain ⟨b, ca, hb, hca, rfl⟩ := doArgs ha
  obtain ⟨σ0, w0, _⟩ := wr1 hR hg hb (get_lt h0) (v := .int .u32 0) rfl rfl
  obtain ⟨σ1, w1, hR1⟩ := wr1 hR hg hb (get_lt h1) (v := .int .i32 1) rfl rfl
  obtain ⟨n, v, σ2, hrun, K', φ', v', T, hp, hR2, hv, rfl, cells', hg', c0, c1, hRT⟩ := hF K φ σ1 #[ca] hR1 ⟨ca, [], rfl, hca, rfl⟩
  obtain ⟨xs, rfl, hx⟩ := hv
  have hx0 : xs = #[] := Array.toList_eq_nil_iff.1 hx
  subst hx0
  have hb' : φ'[g]? = some (.mem b) := by
    obtain ⟨r', e1, e2⟩ := hp.rz g _ (get_lt hb) hb
    cases r' <;> simp only [RzLe] at e2
    subst e2
    exact e1
  obtain ⟨σ3, w3, hR3⟩ := wr1 hR2 hg' hb' (get_lt c0) (v := .int .u32 1) rfl rfl
  obtain ⟨σ4, w4, hR4⟩ := wr1 (o := o + 1) hR3 (List.getElem?_set_self (get_lt hg')) hb' (by rw [List.length_set]; exact get_lt c1) (v := .int .i32 0) rfl rfl
  rw [List.set_set] at hR4
  refine ac_prim (prims_do _ _ (r := (.tuple #[], σ4)) ?_) ⟨K', φ', .tup [], _, hp, hR4, ⟨#[], rfl, rfl⟩, rfl, hRT⟩
  unfold onceA
  rw [if_pos rfl]
  dsimp only
  rw [if_pos ⟨rfl, rfl⟩, rd1 hR hg hb h0]
  dsimp only [u32Of]
  rw [if_pos rfl]
  unfold onceRun
  rw [w0]
  have r1 := rd1 hR hg hb h1
  have r2 := rd1 hR2 hg' hb' c0
  have r3 := rd1 hR2 hg' hb' c1
  simp only [Addr.add_lit]
  rw [r1, if_pos ⟨rfl, rfl⟩, w1]
  dsimp only
  rw [limA_of hrun]
  dsimp only
  rw [r2, r3, if_pos ⟨rfl, rfl, rfl⟩, w3]
  dsimp only
  rw [w4]
  rfl
end Go.Proofs.Ytibejcomfjddfaa.VM
end
section
set_option maxHeartbeats 8000000
set_option linter.unusedVariables false
set_option linter.unusedSimpArgs false

/- math/bits: OnesCount64, over any known calls. -/
namespace Go.Proofs.Ytibejcomfjddfaa.VM
open Go Go.Proofs AM
set_option maxRecDepth 100000
theorem u64_sh (a k : Nat) (hk : k ≤ 64) : Int.fdiv (a : Int) (2 ^ min k IntKind.u64.bits) = ((a / 2 ^ k : Nat) : Int) := by
  rw [show min k IntKind.u64.bits = k by simp [IntKind.bits]; omega, u64_shr, Nat.shiftRight_eq_div_pow]
theorem dv {a d r : Nat} (h : a < d) : (a + d * r) / d = r := by
  rw [Nat.add_mul_div_left _ _ (by omega), Nat.div_eq_of_lt h, Nat.zero_add]
theorem fold8 {x3 x4 x5 x6 a0 a1 a2 a3 a4 a5 a6 a7 : Nat} (hc : x3 = a0 + 256 * (a1 + 256 * (a2 + 256 * (a3 + 256 * (a4 + 256 * (a5 + 256 * (a6 + 256 * (a7 + 256 * 0))))))))
    (q0 : a0 ≤ 8) (q1 : a1 ≤ 8) (q2 : a2 ≤ 8) (q3 : a3 ≤ 8) (q4 : a4 ≤ 8) (q5 : a5 ≤ 8) (q6 : a6 ≤ 8) (q7 : a7 ≤ 8) (hx4 : x3 + x3 / 256 = x4) (hx5 : x4 + x4 / 65536 = x5) (hx6 : x5 + x5 / 4294967296 = x6) :
    x6 % 128 = a0 + a1 + a2 + a3 + a4 + a5 + a6 + a7 := by
  obtain ⟨r7, e7⟩ : ∃ r, a7 + 256 * 0 = r := ⟨_, rfl⟩
  rw [e7] at hc
  obtain ⟨r6, e6⟩ : ∃ r, a6 + 256 * r7 = r := ⟨_, rfl⟩
  rw [e6] at hc
  obtain ⟨r5, e5⟩ : ∃ r, a5 + 256 * r6 = r := ⟨_, rfl⟩
  rw [e5] at hc
  obtain ⟨r4, e4⟩ : ∃ r, a4 + 256 * r5 = r := ⟨_, rfl⟩
  rw [e4] at hc
  obtain ⟨r3, e3⟩ : ∃ r, a3 + 256 * r4 = r := ⟨_, rfl⟩
  rw [e3] at hc
  obtain ⟨r2, e2⟩ : ∃ r, a2 + 256 * r3 = r := ⟨_, rfl⟩
  rw [e2] at hc
  obtain ⟨r1, e1⟩ : ∃ r, a1 + 256 * r2 = r := ⟨_, rfl⟩
  rw [e1] at hc
  have d3 : x3 / 256 = r1 := by rw [hc]; exact dv (by omega)
  have h4 : x4 = (a0 + a1 + 256 * (a1 + a2)) + 65536 * (r2 + r3) := by
    rw [← hx4, d3, hc, ← e1, ← e2]
    clear hx4 hx5 hx6 d3 hc e7 e6 e5 e4
    omega
  have d4 : x4 / 65536 = r2 + r3 := by
    rw [h4]
    refine dv ?_
    clear hx4 hx5 hx6 d3 hc h4 e7 e6 e5 e4 e3 e2 e1
    omega
  have h5 : x5 = (a0 + a1 + a2 + a3 + 256 * (a1 + a2 + a3 + a4) + 65536 * (a2 + a3 + a4 + a5) + 16777216 * (a3 + a4 + a5 + a6)) + 4294967296 * (r4 + r5 + r6 + r7) := by
    rw [← hx5, d4, h4, ← e2, ← e3, ← e4, ← e5, ← e6]
    clear hx4 hx5 hx6 d3 hc h4 d4 e1 e2 e3 e4 e5 e6 e7 q0 q1 q2 q3 q4 q5 q6 q7
    omega
  have d5 : x5 / 4294967296 = r4 + r5 + r6 + r7 := by
    rw [h5]
    refine dv ?_
    clear hx4 hx5 hx6 d3 hc h4 d4 h5 e7 e6 e5 e4 e3 e2 e1
    omega
  have h6 : x6 = (a0 + a1 + a2 + a3 + a4 + a5 + a6 + a7) + 128 * (2 * (a1 + a2 + a3 + a4) + 512 * (a2 + a3 + a4 + a5) + 131072 * (a3 + a4 + a5 + a6) + 33554432 * (r4 + r5 + r6 + r7) + 2 * r5 + 2 * r6 + 2 * r7) := by
    rw [← hx6, d5, h5, ← e4, ← e5, ← e6, ← e7]
    clear hx4 hx5 hx6 d3 hc h4 d4 h5 d5 e1 e2 e3 e4 e5 e6 e7 q0 q1 q2 q3 q4 q5 q6 q7
    omega
  rw [h6, Nat.add_mul_mod_self_left]
  exact Nat.mod_eq_of_lt (by clear hx4 hx5 hx6 d3 hc h4 d4 h5 d5 h6 e7 e6 e5 e4 e3 e2 e1; omega)
theorem v_OnesG {prim : CallF} (hC : ∀ n, CallOk Try.prog (acall Try.prog prim n)) (kn_none : ∀ {us σ}, True = True → prim 55 us σ = none) {x : Nat} (hx : x < 18446744073709551616) : Ans Try.prog prim 55 [.lit (.int .u64 x)] (i6 (pc 64 x)) := by
  intro H
  have hsum : x = x % 256 + 256 * (x / 256 % 256 + 256 * (x / 65536 % 256 + 256 * (x / 16777216 % 256 + 256 * (x / 4294967296 % 256 + 256 * (x / 1099511627776 % 256 + 256 * (x / 281474976710656 % 256 + 256 * (x / 72057594037927936 % 256 + 256 * 0))))))) := by omega
  have hb : ∀ n, n % 256 < 256 := fun n => Nat.mod_lt _ (by omega)
  have hc := count3 (hb _) (hb _) (hb _) (hb _) (hb _) (hb _) (hb _) (hb _) hsum
  have hp := pc_split (hb _) (hb _) (hb _) (hb _) (hb _) (hb _) (hb _) hsum
  have p8 : ∀ n, pc 8 (n % 256) ≤ 8 := fun n => (g_all ⟨n % 256, hb n⟩).2.2.2.2
  have q0 := p8 x
  have q1 := p8 (x / 256)
  have q2 := p8 (x / 65536)
  have q3 := p8 (x / 16777216)
  have q4 := p8 (x / 4294967296)
  have q5 := p8 (x / 1099511627776)
  have q6 := p8 (x / 281474976710656)
  have q7 := p8 (x / 72057594037927936)
  rw [hp]
  clear hsum hp p8
  generalize pc 8 (x % 256) = a0 at *
  generalize pc 8 (x / 256 % 256) = a1 at *
  generalize pc 8 (x / 65536 % 256) = a2 at *
  generalize pc 8 (x / 16777216 % 256) = a3 at *
  generalize pc 8 (x / 4294967296 % 256) = a4 at *
  generalize pc 8 (x / 1099511627776 % 256) = a5 at *
  generalize pc 8 (x / 281474976710656 % 256) = a6 at *
  generalize pc 8 (x / 72057594037927936 % 256) = a7 at *
  dsimp only at hc
  obtain ⟨x1, hx1⟩ : ∃ x1, (x / 2 &&& 6148914691236517205) + (x &&& 6148914691236517205) = x1 := ⟨_, rfl⟩
  rw [hx1] at hc
  obtain ⟨x2, hx2⟩ : ∃ x2, (x1 / 4 &&& 3689348814741910323) + (x1 &&& 3689348814741910323) = x2 := ⟨_, rfl⟩
  rw [hx2] at hc
  obtain ⟨x3, hx3⟩ : ∃ x3, (x2 / 16 + x2) &&& 1085102592571150095 = x3 := ⟨_, rfl⟩
  rw [hx3] at hc
  obtain ⟨l1, l2, l3, hc⟩ := hc
  have F1 : IntKind.u64.wrap (bits BinOp.and IntKind.u64 ((x : Int).fdiv (2 ^ min 1 IntKind.u64.bits)) 6148914691236517205 + bits BinOp.and IntKind.u64 (x : Int) 6148914691236517205) = (x1 : Int) := by
    rw [u64_sh _ _ (by omega), show (6148914691236517205 : Int) = ((6148914691236517205 : Nat) : Int) from rfl, u64_and (by omega) (by omega), u64_and hx (by omega), ← Int.natCast_add]
    simp only [Nat.pow_one]
    rw [hx1, wrap64 l1]
  have F2 : IntKind.u64.wrap (bits BinOp.and IntKind.u64 ((x1 : Int).fdiv (2 ^ min 2 IntKind.u64.bits)) 3689348814741910323 + bits BinOp.and IntKind.u64 (x1 : Int) 3689348814741910323) = (x2 : Int) := by
    rw [u64_sh _ _ (by omega), show (3689348814741910323 : Int) = ((3689348814741910323 : Nat) : Int) from rfl, u64_and (by omega) (by omega), u64_and l1 (by omega), ← Int.natCast_add]
    simp only [Nat.reducePow]
    rw [hx2, wrap64 l2]
  have F3 : bits BinOp.and IntKind.u64 (IntKind.u64.wrap ((x2 : Int).fdiv (2 ^ min 4 IntKind.u64.bits) + (x2 : Int))) 1085102592571150095 = (x3 : Int) := by
    rw [u64_sh _ _ (by omega), ← Int.natCast_add]
    simp only [Nat.reducePow]
    rw [wrap64 l3, show (1085102592571150095 : Int) = ((1085102592571150095 : Nat) : Int) from rfl, u64_and l3 (by omega), hx3]
  obtain ⟨x4, hx4⟩ : ∃ x4, x3 + x3 / 256 = x4 := ⟨_, rfl⟩
  obtain ⟨x5, hx5⟩ : ∃ x5, x4 + x4 / 65536 = x5 := ⟨_, rfl⟩
  obtain ⟨x6, hx6⟩ : ∃ x6, x5 + x5 / 4294967296 = x6 := ⟨_, rfl⟩
  have b3 : x3 ≤ 578721382704613384 := by omega
  have b4 : x4 ≤ 600000000000000000 := by omega
  have b5 : x5 ≤ 700000000000000000 := by omega
  have b6 : x6 ≤ 800000000000000000 := by omega
  have F4 : IntKind.u64.wrap ((x3 : Int) + (x3 : Int).fdiv (2 ^ min 8 IntKind.u64.bits)) = (x4 : Int) := by
    rw [u64_sh _ _ (by omega), ← Int.natCast_add]
    simp only [Nat.reducePow]
    rw [hx4, wrap64 (by omega)]
  have F5 : IntKind.u64.wrap ((x4 : Int) + (x4 : Int).fdiv (2 ^ min 16 IntKind.u64.bits)) = (x5 : Int) := by
    rw [u64_sh _ _ (by omega), ← Int.natCast_add]
    simp only [Nat.reducePow]
    rw [hx5, wrap64 (by omega)]
  have F6 : IntKind.u64.wrap ((x5 : Int) + (x5 : Int).fdiv (2 ^ min 32 IntKind.u64.bits)) = (x6 : Int) := by
    rw [u64_sh _ _ (by omega), ← Int.natCast_add]
    simp only [Nat.reducePow]
    rw [hx6, wrap64 (by omega)]
  have e7 := fold8 hc q0 q1 q2 q3 q4 q5 q6 q7 hx4 hx5 hx6
  have F7 : bits BinOp.and IntKind.i64 (IntKind.i64.wrap (x6 : Int)) 127 = ((a0 + a1 + a2 + a3 + a4 + a5 + a6 + a7 : Nat) : Int) := by
    rw [w64 (by omega), ← e7]
    show IntKind.i64.wrap (((BitVec.ofInt 64 (x6 : Int) &&& BitVec.ofInt 64 ((127 : Nat) : Int)).toNat : Nat) : Int) = _
    rw [bv64, bv64, BitVec.toNat_and, BitVec.toNat_ofNat, BitVec.toNat_ofNat, Nat.mod_eq_of_lt (by omega), Nat.mod_eq_of_lt (by omega), show (127 : Nat) = 2 ^ 7 - 1 from rfl, Nat.and_two_pow_sub_one_eq_mod]
    exact w64 (by omega)
  refine v_enter hC [] (fun _ _ => kn_none rfl) Try.func55 rfl ok55 (Nat.le_of_ble_eq_true rfl) fun hcl hbl => ?_
  simp [F1, F2, F3, F4, F5, F6, F7, Try.results55]
  first | (refine GV.ans hcl ?_; simp []; done) | (refine GV.ans0 ?_; simp []; done)
theorem v_Ones {x : Nat} (hx : x < 18446744073709551616) : A 55 [.lit (.int .u64 x)] (i6 (pc 64 x)) := v_OnesG hC (fun _ => kn_none rfl) hx
end Go.Proofs.Ytibejcomfjddfaa.VM
end
section
set_option maxHeartbeats 8000000
set_option linter.unusedVariables false
set_option linter.unusedSimpArgs false

/- rank: the directory. -/
namespace Go.Proofs.Ytibejcomfjddfaa.VM
open Go Go.Proofs AM
set_option maxRecDepth 100000
section
variable {K : Kn} {φ : List Rz} {H : Hp} {σ : Heap}
/-- One object below is told otherwise; what was made is let go. -/
theorem GV.setT {R : V → Hp → Prop} {T : Hp} {g : Nat} {x y : Ob} {u : V} (v : V) (hcl : Cl H) (hlen : H.length ≤ T.length) (hfr : ∀ j, j < H.length → j ≠ g → T[j]? = H[j]?) (hg : T[g]? = some x) (hgl : g < H.length) (hy : UpO H.length [] [] T y x) (hup : Up H.length [] [] T v u) (h : R v (H.set g y)) : GV H.length R u T := fun K φ σ a hR hv => by
  obtain ⟨K', φ', h1, h2, h3⟩ := ghost (n := H.length) (L := []) (E := []) (H' := H.set g y) hR hlen (by simp) (by simp) (by simp) (by simp) (fun i x' y' hi hx hy' => by
    by_cases e : g = i
    · subst e
      rw [List.getElem?_set_self hi] at hy'; cases hy'
      rw [hg] at hx; cases hx
      exact hy
    · rw [List.getElem?_set_ne e] at hy'
      rw [hfr i hi (Ne.symm e), hy'] at hx
      cases hx
      exact UpO.self (hcl _ (List.mem_of_getElem? hy'))) (by simp) (by simp)
  exact ⟨K', φ', v, H.set g y, h1, h2, h3 hup hv, h⟩
/-- New empty rows for nil in one object. -/
theorem G.setE {Q : Ev → Hp → Prop} {m g : Nat} {x y : Ob} {e : Ev} (E : List Nat) (hcl : Cl H) (hg : H[g]? = some x) (hm : m ≤ H.length) (hE : ∀ s ∈ E, 0 < s ∧ s ≤ 1048576) (hy : UpO H.length [] E H y x) (h : Q (VM.clip H.length e) (H.set g y ++ E.map fun s => .vec 0 [] s true true)) : G m Q e H := fun K φ σ ea hR hEv => by
  obtain ⟨K', φ', h1, h2, h3⟩ := ghost (n := H.length) (L := []) (E := E) (H' := H.set g y ++ E.map fun s => .vec 0 [] s true true) hR (by simp) (by simp) hE (by simp) (by simp) (fun i x' y' hi hx hy' => by
    rw [List.getElem?_append_left (by simpa using hi)] at hy'
    by_cases e : g = i
    · subst e
      rw [List.getElem?_set_self hi] at hy'; cases hy'
      rw [hg] at hx; cases hx
      exact hy
    · rw [List.getElem?_set_ne e, hx] at hy'; cases hy'
      exact UpO.self (hcl _ (List.mem_of_getElem? hx))) (by simp) (fun j s hj => by
    rw [List.getElem?_append_right (by simp), List.getElem?_map]
    simp [hj])
  exact ⟨K', φ', _, _, h1.weaken hm, h2, fun t => h3 (clip_up t) (hEv t), h⟩
end
/-- How many ones among the first j. -/
def cnt (m : List Bool) (j : Nat) : Nat := ((List.range j).filter fun i => m.getD i false).length
theorem cnt_le (m : List Bool) (j : Nat) : cnt m j ≤ j := Nat.le_trans (List.length_filter_le ..) (by simp)
theorem cnt_mono (m : List Bool) {i j : Nat} (h : i ≤ j) : cnt m i ≤ cnt m j := by
  obtain ⟨d, rfl⟩ : ∃ d, j = i + d := ⟨j - i, by omega⟩
  unfold cnt
  rw [List.range_add, List.filter_append, List.length_append]
  omega
theorem cnt_succ (m : List Bool) (j : Nat) : cnt m (j + 1) = cnt m j + (m.getD j false).toNat := by
  unfold cnt
  rw [List.range_succ, List.filter_append, List.length_append]
  congr 1
  rw [List.filter_cons]
  cases m.getD j false <;> simp
theorem cnt_word (m : List Bool) (k : Nat) : cnt m (64 * (k + 1)) = cnt m (64 * k) + pc 64 (wd m k) := upTo_pc m k
/-- The directory of the first k words. -/
def blkL (m : List Bool) (k : Nat) : List Int := (List.range ((k + 7) / 8)).map fun j => (cnt m (512 * j) : Int)
def wrdL (m : List Bool) (k : Nat) : List Int := (List.range k).map fun i => ((cnt m (64 * i) - cnt m (512 * (i / 8)) : Nat) : Int)
theorem wrdL_succ (m : List Bool) (k : Nat) : wrdL m (k + 1) = wrdL m k ++ [((cnt m (64 * k) - cnt m (512 * (k / 8)) : Nat) : Int)] := by simp [wrdL, List.range_succ]
theorem blkL_at (m : List Bool) {k : Nat} (h : k % 8 = 0) : blkL m (k + 1) = blkL m k ++ [(cnt m (64 * k) : Int)] := by
  unfold blkL
  rw [show (k + 1 + 7) / 8 = (k + 7) / 8 + 1 by omega, List.range_succ, List.map_append, List.map_singleton, show 512 * ((k + 7) / 8) = 64 * k by omega]
theorem blkL_no (m : List Bool) {k : Nat} (h : ¬ k % 8 = 0) : blkL m (k + 1) = blkL m k := by
  unfold blkL
  rw [show (k + 1 + 7) / 8 = (k + 7) / 8 by omega]
/-- The cells of a row of bits: its directory is to be made, or made. -/
def rowC (m : List Bool) (W : V) (d l : Int) (B D : V) : List V := [i6 m.length, W, .lit (.int .u32 d), .lit (.int .i32 l), .lit (.int .u32 0), B, D]
attribute [simp] rowC
def wc (n : Nat) : List V := [.lit (.int .u64 n)]
def WS (kk : Bool) (m : List Bool) : V := .fsl kk 1 ((words m).map wc)
def nilS : V := .lit (.slice none 0 0)
attribute [simp] WS wc nilS
theorem words_num (m : List Bool) {k : Nat} (h : k < nw m.length) : ((words m).map wc)[k]? = some [.lit (.int .u64 (wd m k))] := by rw [List.getElem?_map, words_at m h]; rfl
theorem v_ready1 {H : Hp} {g h : Nat} {m : List Bool} {kk rw : Bool} (hg : H[g]? = some (.mem (rowC m (WS kk m) 0 1 nilS nilS) true)) (hh : H[h]? = some (.mem [.ptr g 0] rw)) (hm : m.length ≤ 65536) :
    VC Try.prog prims0 57 [.ptr h 0] H fun u T => u = .tup [] ∧ T = H.set g (.mem (rowC m (WS kk m) 0 1 (IS true (blkL m (nw m.length))) (IS true (wrdL m (nw m.length)))) true) := by
  have hC : ∀ n, CallOk Try.prog (acall Try.prog prims0 n) := acall_sound mixed prims0_ok
  have kn_none : ∀ {f us σ}, True = True → prims0 f us σ = none := fun _ => rfl
  have hgl := get_lt hg
  have hhl := get_lt hh
  have hne : ¬ g = h := fun e => by subst e; rw [hg] at hh; simp at hh
  have hne' : ¬ h = g := fun e => hne e.symm
  have ha : ¬ H.length = g := by omega
  have ha' : ¬ g = H.length := by omega
  have hb : ¬ H.length + 1 = g := by omega
  have hb' : ¬ g = H.length + 1 := by omega
  have ha2 : ¬ H.length = h := by omega
  have hb2 : ¬ H.length + 1 = h := by omega
  have hnw : nw m.length ≤ 1024 := by unfold nw; omega
  refine v_enter hC [] (fun _ _ => kn_none rfl) Try.func57 rfl ok57 (Nat.le_of_ble_eq_true rfl) fun hcl hbl => ?_
  simp [hh, hg, words_len]
  refine v_loopX hC (fun (k : Nat) e T => T.length = H.length + 2 ∧ (∀ j, j < H.length → j ≠ g → T[j]? = H[j]?) ∧ k ≤ nw m.length ∧ (∃ w1 w2, T[g]? = some (.mem (rowC m (WS kk m) 0 1 (.own H.length w1) (.own (H.length + 1) w2)) true) ∧
      T[H.length]? = some (.vec w1 ((blkL m k).map ic) 1 true true) ∧ T[H.length + 1]? = some (.vec w2 ((wrdL m k).map ic) 1 true true)) ∧ e 0 = .ptr h 0 ∧ e 8 = i6 (nw m.length) ∧ e 9 = i6 k ∧
      ∃ a b : Nat, e 1 = i6 a ∧ e 2 = i6 b ∧ a + b = cnt m (64 * k) ∧ (¬ k % 8 = 0 → a = cnt m (512 * (k / 8)))) (fun k => nw m.length - k) 0 ?_ ?_
  · refine G.setE (y := .mem (rowC m (WS kk m) 0 1 (.own H.length 0) (.own (H.length + 1) 0)) true) [1, 1] hcl hg (Nat.le_refl _) (by simp) (by simp [UpO, nilS]) ?_
    refine ⟨by simp, fun j hj hjg => ?_, by omega, ⟨0, 0, ?_, ?_, ?_⟩, by simp [hhl], by simp, by simp, 0, 0, by simp, by simp, by simp [cnt], by simp⟩
    · rw [List.getElem?_append_left (by simpa using hj), List.getElem?_set_ne (Ne.symm hjg)]
    · rw [List.getElem?_append_left (by simpa using hgl), List.getElem?_set_self hgl]
    · simp [blkL]
    · simp [wrdL]
  · rintro k e T ⟨hl, hfr, hk, ⟨w1, w2, hTg, hTa, hTb⟩, h0, h8, h9, a, b, h1, h2, hab, hcase⟩
    have hTh : T[h]? = some (.mem [.ptr g 0] rw) := by rw [hfr h hhl hne']; exact hh
    have hlen1 : (blkL m k).length ≤ 1024 := by simp [blkL]; omega
    have hlen2 : (wrdL m k).length ≤ 1024 := by simp [wrdL]; omega
    simp [h8, h9]
    refine CondV.dec (fun hlt => ?_) (fun hge => ?_)
    · have hlt : k < nw m.length := by omega
      have hcnt := cnt_le m (64 * k)
      have hcw := cnt_word m k
      have hpc : cnt m (64 * (k + 1)) ≤ 64 * (k + 1) := cnt_le ..
      have hmon := cnt_mono m (show 512 * (k / 8) ≤ 64 * k by omega)
      have hr8 : ((k : Int)).tmod 8 = ((k % 8 : Nat) : Int) := by rw [Int.tmod_eq_emod_of_nonneg (by omega)]; omega
      have hwn := words_at m hlt
      have hab0 : IntKind.i64.wrap ((a : Int) + b) = ((cnt m (64 * k) : Nat) : Int) := by rw [w64 (by omega)]; omega
      have hstep : ∀ a' b' : Nat, a' + b' = cnt m (64 * k) → a' = cnt m (512 * (k / 8)) → IntKind.i64.wrap ((b' : Int) + (pc 64 (wd m k) : Nat)) = ((b' + pc 64 (wd m k) : Nat) : Int) := fun a' b' h1 h2 => by rw [w64 (by omega)]; omega
      simp [h0, h1, h2, h9, hr8]
      refine CondV.dec (fun h8k => ?_) (fun h8k => ?_)
      · have h8k : k % 8 = 0 := by omega
        have h5 : 512 * (k / 8) = 64 * k := by omega
        simp [h0, h1, h2, h9, hab0]
        refine v_draw (ord := [1, 2, 3, 4, 5, 6, 7, 8, 0, 9, 10, 11, 12]) (m := 9) (by decide +kernel) (by decide +kernel) ?_
        simp [h0, h1, h2, h9, hTh, hTg, hTa, hTb, hab0, ha, ha', hb, hb', ha2, hb2, hne, hne', List.getElem?_set_self', -List.getElem?_set_self]
        refine ⟨by omega, ?_⟩
        refine v_draw (ord := [1, 2, 3, 4, 5, 6, 7, 8, 0, 9, 10, 11, 12]) (m := 9) (by decide +kernel) (by decide +kernel) ?_
        simp [h0, h1, h2, h9, hTh, hTg, hTa, hTb, hab0, ha, ha', hb, hb', ha2, hb2, hne, hne', List.getElem?_set_self', -List.getElem?_set_self]
        refine ⟨by omega, ?_⟩
        simp [hwn]
        refine (v_OnesG hC (fun _ => kn_none rfl) (wd_lt m k)).call ?_
        have hw1 : IntKind.i64.wrap ((pc 64 (wd m k) : Nat) : Int) = ((pc 64 (wd m k) : Nat) : Int) := w64 (by omega)
        simp [h0, h8, h9, hw1, w64 (n := (k : Int) + 1) (by omega)]
        refine GH.refl ⟨k + 1, ⟨?_, fun j hj hjg => ?_, hlt, ⟨w1 + 1, w2 + 1, ?_, ?_, ?_⟩, by simp [h0], by simp [h8], by simp, cnt m (64 * k), pc 64 (wd m k), by simp, by simp, hcw.symm, fun _ => ?_⟩, by omega⟩
        · simp [hl]
        · have j1 : ¬ H.length = j := by omega
          have j2 : ¬ H.length + 1 = j := by omega
          have j3 : ¬ g = j := fun e => hjg e.symm
          simp [j1, j2, j3, hfr j hj hjg]
        · rw [List.getElem?_set_self (by simp [hl]; omega)]; simp
        · simp [hTa, ha, ha', List.getElem?_set_self', -List.getElem?_set_self, blkL_at m h8k]
        · simp [hTb, hb, hb', List.getElem?_set_self', -List.getElem?_set_self, wrdL_succ, h5]
        · rw [show (k + 1) / 8 = k / 8 by omega, h5]
      · have hca := hcase (by omega)
        simp [h0, h1, h2, h9]
        refine v_draw (ord := [1, 2, 3, 4, 5, 6, 7, 8, 0, 9, 10, 11, 12]) (m := 9) (by decide +kernel) (by decide +kernel) ?_
        simp [h0, h1, h2, h9, hTh, hTg, hTa, hTb, hab0, ha, ha', hb, hb', ha2, hb2, hne, hne', List.getElem?_set_self', -List.getElem?_set_self]
        refine ⟨by omega, ?_⟩
        simp [hwn]
        refine (v_OnesG hC (fun _ => kn_none rfl) (wd_lt m k)).call ?_
        simp [h0, h8, h9, hstep a b hab hca, w64 (n := (k : Int) + 1) (by omega)]
        refine GH.refl ⟨k + 1, ⟨?_, fun j hj hjg => ?_, hlt, ⟨w1, w2 + 1, ?_, ?_, ?_⟩, by simp [h0], by simp [h8], by simp, a, b + pc 64 (wd m k), by simp [h1], by simp, by omega, fun _ => ?_⟩, by omega⟩
        · simp [hl]
        · have j1 : ¬ H.length = j := by omega
          have j2 : ¬ H.length + 1 = j := by omega
          have j3 : ¬ g = j := fun e => hjg e.symm
          simp [j1, j2, j3, hfr j hj hjg]
        · rw [List.getElem?_set_self (by simp [hl]; omega)]; simp
        · simp [hTa, ha, ha', hb, hb', List.getElem?_set_self', -List.getElem?_set_self, blkL_no m (show ¬ k % 8 = 0 by omega)]
        · have : (b : Int) = ((cnt m (64 * k) - cnt m (512 * (k / 8)) : Nat) : Int) := by omega
          simp [hTb, hb, hb', List.getElem?_set_self', -List.getElem?_set_self, wrdL_succ, this]
        · rw [hca, show (k + 1) / 8 = k / 8 by omega]
    · have hkn : k = nw m.length := by omega
      subst hkn
      simp [Try.results57]
      exact GV.setT _ hcl (by omega) hfr hTg hgl (y := .mem (rowC m (WS kk m) 0 1 (IS true (blkL m (nw m.length))) (IS true (wrdL m (nw m.length)))) true) (by simp [UpO, hTa, hTb]) (by simp) ⟨rfl, rfl⟩
end Go.Proofs.Ytibejcomfjddfaa.VM
end
section
set_option maxHeartbeats 8000000
set_option linter.unusedVariables false
set_option linter.unusedSimpArgs false

/- rank: ready, ones, Rank, At, Len. -/
namespace Go.Proofs.Ytibejcomfjddfaa.VM
open Go Go.Proofs AM
set_option maxRecDepth 100000
/-- A row of bits; r: its directory is made. -/
def rowX (m : List Bool) (r : Bool) : List V := if r then rowC m (WS true m) 1 0 (IS true (blkL m (nw m.length))) (IS true (wrdL m (nw m.length))) else rowC m (WS true m) 0 0 nilS nilS
def dirV (m : List Bool) : V := .agg [IS true (blkL m (nw m.length)), IS true (wrdL m (nw m.length))]
theorem GV.set2 {H H2 X : Hp} {x : V} {k : KVV} (v : V) (hl : H2.length = H.length) (hcl : Cl H2) (hup : Up H2.length [] [] (H2 ++ X) v x) (h : k.run v H2) : @GVH H.length x (H2 ++ X) k := by
  rw [← hl]
  exact GV.ret v hcl hup h
theorem v_ready {H : Hp} {g : Nat} {m : List Bool} {r rw : Bool} (hg : H[g]? = some (.mem (rowX m r) rw)) (hr : r = false → rw = true) (hm : m.length ≤ 65536) :
    VC Try.prog prims 54 [.ptr g 0] H fun u T => u = dirV m ∧ T = H.set g (.mem (rowX m true) rw) := by
  have hgl := get_lt hg
  have e1 : ¬ g = H.length := by omega
  have e2 : ¬ H.length = g := by omega
  have e3 : ¬ H.length + 1 = g := by omega
  have hX : ∀ X : Hp, (H ++ X)[g]? = some (.mem (rowX m r) rw) := fun X => by rw [List.getElem?_append_left hgl]; exact hg
  have hS : ∀ (X : Hp) (y : Ob), (H ++ X).set g y = H.set g y ++ X := fun X y => List.set_append_left _ _ hgl
  refine v_enter hC [] (fun _ _ => kn_none rfl) Try.func54 rfl ok54 (Nat.le_of_ble_eq_true rfl) fun hcl hbl => ?_
  cases r with
  | true =>
    have hset : H.set g (.mem (rowX m true) rw) = H := set_self hg
    rw [hset]
    simp [rowX] at hX
    simp [hX]
    refine CALLv.at (v_doDone (d := 1) (g := g) (o := 2) (cells := rowX m true) (rw := rw) (by simp [hX, rowX]) (by simp [rowX]) (by omega)) fun u T hu => ?_
    obtain ⟨rfl, rfl⟩ := hu
    simp [hX, e1, e2, e3, Try.results54]
    refine GV.ans hcl ?_
    simp [dirV]
  | false =>
    obtain rfl := hr rfl
    have hX2 : ∀ X : Hp, (H ++ X)[g]? = some (.mem (rowC m (WS true m) 0 0 nilS nilS) true) := hX
    simp at hX2
    simp [hX2]
    refine CALLv.at (v_doFirst (g := g) (o := 2) (cells := rowX m false) (R := fun T => T = H.set g (.mem (rowX m true) true) ++ [Ob.mem [.ptr g 0] true, Ob.mem [.lit (.slice none 0 0), .lit (.slice none 0 0)] true]) (hX _) (by simp [rowX]) (by simp [rowX]) ?_) fun u T hu => ?_
    · refine (v_ready1 (g := g) (m := m) (kk := true) (rw := true) (h := H.length) ?_ ?_ hm).mono fun u T hu => ?_
      · rw [List.getElem?_set_self (by simp; omega)]; simp [rowX]
      · rw [List.getElem?_set_ne e1]; simp
      · obtain ⟨rfl, rfl⟩ := hu
        refine ⟨rfl, _, by rw [List.getElem?_set_self (by simp; omega)], by simp, by simp, ?_⟩
        rw [List.set_set, List.set_set, hS]
        simp [rowX]
    · obtain ⟨rfl, rfl⟩ := hu
      obtain ⟨H2, hH2⟩ : ∃ H2, H2 = H.set g (Ob.mem (rowX m true) true) := ⟨_, rfl⟩
      rw [← hH2]
      have hl2 : H2.length = H.length := by rw [hH2]; simp
      have hgl2 : g < H2.length := by omega
      rw [← hl2]
      have hY : ∀ X : Hp, (H2 ++ X)[g]? = some (.mem (rowC m (WS true m) 1 0 (IS true (blkL m (nw m.length))) (IS true (wrdL m (nw m.length)))) true) := fun X => by
        rw [List.getElem?_append_left (by omega), hH2, List.getElem?_set_self hgl]; rfl
      simp at hY
      have hcl2 : Cl H2 := by rw [hH2]; exact hcl.set (by simp [Ob.bel, rowX, Bels, Bel])
      simp [hY, show ¬ g = H2.length by omega, show ¬ H2.length = g by omega, show ¬ H2.length + 1 = g by omega, Try.results54]
      refine GV.ret (dirV m) hcl2 ?_ ⟨rfl, rfl⟩
      simp [dirV]
theorem rowX_set {H : Hp} {g : Nat} {m : List Bool} {rw : Bool} (hg : H[g]? = some (.mem (rowX m true) rw)) : H.set g (.mem (rowX m true) rw) = H := set_self hg
theorem blk_at (m : List Bool) {k : Nat} (h : 8 * k < nw m.length) : (blkL m (nw m.length))[k]? = some (cnt m (512 * k) : Int) := by
  unfold blkL
  rw [List.getElem?_map, List.getElem?_range (by omega)]; rfl
theorem wrd_at (m : List Bool) {k : Nat} (h : k < nw m.length) : (wrdL m (nw m.length))[k]? = some ((cnt m (64 * k) - cnt m (512 * (k / 8)) : Nat) : Int) := by
  unfold wrdL
  rw [List.getElem?_map, List.getElem?_range h]; rfl
/-- The ones of a word below a bit. -/
theorem pc_below (w : Nat) : ∀ (j n : Nat), j ≤ n → pc n (w % 2 ^ j) = ((List.range j).filter fun i => w.testBit i).length := by
  intro j n h
  rw [show n = j + (n - j) by omega, pc_add, ← filter_pc]
  have e1 : w % 2 ^ j / 2 ^ j = 0 := Nat.div_eq_of_lt (Nat.mod_lt _ (Nat.two_pow_pos j))
  have e2 : ∀ n, pc n 0 = 0 := fun n => by
    induction n with
    | zero => rfl
    | succ n ih => simp [pc, ih]
  rw [e1, e2, Nat.add_zero]
  congr 1
  refine List.filter_congr fun i hi => ?_
  rw [Nat.testBit_mod_two_pow]
  simp [List.mem_range.1 hi]
theorem cnt_add (m : List Bool) (k j : Nat) (hj : j ≤ 64) : cnt m (64 * k + j) = cnt m (64 * k) + pc 64 (wd m k % 2 ^ j) := by
  rw [pc_below _ _ _ hj]
  unfold cnt
  rw [List.range_add, List.filter_append, List.length_append, List.filter_map, List.length_map]
  congr 2
  refine List.filter_congr fun i hi => ?_
  have := List.mem_range.1 hi
  simp only [Function.comp]
  rw [wd_bit]
  simp [show i < 64 by omega]
theorem v_ones {H : Hp} {g i : Nat} {m : List Bool} {r rw : Bool} (hg : H[g]? = some (.mem (rowX m r) rw)) (hr : r = false → rw = true) (hm : m.length ≤ 65536) (hi : i ≤ m.length) :
    VC Try.prog prims 46 [.ptr g 0, i6 i] H fun u T => u = i6 (cnt m i) ∧ T = H.set g (.mem (rowX m true) rw) := by
  have hgl := get_lt hg
  refine v_enter hC [] (fun _ _ => kn_none rfl) Try.func46 rfl ok46 (Nat.le_of_ble_eq_true rfl) fun hcl hbl => ?_
  simp
  refine CALLv.at (v_ready hg hr hm) fun u T hu => ?_
  obtain ⟨rfl, rfl⟩ := hu
  obtain ⟨H2, hH2⟩ : ∃ H2, H2 = H.set g (Ob.mem (rowX m true) rw) := ⟨_, rfl⟩
  rw [← hH2]
  have hl2 : H2.length = H.length := by rw [hH2]; simp
  have hcl2 : Cl H2 := by rw [hH2]; exact hcl.set (by simp [Ob.bel, rowX, Bels, Bel])
  have hY : ∀ X : Hp, (H2 ++ X)[g]? = some (.mem (rowC m (WS true m) 1 0 (IS true (blkL m (nw m.length))) (IS true (wrdL m (nw m.length)))) rw) := fun X => by
    rw [List.getElem?_append_left (by omega), hH2, List.getElem?_set_self hgl]; rfl
  simp at hY
  have d1 : IntKind.i64.wrap ((i : Int) / 64) = ((i / 64 : Nat) : Int) := by rw [w64 (by omega)]; omega
  have d2 : ((i : Int)).tmod 64 = ((i % 64 : Nat) : Int) := by rw [Int.tmod_eq_emod_of_nonneg (by omega)]; omega
  have hnw : nw m.length ≤ 1024 := by unfold nw; omega
  simp [dirV, hY, d1, words_len]
  refine CondV.dec (fun hend => ?_) (fun hin => ?_)
  · have hend : i / 64 = nw m.length := by omega
    simp
    refine CondV.dec (fun hz => ?_) (fun hnz => ?_)
    · have hi0 : i = 0 := by unfold nw at hend; omega
      subst hi0
      simp [Try.results46]
      exact GV.set2 (i6 (cnt m 0)) hl2 hcl2 (by simp [cnt]) ⟨rfl, rfl⟩
    · have hn0 : 0 < nw m.length := by omega
      have hmul : m.length = 64 * nw m.length := by unfold nw at *; omega
      have hil : i = m.length := by omega
      obtain ⟨q, hq⟩ : ∃ q, nw m.length = q + 1 := ⟨nw m.length - 1, by omega⟩
      have hqw : q < nw m.length := by omega
      have d3 : IntKind.i64.wrap ((i : Int) / 64 - 1) = (q : Int) := by rw [w64 (by omega)]; omega
      obtain ⟨p, hp⟩ : ∃ p, q / 8 = p := ⟨_, rfl⟩
      have d4 : IntKind.i64.wrap ((IntKind.i64.wrap ((q : Int) * 64)).tdiv 512) = (p : Int) := by rw [w64 (n := (q : Int) * 64) (by omega), Int.tdiv_eq_ediv_of_nonneg (by omega), w64 (by omega)]; omega
      have b1 := blk_at m (k := p) (by omega)
      have b2 := wrd_at m hqw
      rw [hp] at b2
      have b3 := words_at m hqw
      have hmon := cnt_mono m (show 512 * p ≤ 64 * q by omega)
      have hle := cnt_le m (64 * q)
      have hcw := cnt_word m q
      have hle2 := cnt_le m (64 * (q + 1))
      have hi2 : i = 64 * (q + 1) := by omega
      have f1 : IntKind.i64.wrap (((cnt m (512 * p) : Nat) : Int) + ((cnt m (64 * q) - cnt m (512 * p) : Nat) : Int)) = ((cnt m (64 * q) : Nat) : Int) := by rw [w64 (by omega)]; omega
      have f2 : IntKind.i64.wrap (((cnt m (64 * q) : Nat) : Int) + ((pc 64 (wd m q) : Nat) : Int)) = ((cnt m i : Nat) : Int) := by rw [w64 (by omega), hi2]; omega
      simp [d3]
      refine v_draw (ord := [0, 1, 2, 3, 4, 5, 6, 7, 8, 9, 10, 11, 12, 13, 14, 15, 16, 17, 18, 19, 20, 21, 22]) (m := 21) (by decide +kernel) (by decide +kernel) ?_
      simp [hY, d4, b1, b2, b3, f1]
      refine (v_Ones (wd_lt m q)).call ?_
      simp [f2, Try.results46]
      exact GV.set2 (i6 (cnt m i)) hl2 hcl2 (by simp) ⟨rfl, rfl⟩
  · have hqw : i / 64 < nw m.length := by unfold nw at *; omega
    obtain ⟨q, hq⟩ : ∃ q, i / 64 = q := ⟨_, rfl⟩
    rw [hq] at hqw
    have hqz : (i : Int) / 64 = (q : Int) := by omega
    have d2' : (i : Int) % 64 = ((i % 64 : Nat) : Int) := by omega
    obtain ⟨p, hp⟩ : ∃ p, q / 8 = p := ⟨_, rfl⟩
    have d4 : IntKind.i64.wrap ((IntKind.i64.wrap ((q : Int) * 64)).tdiv 512) = (p : Int) := by rw [w64 (n := (q : Int) * 64) (by omega), Int.tdiv_eq_ediv_of_nonneg (by omega), w64 (by omega)]; omega
    have b1 := blk_at m (k := p) (by omega)
    have b2 := wrd_at m hqw
    rw [hp] at b2
    have b3 := words_at m hqw
    have hmon := cnt_mono m (show 512 * p ≤ 64 * q by omega)
    have hle := cnt_le m (64 * q)
    have hca := cnt_add m q (i % 64) (by omega)
    have hi2 : 64 * q + i % 64 = i := by omega
    rw [hi2] at hca
    have hle2 := cnt_le m i
    have f1 : IntKind.i64.wrap (((cnt m (512 * p) : Nat) : Int) + ((cnt m (64 * q) - cnt m (512 * p) : Nat) : Int)) = ((cnt m (64 * q) : Nat) : Int) := by rw [w64 (by omega)]; omega
    have f2 : IntKind.i64.wrap (((cnt m (64 * q) : Nat) : Int) + ((pc 64 (wd m q % 2 ^ (i % 64)) : Nat) : Int)) = ((cnt m i : Nat) : Int) := by rw [w64 (by omega)]; omega
    simp [hq]
    refine v_draw (ord := [0, 1, 2, 3, 4, 5, 6, 7, 8, 9, 10, 11, 12, 13, 14, 15, 16, 17, 18, 19, 20, 21, 22, 23, 24, 25, 26, 27]) (m := 26) (by decide +kernel) (by decide +kernel) ?_
    obtain ⟨j, hj⟩ : ∃ j, i % 64 = j := ⟨_, rfl⟩
    have hjz : (i : Int) % 64 = (j : Int) := by omega
    have hj64 : j < 64 := by omega
    obtain ⟨P, hP⟩ : ∃ P, 2 ^ j = P := ⟨_, rfl⟩
    have hPlt : P < 18446744073709551616 := by rw [← hP]; exact Nat.pow_lt_pow_right (by omega) (by omega : j < 64)
    have hP0 : 0 < P := by rw [← hP]; exact Nat.two_pow_pos j
    obtain ⟨Q, hQ⟩ : ∃ Q, P - 1 = Q := ⟨_, rfl⟩
    have k1 : IntKind.u64.wrap (2 ^ min j IntKind.u64.bits) = (P : Int) := by
      rw [show min j IntKind.u64.bits = j by simp [IntKind.bits]; omega, show (2 : Int) ^ j = ((2 ^ j : Nat) : Int) by simp, hP]
      exact wrap64 hPlt
    have k2 : IntKind.u64.wrap ((P : Int) - 1) = (Q : Int) := by rw [show (P : Int) - 1 = ((Q : Nat) : Int) by omega]; exact wrap64 (by omega)
    have k3 : bits BinOp.and IntKind.u64 ((wd m q : Nat) : Int) (Q : Int) = ((wd m q % P : Nat) : Int) := by
      rw [u64_and (wd_lt m q) (by omega), ← hQ, ← hP, Nat.and_two_pow_sub_one_eq_mod]
    rw [hj, hP] at f2
    have hmlt : wd m q % P < 18446744073709551616 := Nat.lt_of_le_of_lt (Nat.mod_le _ _) (wd_lt m q)
    obtain ⟨w, hw⟩ : ∃ w, wd m q % P = w := ⟨_, rfl⟩
    rw [hw] at k3 hmlt f2
    simp [hY, hqz, d2, hjz, d4, b1, b2, b3, f1, k1, k2, k3, show ¬ (j : Int) < 0 by omega]
    refine (v_Ones hmlt).call ?_
    simp [f2, Try.results46]
    exact GV.set2 (i6 (cnt m i)) hl2 hcl2 (by simp) ⟨rfl, rfl⟩
end Go.Proofs.Ytibejcomfjddfaa.VM
end
section
set_option maxHeartbeats 8000000
set_option linter.unusedVariables false
set_option linter.unusedSimpArgs false

/- slices.IndexFunc, ContainsFunc of numbers. -/
namespace Go.Proofs.Ytibejcomfjddfaa.VM
open Go Go.Proofs AM
set_option maxRecDepth 100000
theorem v_IndexI {H : Hp} {kk : Bool} {l : List Int} {F : FuncId} {c : V} {pr : Int → Bool} (hl : l.length < 2 ^ 48) (hF : ∀ x ∈ l, VC Try.prog prims F [i6 x, c] H fun u T => u = bo (pr x) ∧ T = H) :
    VC Try.prog prims 41 [IS kk l, .fn F [] [c]] H fun u T => (∃ r, u = i6 r ∧ decide (0 ≤ r) = l.any pr) ∧ T = H := by
  refine v_enter hC [] (fun _ _ => kn_none rfl) Try.func41 rfl ok41 (Nat.le_of_ble_eq_true rfl) fun hcl hbl => ?_
  simp
  refine v_loopX hC (fun (k : Nat) e T => T = H ∧ e 0 = IS kk l ∧ e 1 = .fn F [] [c] ∧ e 7 = i6 l.length ∧ e 8 = i6 k ∧ k ≤ l.length ∧ ∀ j y, j < k → l[j]? = some y → pr y = false) (fun k => l.length - k) 0 (G.refl ?_) ?_
  · simp
  · rintro k e T ⟨rfl, h0, h1, h7, h8, hk, hall⟩
    simp [h0, h1, h7, h8]
    refine CondV.dec (fun hlt => ?_) (fun hge => ?_)
    · have hlt : k < l.length := by omega
      obtain ⟨x, hx⟩ : ∃ x, l[k]? = some x := ⟨_, List.getElem?_eq_getElem hlt⟩
      have hmem : x ∈ l := List.mem_of_getElem? hx
      simp [h0, h1, h7, h8, hx]
      refine CALLv.at (hF _ hmem) fun u T' hu => ?_
      obtain ⟨e1, e2⟩ := hu
      subst e1; subst e2
      simp
      refine CondV.on (fun hb => ?_) (fun hb => ?_)
      · have ha : l.any pr = true := List.any_eq_true.2 ⟨_, hmem, hb⟩
        simp [Try.results41]
        exact GV.refl ⟨⟨(k : Int), rfl, by rw [ha]; simp⟩, rfl⟩
      · simp [h0, h1, h7, h8, w64 (n := (k : Int) + 1) (by omega)]
        refine GH.refl ⟨k + 1, ⟨rfl, by simp [h0], by simp [h1], by simp [h7], by simp, hlt, fun j y hj hy => ?_⟩, by omega⟩
        by_cases hjk : j = k
        · subst hjk; rw [hx] at hy; cases hy; exact hb
        · exact hall j y (by omega) hy
    · have ha : l.any pr = false := by
        rw [List.any_eq_false]
        intro x hx
        obtain ⟨j, hj, rfl⟩ := List.mem_iff_getElem.1 hx
        have := hall j _ (by omega) (List.getElem?_eq_getElem hj)
        simpa using this
      simp [Try.results41]
      exact GV.refl ⟨⟨-1, rfl, by rw [ha]; rfl⟩, rfl⟩
theorem v_ContainsI {H : Hp} {kk : Bool} {l : List Int} {F : FuncId} {c : V} {pr : Int → Bool} (hl : l.length < 2 ^ 48) (hF : ∀ x ∈ l, VC Try.prog prims F [i6 x, c] H fun u T => u = bo (pr x) ∧ T = H) :
    VC Try.prog prims 22 [IS kk l, .fn F [] [c]] H fun u T => u = bo (l.any pr) ∧ T = H := by
  refine v_enter hC [] (fun _ _ => kn_none rfl) Try.func22 rfl ok22 (Nat.le_of_ble_eq_true rfl) fun hcl hbl => ?_
  simp
  refine CALLv.at (v_IndexI (kk := kk) hl hF) fun u T hu => ?_
  obtain ⟨⟨r, e1, hr⟩, e2⟩ := hu
  subst e1; subst e2
  simp [Try.results22]
  exact GV.refl ⟨by rw [← hr]; rfl, rfl⟩
end Go.Proofs.Ytibejcomfjddfaa.VM
end
section
set_option maxHeartbeats 8000000
set_option linter.unusedVariables false
set_option linter.unusedSimpArgs false

/- rank: Len, At, Rank, Of. -/
namespace Go.Proofs.Ytibejcomfjddfaa.VM
open Go Go.Proofs AM
set_option maxRecDepth 100000
/-- A call that reads. -/
theorem CALLv.rd {S : Hp → Prop} {q : Bool} {f : FuncId} {args : List V} {v : V} {H : Hp} {k : KVV} (hl : S H → S (lockV H)) (h : ∀ H, S H → VC Try.prog prims f args H fun u T => u = v ∧ T = H) (hS : S H) (hk : k.run v H) : @CALLv Try.prog prims q f args H k := by
  refine ⟨H, .refl, ?_⟩
  cases q with
  | false => exact (h H hS).mono fun u T ⟨e1, e2⟩ => by subst e2; subst e1; exact hk
  | true => exact (h (lockV H) (hl hS)).mono fun u T ⟨e1, e2⟩ => by subst e2; subst e1; exact ⟨[], by simp, by simp, by simpa using hk⟩
/-- A row of bits stands there. -/
def RowV (H : Hp) (g : Nat) (m : List Bool) (r rw : Bool) : Prop := H[g]? = some (.mem (rowX m r) rw) ∧ m.length ≤ 65536
theorem RowV.lock {H : Hp} {g : Nat} {m : List Bool} {r rw : Bool} (h : RowV H g m r rw) : RowV (lockV H) g m r false := ⟨by simp [lockV, h.1, Ob.lock], h.2⟩
def rowR (H : Hp) (g : Nat) (m : List Bool) : Prop := ∃ r rw, RowV H g m r rw
theorem rowR.lock {H : Hp} {g : Nat} {m : List Bool} (h : rowR H g m) : rowR (lockV H) g m := by
  obtain ⟨r, rw, h⟩ := h
  exact ⟨r, false, h.lock⟩
theorem rowX_ex (m : List Bool) (r : Bool) : ∃ a b c d e, rowX m r = [i6 m.length, WS true m, a, b, c, d, e] := by cases r <;> exact ⟨_, _, _, _, _, rfl⟩
theorem v_rLen {g : Nat} {m : List Bool} : ∀ H, rowR H g m → VC Try.prog prims 40 [.ptr g 0] H fun u T => u = i6 m.length ∧ T = H := by
  rintro H ⟨r, rw, h, _⟩
  obtain ⟨a, b, c, d, e, hx⟩ := rowX_ex m r
  rw [hx] at h
  simp at h
  refine v_enter hC [] (fun _ _ => kn_none rfl) Try.func40 rfl ok40 (Nat.le_of_ble_eq_true rfl) fun hcl hbl => ?_
  simp [h, Try.results40]
  first | (refine GV.ans hcl ?_; simp []; done) | (refine GV.ans0 ?_; simp []; done)
def atV (m : List Bool) (i : Int) : V := if 0 ≤ i ∧ i < m.length then .tup [bo (m.getD i.toNat false), i6 0] else .tup [bo false, i6 10]
theorem v_rAt {g : Nat} {m : List Bool} {i : Int} : ∀ H, rowR H g m → VC Try.prog prims 29 [.ptr g 0, i6 i] H fun u T => u = atV m i ∧ T = H := by
  rintro H ⟨r, rw, h, hm⟩
  obtain ⟨a, b, c, d, e, hx⟩ := rowX_ex m r
  rw [hx] at h
  simp at h
  refine v_enter hC [] (fun _ _ => kn_none rfl) Try.func29 rfl ok29 (Nat.le_of_ble_eq_true rfl) fun hcl hbl => ?_
  by_cases hi : 0 ≤ i
  · have h0 := hi
    obtain ⟨k, rfl⟩ : ∃ k : Nat, i = k := ⟨i.toNat, by omega⟩
    have h0' : ¬ (k : Int) < 0 := by omega
    simp [h, h0']
    refine CondV.dec (fun h1 => ?_) (fun h1 => ?_)
    · have h2 : ¬ (k : Int) < m.length := by omega
      simp [Try.results29]
      first | (refine GV.ans hcl ?_; simp [atV, h2]; done) | (refine GV.ans0 ?_; simp [atV, h2]; done)
    · have h2 : k < m.length := by omega
      have hw : k / 64 < nw m.length := by unfold nw; omega
      have d1 : IntKind.i64.wrap ((k : Int) / 64) = (k : Int) / 64 := w64 (by omega)
      have d2 : ((k : Int)).tmod 64 = (k : Int) % 64 := Int.tmod_eq_emod_of_nonneg (by omega)
      have d3 : ¬ (k : Int) % 64 < 0 := by omega
      have d4 : (0 : Int) ≤ (k : Int) / 64 := by omega
      have d5 : ((k : Int) / 64).toNat = k / 64 := by omega
      have d6 : min ((k : Int) % 64).toNat IntKind.u64.bits = k % 64 := by simp [IntKind.bits]; omega
      have d8 := u64_bit (wd_lt m (k / 64)) (k % 64)
      rw [wd_num] at d8
      simp [h, words_at m hw, d1, d2, d3, d4, d5, d6, u64_shr, d8, Try.results29]
      first | (refine GV.ans hcl ?_; simp [atV, h2]; done) | (refine GV.ans0 ?_; simp [atV, h2]; done)
  · have h0 : i < 0 := by omega
    have h2 : ¬ 0 ≤ i := by omega
    simp [h, h0, Try.results29]
    first | (refine GV.ans hcl ?_; simp [atV, h2]; done) | (refine GV.ans0 ?_; simp [atV, h2]; done)
theorem v_rRank {H : Hp} {g i : Nat} {m : List Bool} {r rw one : Bool} (hg : H[g]? = some (.mem (rowX m r) rw)) (hr : r = false → rw = true) (hm : m.length ≤ 65536) (hi : i ≤ m.length) :
    VC Try.prog prims 30 [.ptr g 0, bo one, i6 i] H fun u T => u = .tup [i6 (if one then cnt m i else i - cnt m i), i6 0] ∧ T = H.set g (.mem (rowX m true) rw) := by
  obtain ⟨a, b, c, d, e, hx⟩ := rowX_ex m r
  have h := hg
  rw [hx] at h
  simp at h
  have hle := cnt_le m i
  refine v_enter hC [] (fun _ _ => kn_none rfl) Try.func30 rfl ok30 (Nat.le_of_ble_eq_true rfl) fun hcl hbl => ?_
  simp [h, show ¬ (i : Int) < 0 by omega, show ¬ (m.length : Int) < i by omega]
  refine CALLv.at (v_ones hg hr hm hi) fun u T hu => ?_
  obtain ⟨rfl, rfl⟩ := hu
  simp
  cases one with
  | true =>
    simp [Try.results30]
    exact GV.refl ⟨by simp, rfl⟩
  | false =>
    simp [w64 (n := (i : Int) - (cnt m i : Nat)) (by omega), Try.results30]
    exact GV.refl ⟨by simp, rfl⟩
theorem wd_or (m : List Bool) (k i : Nat) (hk : k < m.length) : wd (m.set k true) i = if i = k / 64 then wd m i ||| 2 ^ (k % 64) else wd m i := by
  apply Nat.eq_of_testBit_eq
  intro j
  have h2 : 64 * (k / 64) + k % 64 = k := Nat.div_add_mod ..
  have h1 : k % 64 < 64 := Nat.mod_lt _ (by omega)
  rw [wd_bit]
  by_cases hi : i = k / 64
  · rw [if_pos hi, Nat.testBit_or, wd_bit, Nat.testBit_two_pow]
    subst hi
    by_cases hj : j = k % 64
    · subst hj
      rw [h2, List.getD_eq_getElem?_getD, List.getElem?_set_self hk]
      simp [h1]
    · have hne2 : k ≠ 64 * (k / 64) + j := by omega
      have e1 : ¬ k % 64 = j := fun e => hj e.symm
      simp only [List.getD_eq_getElem?_getD, List.getElem?_set_ne hne2, e1, decide_false, Bool.or_false]
  · rw [if_neg hi, wd_bit]
    by_cases h64 : j < 64
    · have hne2 : k ≠ 64 * i + j := by
        intro e
        apply hi
        omega
      simp only [List.getD_eq_getElem?_getD, List.getElem?_set_ne hne2]
    · simp [h64]
theorem words_or (m : List Bool) (k : Nat) (hk : k < m.length) : words (m.set k true) = (words m).set (k / 64) (wd m (k / 64) ||| 2 ^ (k % 64)) := by
  apply List.ext_getElem?
  intro i
  have hl : nw (m.set k true).length = nw m.length := by simp
  by_cases hi : i < nw m.length
  · rw [words_at _ (by rw [hl]; exact hi), wd_or m k i hk]
    by_cases e : i = k / 64
    · subst e
      rw [if_pos rfl, List.getElem?_set_self (by rw [words_len]; exact hi)]
    · rw [if_neg e, List.getElem?_set_ne (fun h => e h.symm), words_at _ hi]
  · rw [List.getElem?_eq_none (by rw [words_len, hl]; omega), List.getElem?_eq_none (by rw [List.length_set, words_len]; omega)]
/-- One's own row of bits. -/
def rowO (m : List Bool) (gw w : Nat) : List V := rowC m (.own gw w) 0 0 nilS nilS
theorem v_rput {H : Hp} {g gw w k : Nat} {m : List Bool} {t : Bool} (hg : H[g]? = some (.mem (rowO m gw w) true)) (hw : H[gw]? = some (.vec w ((words m).map wc) 1 true t)) (hm : m.length ≤ 65536) (hk : k < m.length) :
    VC Try.prog prims 25 [.ptr g 0, i6 k] H fun u T => T = H.set gw (.vec w ((words (m.set k true)).map wc) 1 true t) := by
  have h := hg
  simp [rowO] at h
  have hkw : k / 64 < nw m.length := by unfold nw; omega
  have d1 : IntKind.i64.wrap ((k : Int) / 64) = ((k / 64 : Nat) : Int) := by rw [w64 (by omega)]; omega
  have d2 : ((k : Int)).tmod 64 = ((k % 64 : Nat) : Int) := by rw [Int.tmod_eq_emod_of_nonneg (by omega)]; omega
  obtain ⟨q, hq⟩ : ∃ q, k / 64 = q := ⟨_, rfl⟩
  obtain ⟨j, hj⟩ : ∃ j, k % 64 = j := ⟨_, rfl⟩
  have hwo := words_or m k hk
  rw [hq] at d1 hkw hwo
  rw [hj] at d2 hwo
  have hj64 : j < 64 := by omega
  obtain ⟨P, hP⟩ : ∃ P, 2 ^ j = P := ⟨_, rfl⟩
  have hPlt : P < 18446744073709551616 := by rw [← hP]; exact Nat.pow_lt_pow_right (by omega) (by omega : j < 64)
  have k1 : IntKind.u64.wrap (2 ^ min j IntKind.u64.bits) = (P : Int) := by
    rw [show min j IntKind.u64.bits = j by simp [IntKind.bits]; omega, show (2 : Int) ^ j = ((2 ^ j : Nat) : Int) by simp, hP]
    exact wrap64 hPlt
  have k3 : bits BinOp.or IntKind.u64 ((wd m q : Nat) : Int) (P : Int) = ((wd m q ||| P : Nat) : Int) := u64_or (wd_lt m q) hPlt
  rw [hP] at hwo
  obtain ⟨R, hR⟩ : ∃ R, wd m q ||| P = R := ⟨_, rfl⟩
  rw [hR] at k3 hwo
  rw [hwo]
  refine v_enter hC [] (fun _ _ => kn_none rfl) Try.func25 rfl ok25 (Nat.le_of_ble_eq_true rfl) fun hcl hbl => ?_
  simp
  refine v_draw (ord := [0, 1, 2, 3, 4, 5, 6, 7, 8, 9, 10, 11, 12, 13]) (m := 0) (by decide +kernel) (by decide +kernel) ?_
  simp [h, hw, d1, d2, k1, k3, words_at m hkw, show ¬ (j : Int) < 0 by omega, Try.results25]
  refine ⟨by rw [words_len]; exact hkw, GV.refl ?_⟩
  simp
/-- The ones set, one by one. -/
def onB (m : List Bool) (l : List Int) : List Bool := l.foldl (fun m i => m.set i.toNat true) m
theorem onB_len : ∀ (l : List Int) (m : List Bool), (onB m l).length = m.length
  | [], m => rfl
  | i :: l, m => by show (onB (m.set i.toNat true) l).length = _; rw [onB_len l]; simp
theorem onB_snoc (m : List Bool) (l : List Int) (i : Int) : onB m (l ++ [i]) = (onB m l).set i.toNat true := by simp [onB]
theorem v_rOf {n : Nat} {kk : Bool} {l : List Int} (hn : n ≤ 65536) (hl : l.length < 2 ^ 48) (hin : ∀ i ∈ l, 0 ≤ i ∧ i < n) : ∀ H, VC Try.prog prims 12 [i6 n, IS kk l] H fun u T => u = .tup [.ptr H.length 0, i6 0] ∧ T = H ++ [.mem (rowX (onB (List.replicate n false) l) false) true] := by
  intro H
  refine v_enter hC [] (fun _ _ => kn_none rfl) Try.func12 rfl ok12 (Nat.le_of_ble_eq_true rfl) fun hcl hbl => ?_
  simp [show ¬ (65536 : Int) < n by omega, show ¬ (n : Int) < 0 by omega]
  refine CALLv.at (v_ContainsI (kk := kk) (l := l) (pr := fun i => decide (i < 0) || decide ((n : Int) ≤ i)) hl fun x hx => ?_) fun u T hu => ?_
  · refine v_enter hC [] (fun _ _ => kn_none rfl) Try.func23 rfl ok23 (Nat.le_of_ble_eq_true rfl) fun hcl hbl => ?_
    simp
    obtain ⟨h1, h2⟩ := hin x hx
    simp [show ¬ x < 0 by omega, show ¬ (n : Int) ≤ x by omega, Try.results23]
    exact GV.refl ⟨by simp [show ¬ x < 0 by omega, show ¬ (n : Int) ≤ x by omega], rfl⟩
  obtain ⟨rfl, rfl⟩ := hu
  have hno : l.any (fun i => decide (i < 0) || decide ((n : Int) ≤ i)) = false := by
    rw [List.any_eq_false]
    intro x hx
    obtain ⟨h1, h2⟩ := hin x hx
    simp [show ¬ x < 0 by omega, show ¬ (n : Int) ≤ x by omega]
  simp [hno]
  refine CALLv.at (R := fun u T => u = .ptr (H.length + 2) 0 ∧ T = H ++ [.mem [i6 n] true, .vec 0 ((words (List.replicate n false)).map wc) 1 true true, .mem (rowO (List.replicate n false) (H.length + 1) 0) true]) ?_ fun u T hu => ?_
  · refine v_enter hC [] (fun _ _ => kn_none rfl) Try.func24 rfl ok24 (Nat.le_of_ble_eq_true rfl) fun hcl hbl => ?_
    have d : IntKind.i64.wrap ((IntKind.i64.wrap (IntKind.i64.wrap ((n : Int) + 64) - 1)).tdiv 64) = ((nw n : Nat) : Int) := by
      rw [w64 (n := (n : Int) + 64) (by omega), w64 (n := (n : Int) + 64 - 1) (by omega), Int.tdiv_eq_ediv_of_nonneg (by omega), w64 (by omega)]; unfold nw; omega
    have hnw : nw n ≤ 1025 := by unfold nw; omega
    simp [d, Try.results24]
    refine ⟨by omega, GV.refl ⟨rfl, ?_⟩⟩
    simp [words_zero, rowO]
  obtain ⟨rfl, rfl⟩ := hu
  simp [rowO]
  refine v_loopX hC (fun (k : Nat) e T => T = H ++ [.mem [i6 n] true, .vec 0 ((words (onB (List.replicate n false) (l.take k))).map wc) 1 true true, .mem (rowO (List.replicate n false) (H.length + 1) 0) true] ∧ e 6 = .ptr (H.length + 2) 0 ∧ e 21 = IS kk l ∧ e 22 = i6 l.length ∧ e 23 = i6 k ∧ k ≤ l.length) (fun k => l.length - k) 0 (G.refl ?_) ?_
  · simp [rowO, onB]
  · rintro k e T ⟨rfl, h6, h21, h22, h23, hk⟩
    simp [h22, h23]
    refine CondV.dec (fun hlt => ?_) (fun hge => ?_)
    · have hlt : k < l.length := by omega
      obtain ⟨x, hx⟩ : ∃ x, l[k]? = some x := ⟨_, List.getElem?_eq_getElem hlt⟩
      obtain ⟨h1, h2⟩ := hin x (List.mem_of_getElem? hx)
      obtain ⟨p, rfl⟩ : ∃ p : Nat, x = p := ⟨x.toNat, by omega⟩
      have htk : l.take (k + 1) = l.take k ++ [(p : Int)] := by rw [List.take_add_one, hx]; rfl
      simp [h6, h21, h22, h23, hx]
      refine CALLv.at (v_rput (g := H.length + 2) (gw := H.length + 1) (w := 0) (k := p) (m := onB (List.replicate n false) (l.take k)) (t := true) (by simp [rowO, onB_len]) (by simp) (by rw [onB_len]; simpa using hn) (by rw [onB_len]; simp; omega)) fun u T hu => ?_
      subst hu
      simp [h6, h21, h22, h23, w64 (n := (k : Int) + 1) (by omega)]
      refine GH.refl ⟨k + 1, ⟨?_, by simp [h6], by simp [h21], by simp [h22], by simp, hlt⟩, by omega⟩
      simp [htk, onB_snoc]
    · have hkl : k = l.length := by omega
      subst hkl
      simp [h6, Try.results12]
      refine GV.keep (H.length + 2) (.mem (rowX (onB (List.replicate n false) l) false) true) (.tup [.ptr H.length 0, i6 0]) hcl ⟨_, by simp; rfl, by omega, ?_⟩ (by simp) ⟨rfl, rfl⟩
      simp [UpO, rowX, rowO, onB_len]
end Go.Proofs.Ytibejcomfjddfaa.VM
end
section
set_option maxHeartbeats 8000000
set_option linter.unusedVariables false
set_option linter.unusedSimpArgs false

/- packed: put, get. -/
namespace Go.Proofs.Ytibejcomfjddfaa.VM
open Go Go.Proofs AM
set_option maxRecDepth 100000
theorem u64_shl (a k : Nat) (hk : k ≤ 64) : ∃ r : Nat, IntKind.u64.wrap ((a : Int) * 2 ^ min k IntKind.u64.bits) = (r : Int) ∧ r < 18446744073709551616 ∧ ∀ i, r.testBit i = (decide (i < 64) && (decide (k ≤ i) && a.testBit (i - k))) := by
  refine ⟨(a <<< k) % 2 ^ 64, ?_, Nat.mod_lt _ (by decide), fun i => ?_⟩
  · rw [show min k IntKind.u64.bits = k by simp [IntKind.bits]; omega, Nat.shiftLeft_eq]
    simp [IntKind.wrap, IntKind.bits, IntKind.signed]
  · rw [Nat.testBit_mod_two_pow, Nat.testBit_shiftLeft]
theorem u64_andNot {a b : Nat} (ha : a < 18446744073709551616) (hb : b < 18446744073709551616) : ∃ r : Nat, bits BinOp.andNot IntKind.u64 (a : Int) (b : Int) = (r : Int) ∧ r < 18446744073709551616 ∧ ∀ i, r.testBit i = (a.testBit i && !b.testBit i) := by
  refine ⟨(BitVec.ofNat 64 a &&& ~~~ BitVec.ofNat 64 b).toNat, ?_, BitVec.isLt _, fun i => ?_⟩
  · show IntKind.u64.wrap (((BitVec.ofInt 64 (a : Int) &&& ~~~ BitVec.ofInt 64 (b : Int)).toNat : Nat) : Int) = _
    rw [bv64, bv64]
    exact wrap64 (BitVec.isLt _)
  · rw [BitVec.testBit_toNat, BitVec.getLsbD_and, BitVec.getLsbD_not, BitVec.getLsbD_ofNat, BitVec.getLsbD_ofNat]
    by_cases hi : i < 64
    · simp [hi]
    · have : a.testBit i = false := Nat.testBit_lt_two_pow (Nat.lt_of_lt_of_le ha (by rw [show 18446744073709551616 = 2 ^ 64 from rfl]; exact Nat.pow_le_pow_right (by omega) (by omega)))
      simp [hi, this]
theorem bit_big {x n i : Nat} (h : x < 2 ^ n) (hi : n ≤ i) : x.testBit i = false := Nat.testBit_lt_two_pow (Nat.lt_of_lt_of_le h (Nat.pow_le_pow_right (by omega) hi))
/-- Bits of a number laid at a place. -/
def bitsN (w x : Nat) : List Bool := (List.range w).map fun i => x.testBit i
def putN (m : List Bool) (o w x : Nat) : List Bool := m.take o ++ bitsN w x ++ m.drop (o + w)
theorem bitsN_len (w x : Nat) : (bitsN w x).length = w := by simp [bitsN]
theorem putN_len {m : List Bool} {o w x : Nat} (h : o + w ≤ m.length) : (putN m o w x).length = m.length := by
  unfold putN
  simp [bitsN_len]
  omega
theorem putN_bit {m : List Bool} {o w x : Nat} (h : o + w ≤ m.length) (j : Nat) : (putN m o w x).getD j false = if o ≤ j ∧ j < o + w then x.testBit (j - o) else m.getD j false := by
  unfold putN
  simp only [List.getD_eq_getElem?_getD]
  by_cases h1 : j < o
  · rw [List.append_assoc, List.getElem?_append_left (by simp; omega), List.getElem?_take, if_pos h1, if_neg (by omega)]
  · by_cases h2 : j < o + w
    · rw [List.append_assoc, List.getElem?_append_right (by simp; omega), List.getElem?_append_left (by simp [bitsN_len]; omega), if_pos (by omega)]
      unfold bitsN
      rw [List.getElem?_map, List.getElem?_range (by simp; omega)]
      simp
      congr 1
      omega
    · rw [List.getElem?_append_right (by simp [bitsN_len]; omega), List.getElem?_drop, if_neg (by omega)]
      congr 2
      simp [bitsN_len]
      omega
theorem wd_put {m : List Bool} {o w x : Nat} (h : o + w ≤ m.length) (i j : Nat) : (wd (putN m o w x) i).testBit j = (decide (j < 64) && if o ≤ 64 * i + j ∧ 64 * i + j < o + w then x.testBit (64 * i + j - o) else (wd m i).testBit j) := by
  rw [wd_bit, putN_bit h]
  split
  · rfl
  · rw [wd_bit]
    cases decide (j < 64) <;> rfl
theorem words_ext {m : List Bool} {L : List Nat} (hl : L.length = nw m.length) (h : ∀ i, i < nw m.length → L[i]? = some (wd m i)) : words m = L := by
  apply List.ext_getElem?
  intro i
  by_cases hi : i < nw m.length
  · rw [words_at _ hi, h i hi]
  · rw [List.getElem?_eq_none (by rw [words_len]; omega), List.getElem?_eq_none (by omega)]
/-- The words behind a put: the first one, and the next one. -/
theorem put_words {m : List Bool} {o w x q j r1 r2 : Nat} (h : o + w ≤ m.length) (ho : o = 64 * q + j) (hj : j < 64) (hw : w ≤ 64) (h1 : ∀ i, i < 64 → r1.testBit i = if j ≤ i ∧ i < j + w then x.testBit (i - j) else (wd m q).testBit i) (hr1 : r1 < 18446744073709551616)
    (h2 : 64 < j + w → (∀ i, i < 64 → r2.testBit i = if i + 64 < j + w then x.testBit (i + 64 - j) else (wd m (q + 1)).testBit i) ∧ r2 < 18446744073709551616) :
    words (putN m o w x) = if 64 < j + w then ((words m).set q r1).set (q + 1) r2 else (words m).set q r1 := by
  have hlen := putN_len (x := x) h
  have w1 : wd (putN m o w x) q = r1 := by
    apply Nat.eq_of_testBit_eq
    intro i
    rw [wd_put h]
    by_cases hi : i < 64
    · rw [h1 i hi]
      simp only [hi, decide_true, Bool.true_and]
      by_cases hc : j ≤ i ∧ i < j + w
      · rw [if_pos (by omega), if_pos hc]; congr 1; omega
      · rw [if_neg (by omega), if_neg hc]
    · rw [bit_big (n := 64) hr1 (by omega)]; simp [hi]
  have w2 : 64 < j + w → wd (putN m o w x) (q + 1) = r2 := fun hc => by
    obtain ⟨k1, k2⟩ := h2 hc
    apply Nat.eq_of_testBit_eq
    intro i
    rw [wd_put h]
    by_cases hi : i < 64
    · rw [k1 i hi]
      simp only [hi, decide_true, Bool.true_and]
      by_cases hd : i + 64 < j + w
      · rw [if_pos (by omega), if_pos hd]; congr 1; omega
      · rw [if_neg (by omega), if_neg hd]
    · rw [bit_big (n := 64) k2 (by omega)]; simp [hi]
  have w3 : ∀ i, i ≠ q → (64 < j + w → i ≠ q + 1) → wd (putN m o w x) i = wd m i := fun i hne1 hne2 => by
    apply Nat.eq_of_testBit_eq
    intro k
    rw [wd_put h]
    by_cases hk : k < 64
    · simp only [hk, decide_true, Bool.true_and]
      rw [if_neg]
      by_cases hc : 64 < j + w
      · have := hne2 hc; omega
      · omega
    · have := wd_bit m i k
      simp [hk] at this ⊢
      exact this
  have hq : q < nw m.length ∨ w = 0 := by unfold nw; omega
  refine words_ext (by split <;> simp [hlen, words_len]) fun i hi => ?_
  rw [hlen] at hi
  split
  · rename_i hc
    have hq2 : q + 1 < nw m.length := by unfold nw; omega
    by_cases e2 : i = q + 1
    · subst e2; rw [List.getElem?_set_self (by simp [words_len]; omega), w2 hc]
    · rw [List.getElem?_set_ne (fun e => e2 e.symm)]
      by_cases e1 : i = q
      · subst e1; rw [List.getElem?_set_self (by rw [words_len]; omega), w1]
      · rw [List.getElem?_set_ne (fun e => e1 e.symm), words_at _ hi, w3 i e1 (fun _ => e2)]
  · rename_i hc
    by_cases e1 : i = q
    · subst e1; rw [List.getElem?_set_self (by rw [words_len]; omega), w1]
    · rw [List.getElem?_set_ne (fun e => e1 e.symm), words_at _ hi, w3 i e1 (fun h => absurd h hc)]
theorem mul64 {w i : Nat} (h : w * i < 4294967296) : IntKind.i64.wrap ((w : Int) * (i : Int)) = ((w * i : Nat) : Int) := by rw [← Int.natCast_mul, w64 (by omega)]
theorem v_pput {H : Hp} {g gw v w n i x : Nat} {m : List Bool} {t : Bool} (hg : H[g]? = some (.mem [i6 w, i6 n, .own gw v] true)) (hv : H[gw]? = some (.vec v ((words m).map wc) 1 true t)) (hw0 : 1 ≤ w) (hw : w ≤ 31) (hx : x < 2 ^ w) (hfit : w * i + w ≤ m.length) (hm : m.length ≤ 3000000) :
    VC Try.prog prims 53 [.ptr g 0, i6 i, i6 x] H fun u T => T = H.set gw (.vec v ((words (putN m (w * i) w x)).map wc) 1 true t) := by
  have h := hg
  simp at h
  have hgl := get_lt hg
  have hvl := get_lt hv
  have hne : ¬ gw = g := fun e => by subst e; rw [hg] at hv; cases hv
  obtain ⟨o, ho⟩ : ∃ o, w * i = o := ⟨_, rfl⟩
  rw [ho] at hfit
  obtain ⟨q, hq⟩ : ∃ q, o / 64 = q := ⟨_, rfl⟩
  obtain ⟨j, hj⟩ : ∃ j, o % 64 = j := ⟨_, rfl⟩
  have hj64 : j < 64 := by omega
  have hoq : o = 64 * q + j := by omega
  have f1 : IntKind.i64.wrap ((w : Int) * (i : Int)) = (o : Int) := by rw [mul64 (by omega), ho]
  have f2 : IntKind.i64.wrap ((o : Int) / 64) = (q : Int) := by rw [w64 (by omega)]; omega
  have f3 : (o : Int).tmod 64 = (j : Int) := by rw [Int.tmod_eq_emod_of_nonneg (by omega)]; omega
  have hqw : q < nw m.length := by unfold nw; omega
  have hP31 : (2 : Nat) ^ w ≤ 2 ^ 31 := Nat.pow_le_pow_right (by omega) hw
  obtain ⟨P, hP⟩ : ∃ P, 2 ^ w = P := ⟨_, rfl⟩
  rw [hP] at hx hP31
  have hPlt : P ≤ 2147483648 := hP31
  have hP0 : 0 < P := by rw [← hP]; exact Nat.two_pow_pos w
  obtain ⟨Q, hQ⟩ : ∃ Q, P - 1 = Q := ⟨_, rfl⟩
  have hQb : ∀ i, Q.testBit i = decide (i < w) := fun i => by rw [← hQ, ← hP, Nat.testBit_two_pow_sub_one]
  have hxb : ∀ i, w ≤ i → x.testBit i = false := fun i hi => bit_big (n := w) (by rw [hP]; exact hx) hi
  have k1 : IntKind.u64.wrap (2 ^ min w IntKind.u64.bits) = (P : Int) := by
    rw [show min w IntKind.u64.bits = w by simp [IntKind.bits]; omega, show (2 : Int) ^ w = ((2 ^ w : Nat) : Int) by simp, hP]
    exact wrap64 (by omega)
  have k2 : IntKind.u64.wrap ((P : Int) - 1) = (Q : Int) := by rw [show (P : Int) - 1 = ((Q : Nat) : Int) by omega]; exact wrap64 (by omega)
  have k0 : IntKind.u64.wrap (x : Int) = (x : Int) := wrap64 (by omega)
  obtain ⟨s1, e1, l1, b1⟩ := u64_shl Q j (by omega)
  obtain ⟨s2, e2, l2, b2⟩ := u64_andNot (wd_lt m q) l1
  obtain ⟨s3, e3, l3, b3⟩ := u64_shl x j (by omega)
  have e4 := u64_or l2 l3
  obtain ⟨r1, hr1⟩ : ∃ r, s2 ||| s3 = r := ⟨_, rfl⟩
  have l4 : r1 < 18446744073709551616 := by rw [← hr1]; exact Nat.or_lt_two_pow (n := 64) l2 l3
  have b4 : ∀ i, i < 64 → r1.testBit i = if j ≤ i ∧ i < j + w then x.testBit (i - j) else (wd m q).testBit i := fun i hi => by
    rw [← hr1, Nat.testBit_or, b2, b1, b3, hQb]
    by_cases c1 : j ≤ i
    · by_cases c2 : i < j + w
      · rw [if_pos ⟨c1, c2⟩]; simp [hi, c1, show i - j < w by omega]
      · rw [if_neg (by omega)]; simp [hi, c1, show ¬ i - j < w by omega, hxb (i - j) (by omega)]
    · rw [if_neg (by omega)]; simp [c1]
  rw [hr1] at e4
  have f4 : IntKind.i64.wrap ((j : Int) + (w : Int)) = ((j + w : Nat) : Int) := by rw [w64 (by omega)]; omega
  rw [ho]
  refine v_enter hC [] (fun _ _ => kn_none rfl) Try.func53 rfl ok53 (Nat.le_of_ble_eq_true rfl) fun hcl hbl => ?_
  simp
  refine v_draw (ord := [0, 1, 2, 3, 4, 5, 6, 7, 8, 9, 10, 11, 12, 13, 14, 15]) (m := 11) (by decide +kernel) (by decide +kernel) ?_
  simp [h, f1, f2, f3, k1, k2, show ¬ (w : Int) < 0 by omega]
  refine v_draw (ord := [0, 1, 2, 3, 4, 5, 6, 7, 8, 9, 10, 11, 12, 13, 14, 15, 16, 17, 18, 19, 20, 21, 22]) (m := 18) (by decide +kernel) (by decide +kernel) ?_
  simp [h, hv, f1, f2, f3, e1, e2, e3, e4, k0, hne, words_at m hqw, show ¬ (j : Int) < 0 by omega]
  have hlw : q < (words m).length := by rw [words_len]; exact hqw
  refine ⟨hlw, ?_⟩
  simp [f4]
  by_cases hc : 64 < j + w
  · have hq2 : q + 1 < nw m.length := by unfold nw; omega
    have hj0 : 0 < j := by omega
    obtain ⟨j2, hj2⟩ : ∃ j2, 64 - j = j2 := ⟨_, rfl⟩
    have f5 : IntKind.i64.wrap (64 - (j : Int)) = (j2 : Int) := by rw [w64 (by omega)]; omega
    have f6 : IntKind.i64.wrap ((q : Int) + 1) = ((q + 1 : Nat) : Int) := by rw [w64 (by omega)]; omega
    have e5 := u64_sh Q j2 (by omega)
    have e6 := u64_sh x j2 (by omega)
    obtain ⟨s4, hs4⟩ : ∃ s, Q / 2 ^ j2 = s := ⟨_, rfl⟩
    obtain ⟨s5, hs5⟩ : ∃ s, x / 2 ^ j2 = s := ⟨_, rfl⟩
    have l5 : s4 < 18446744073709551616 := by rw [← hs4]; exact Nat.lt_of_le_of_lt (Nat.div_le_self _ _) (by omega)
    have l6 : s5 < 18446744073709551616 := by rw [← hs5]; exact Nat.lt_of_le_of_lt (Nat.div_le_self _ _) (by omega)
    rw [hs4] at e5
    rw [hs5] at e6
    obtain ⟨s6, e7, l7, b7⟩ := u64_andNot (wd_lt m (q + 1)) l5
    have e8 := u64_or l7 l6
    obtain ⟨r2, hr2⟩ : ∃ r, s6 ||| s5 = r := ⟨_, rfl⟩
    rw [hr2] at e8
    have l8 : r2 < 18446744073709551616 := by rw [← hr2]; exact Nat.or_lt_two_pow (n := 64) l7 l6
    have b8 : ∀ i, i < 64 → r2.testBit i = if i + 64 < j + w then x.testBit (i + 64 - j) else (wd m (q + 1)).testBit i := fun i hi => by
      rw [← hr2, Nat.testBit_or, b7, ← hs4, ← hs5, Nat.testBit_div_two_pow, Nat.testBit_div_two_pow, hQb]
      rw [show i + j2 = i + 64 - j by omega]
      by_cases c1 : i + 64 < j + w
      · rw [if_pos c1]; simp [show i + 64 - j < w by omega]
      · rw [if_neg c1]; simp [show ¬ i + 64 - j < w by omega, hxb (i + 64 - j) (by omega)]
    have hfin := put_words (x := x) hfit hoq hj64 (by omega) b4 l4 (fun _ => ⟨b8, l8⟩)
    rw [if_pos hc] at hfin
    have hq3 : q + 1 < (words m).length := by rw [words_len]; exact hq2
    have hqi : ((q : Int) + 1).toNat = q + 1 := by omega
    rw [hfin]
    simp [show (64 : Int) < (j : Int) + w by omega]
    have hset : ∀ y, (H.set gw y)[gw]? = some y := fun y => List.getElem?_set_self hvl
    refine v_draw (ord := [0, 1, 2, 3, 4, 5, 6, 7, 8, 9, 10, 11, 12, 13, 14, 15, 16, 17, 18, 19, 20, 21, 22, 23, 24, 25, 26]) (m := 21) (by decide +kernel) (by decide +kernel) ?_
    have hge : (words m)[q + 1] = wd m (q + 1) := by simp [words]
    simp [h, hset, hq3, hge, f1, f2, f3, f5, f6, e5, e6, e7, e8, k0, hne, words_at m hq2, hqi, show (0 : Int) ≤ (q : Int) + 1 by omega, show ¬ (j2 : Int) < 0 by omega, Try.results53]
    exact GV.refl (by simp)
  · have hfin := put_words (r2 := 0) (x := x) hfit hoq hj64 (by omega) b4 l4 (fun h => absurd h hc)
    rw [if_neg hc] at hfin
    rw [hfin]
    simp [show ¬ (64 : Int) < (j : Int) + w by omega, Try.results53]
    exact GV.refl (by simp)
/-- The number that stands at a place. -/
def getN (m : List Bool) (o w : Nat) : Nat := ofB ((m.drop o).take w)
theorem getN_bit (m : List Bool) (o w i : Nat) : (getN m o w).testBit i = (decide (i < w) && m.getD (o + i) false) := by
  unfold getN
  rw [ofB_bit, List.getD_eq_getElem?_getD, List.getElem?_take]
  by_cases h : i < w
  · simp [h, List.getElem?_drop]
  · simp [h]
theorem getN_lt (m : List Bool) (o w : Nat) : getN m o w < 2 ^ w := by
  have h := ofB_lt ((m.drop o).take w)
  exact Nat.lt_of_lt_of_le h (Nat.pow_le_pow_right (by omega) (by rw [List.length_take]; exact Nat.min_le_left ..))
/-- A packed array that is read. -/
def arrV (w n : Nat) (kk : Bool) (m : List Bool) : V := .fptr [i6 w, i6 n, WS kk m]
theorem v_pget {w n i : Nat} {m : List Bool} {kk : Bool} (hw0 : 1 ≤ w) (hw : w ≤ 31) (hfit : w * i + w ≤ m.length) (hm : m.length ≤ 3000000) : A 47 [arrV w n kk m, i6 i] (i6 (getN m (w * i) w)) := by
  intro H
  obtain ⟨o, ho⟩ : ∃ o, w * i = o := ⟨_, rfl⟩
  rw [ho] at hfit ⊢
  obtain ⟨q, hq⟩ : ∃ q, o / 64 = q := ⟨_, rfl⟩
  obtain ⟨j, hj⟩ : ∃ j, o % 64 = j := ⟨_, rfl⟩
  have hj64 : j < 64 := by omega
  have hoq : o = 64 * q + j := by omega
  have f1 : IntKind.i64.wrap ((w : Int) * (i : Int)) = (o : Int) := by rw [mul64 (by omega), ho]
  have f2 : IntKind.i64.wrap ((o : Int) / 64) = (q : Int) := by rw [w64 (by omega)]; omega
  have f3 : (o : Int).tmod 64 = (j : Int) := by rw [Int.tmod_eq_emod_of_nonneg (by omega)]; omega
  have f4 : IntKind.i64.wrap ((j : Int) + (w : Int)) = ((j + w : Nat) : Int) := by rw [w64 (by omega)]; omega
  have hqw : q < nw m.length := by unfold nw; omega
  have hP31 : (2 : Nat) ^ w ≤ 2 ^ 31 := Nat.pow_le_pow_right (by omega) hw
  obtain ⟨P, hP⟩ : ∃ P, 2 ^ w = P := ⟨_, rfl⟩
  have hgl := getN_lt m o w
  rw [hP] at hP31 hgl
  have hPlt : P ≤ 2147483648 := hP31
  have hP0 : 0 < P := by rw [← hP]; exact Nat.two_pow_pos w
  obtain ⟨Q, hQ⟩ : ∃ Q, P - 1 = Q := ⟨_, rfl⟩
  have hQb : ∀ i, Q.testBit i = decide (i < w) := fun i => by rw [← hQ, ← hP, Nat.testBit_two_pow_sub_one]
  have k1 : IntKind.u64.wrap (2 ^ min w IntKind.u64.bits) = (P : Int) := by
    rw [show min w IntKind.u64.bits = w by simp [IntKind.bits]; omega, show (2 : Int) ^ w = ((2 ^ w : Nat) : Int) by simp, hP]
    exact wrap64 (by omega)
  have k2 : IntKind.u64.wrap ((P : Int) - 1) = (Q : Int) := by rw [show (P : Int) - 1 = ((Q : Nat) : Int) by omega]; exact wrap64 (by omega)
  have e1 := u64_sh (wd m q) j (by omega)
  obtain ⟨s1, hs1⟩ : ∃ s, wd m q / 2 ^ j = s := ⟨_, rfl⟩
  rw [hs1] at e1
  have l1 : s1 < 18446744073709551616 := by rw [← hs1]; exact Nat.lt_of_le_of_lt (Nat.div_le_self _ _) (wd_lt m q)
  have b1 : ∀ i, s1.testBit i = (decide (i + j < 64) && m.getD (o + i) false) := fun i => by
    rw [← hs1, Nat.testBit_div_two_pow, wd_bit, hoq, show 64 * q + (i + j) = 64 * q + j + i by omega]
  have fin : ∀ r : Nat, r < 18446744073709551616 → (∀ i, i < w → r.testBit i = m.getD (o + i) false) → bits BinOp.and IntKind.u64 (r : Int) (Q : Int) = ((getN m o w : Nat) : Int) := fun r hr hb => by
    rw [u64_and hr (by omega)]
    congr 1
    apply Nat.eq_of_testBit_eq
    intro i
    rw [Nat.testBit_and, hQb, getN_bit]
    by_cases hi : i < w
    · simp [hi, hb i hi]
    · simp [hi]
  have f9 : IntKind.i64.wrap ((getN m o w : Nat) : Int) = ((getN m o w : Nat) : Int) := w64 (by omega)
  refine v_enter hC [] (fun _ _ => kn_none rfl) Try.func47 rfl ok47 (Nat.le_of_ble_eq_true rfl) fun hcl hbl => ?_
  simp [arrV]
  refine v_draw (ord := [0, 1, 2, 3, 4, 5, 6, 7, 8, 9, 10, 11, 12, 13, 14, 15]) (m := 11) (by decide +kernel) (by decide +kernel) ?_
  simp [f1, f2, f3, f4, e1, words_at m hqw, show ¬ (j : Int) < 0 by omega]
  by_cases hc : 64 < j + w
  · have hq2 : q + 1 < nw m.length := by unfold nw; omega
    obtain ⟨j2, hj2⟩ : ∃ j2, 64 - j = j2 := ⟨_, rfl⟩
    have f5 : IntKind.i64.wrap (64 - (j : Int)) = (j2 : Int) := by rw [w64 (by omega)]; omega
    have f6 : IntKind.i64.wrap ((q : Int) + 1) = ((q + 1 : Nat) : Int) := by rw [w64 (by omega)]; omega
    have hqi : ((q : Int) + 1).toNat = q + 1 := by omega
    obtain ⟨s2, e2, l2, b2⟩ := u64_shl (wd m (q + 1)) j2 (by omega)
    have e3 := u64_or l1 l2
    have l3 : s1 ||| s2 < 18446744073709551616 := Nat.or_lt_two_pow (n := 64) l1 l2
    have e4 := fin (s1 ||| s2) l3 fun i hi => by
      rw [Nat.testBit_or, b1, b2]
      by_cases c1 : i + j < 64
      · simp [c1, show ¬ j2 ≤ i by omega]
      · rw [wd_bit, show 64 * (q + 1) + (i - j2) = o + i by omega]
        simp [c1, show i < 64 by omega, show j2 ≤ i by omega, show i - j2 < 64 by omega]
    obtain ⟨r, hr⟩ : ∃ r, s1 ||| s2 = r := ⟨_, rfl⟩
    rw [hr] at e3 e4
    simp [show (64 : Int) < (j : Int) + w by omega, f5, f6, hqi, words_at m hq2, e2, e3, e4, f9, k1, k2, show (0 : Int) ≤ (q : Int) + 1 by omega, show ¬ (j2 : Int) < 0 by omega, show ¬ (w : Int) < 0 by omega, Try.results47]
    first | (refine GV.ans hcl ?_; simp []; done) | (refine GV.ans0 ?_; simp []; done)
  · have e4 := fin s1 l1 fun i hi => by
      rw [b1]
      simp [show i + j < 64 by omega]
    simp [show ¬ (64 : Int) < (j : Int) + w by omega, e4, f9, k1, k2, show ¬ (w : Int) < 0 by omega, Try.results47]
    first | (refine GV.ans hcl ?_; simp []; done) | (refine GV.ans0 ?_; simp []; done)
end Go.Proofs.Ytibejcomfjddfaa.VM
end
section
set_option maxHeartbeats 8000000
set_option linter.unusedVariables false
set_option linter.unusedSimpArgs false

/- math/bits: Len64. -/
namespace Go.Proofs.Ytibejcomfjddfaa.VM
open Go Go.Proofs AM
set_option maxRecDepth 100000
/-- How many bits a number has. -/
def blen (n : Nat) : Nat := if n = 0 then 0 else n.log2 + 1
theorem blen_le (n k : Nat) : blen n ≤ k ↔ n < 2 ^ k := by
  unfold blen
  split
  · rename_i h; subst h; simp [Nat.two_pow_pos]
  · rename_i h; rw [← Nat.log2_lt h]; omega
theorem blen_shift {x k : Nat} (h : 2 ^ k ≤ x) : blen x = k + blen (x / 2 ^ k) := by
  have key : ∀ j, k + blen (x / 2 ^ k) ≤ j ↔ blen x ≤ j := fun j => by
    rw [blen_le]
    by_cases hj : k ≤ j
    · obtain ⟨d, rfl⟩ : ∃ d, j = k + d := ⟨j - k, by omega⟩
      rw [show k + blen (x / 2 ^ k) ≤ k + d ↔ blen (x / 2 ^ k) ≤ d by omega, blen_le, Nat.div_lt_iff_lt_mul (Nat.two_pow_pos k), Nat.pow_add, Nat.mul_comm (2 ^ d)]
    · constructor
      · intro h1; omega
      · intro h1
        have := Nat.pow_le_pow_right (show 0 < 2 by omega) (show j ≤ k by omega)
        omega
  have h1 := (key (blen x)).2 (Nat.le_refl _)
  have h2 := (key _).1 (Nat.le_refl (k + blen (x / 2 ^ k)))
  omega
theorem tab_at8 {s : ByteArray} {y : Nat} (hy : y < 256) (h : ((List.range 256).all fun y => s[y]? == some (UInt8.ofNat (blen y))) = true) : s[y]? = some (UInt8.ofNat (blen y)) := by
  have := List.all_eq_true.1 h y (List.mem_range.2 hy)
  simpa using this
theorem v_Len64 {x : Nat} (hx : x < 18446744073709551616) : A 43 [.lit (.int .u64 x)] (i6 (blen x)) := by
  intro H
  have u8w : ∀ y : Nat, y < 256 → IntKind.u8.wrap (y : Int) = (y : Int) := fun y hy => by simp [IntKind.wrap, IntKind.bits, IntKind.signed]; omega
  have u8n : ∀ y : Nat, y < 256 → (UInt8.ofNat (blen y)).toNat = blen y := fun y hy => by
    have := (blen_le y 8).2 hy
    rw [UInt8.toNat_ofNat']
    omega
  have b8 : ∀ y : Nat, y < 256 → blen y ≤ 8 := fun y hy => (blen_le y 8).2 hy
  have sh : ∀ y k : Nat, k ≤ 64 → ((y : Int)).fdiv (2 ^ min k IntKind.u64.bits) = ((y / 2 ^ k : Nat) : Int) := fun y k hk => u64_sh y k hk
  have step : ∀ {y k z : Nat}, 2 ^ k ≤ y → y / 2 ^ k = z → blen y = k + blen z := fun {y k z} h1 h2 => by rw [blen_shift h1, h2]
  refine v_enter hC [] (fun _ _ => kn_none rfl) Try.func43 rfl ok43 (Nat.le_of_ble_eq_true rfl) fun hcl hbl => ?_
  simp
  refine CondV.dec (fun h0 => ?_) (fun h0 => ?_)
  · obtain ⟨x0a, hx0a⟩ : ∃ z, x / 2 ^ 32 = z := ⟨_, rfl⟩
    have s0 := sh x 32 (by omega)
    have t0 := step (k := 32) (by omega) hx0a
    rw [hx0a] at s0
    have l0 : x0a < 2 ^ 32 := by omega
    simp [s0]
    refine CondV.dec (fun h1 => ?_) (fun h1 => ?_)
    · obtain ⟨x1a, hx1a⟩ : ∃ z, x0a / 2 ^ 16 = z := ⟨_, rfl⟩
      have s1 := sh x0a 16 (by omega)
      have t1 := step (k := 16) (by omega) hx1a
      rw [hx1a] at s1
      have l1 : x1a < 2 ^ 16 := by omega
      simp [s0, s1]
      refine CondV.dec (fun h2 => ?_) (fun h2 => ?_)
      · obtain ⟨x2a, hx2a⟩ : ∃ z, x1a / 2 ^ 8 = z := ⟨_, rfl⟩
        have s2 := sh x1a 8 (by omega)
        have t2 := step (k := 8) (by omega) hx2a
        rw [hx2a] at s2
        have l2 : x2a < 2 ^ 8 := by omega
        simp [s0, s1, s2]
        have hy : x2a < 256 := by omega
        have hy8 := b8 x2a hy
        simp [u8w x2a hy]
        rw [tab_at8 (y := x2a) hy (by decide +kernel)]
        simp [u8n x2a hy, w64 (n := ((blen x2a : Nat) : Int)) (by omega), Try.results43]
        have e : IntKind.i64.wrap (IntKind.i64.wrap (IntKind.i64.wrap 48 + 8) + ((blen x2a : Nat) : Int)) = ((blen x : Nat) : Int) := by rw [show IntKind.i64.wrap (IntKind.i64.wrap 48 + 8) = 56 from rfl, w64 (by omega)]; omega
        first | (refine GV.ans hcl ?_; simp [e]; done) | (refine GV.ans0 ?_; simp [e]; done)
      · simp
        have hy : x1a < 256 := by omega
        have hy8 := b8 x1a hy
        simp [u8w x1a hy]
        rw [tab_at8 (y := x1a) hy (by decide +kernel)]
        simp [u8n x1a hy, w64 (n := ((blen x1a : Nat) : Int)) (by omega), Try.results43]
        have e : IntKind.i64.wrap (IntKind.i64.wrap 48 + ((blen x1a : Nat) : Int)) = ((blen x : Nat) : Int) := by rw [show IntKind.i64.wrap 48 = 48 from rfl, w64 (by omega)]; omega
        first | (refine GV.ans hcl ?_; simp [e]; done) | (refine GV.ans0 ?_; simp [e]; done)
    · simp
      refine CondV.dec (fun h2 => ?_) (fun h2 => ?_)
      · obtain ⟨x2a, hx2a⟩ : ∃ z, x0a / 2 ^ 8 = z := ⟨_, rfl⟩
        have s2 := sh x0a 8 (by omega)
        have t2 := step (k := 8) (by omega) hx2a
        rw [hx2a] at s2
        have l2 : x2a < 2 ^ 8 := by omega
        simp [s0, s2]
        have hy : x2a < 256 := by omega
        have hy8 := b8 x2a hy
        simp [u8w x2a hy]
        rw [tab_at8 (y := x2a) hy (by decide +kernel)]
        simp [u8n x2a hy, w64 (n := ((blen x2a : Nat) : Int)) (by omega), Try.results43]
        have e : IntKind.i64.wrap (IntKind.i64.wrap 40 + ((blen x2a : Nat) : Int)) = ((blen x : Nat) : Int) := by rw [show IntKind.i64.wrap 40 = 40 from rfl, w64 (by omega)]; omega
        first | (refine GV.ans hcl ?_; simp [e]; done) | (refine GV.ans0 ?_; simp [e]; done)
      · simp
        have hy : x0a < 256 := by omega
        have hy8 := b8 x0a hy
        simp [u8w x0a hy]
        rw [tab_at8 (y := x0a) hy (by decide +kernel)]
        simp [u8n x0a hy, w64 (n := ((blen x0a : Nat) : Int)) (by omega), Try.results43]
        have e : IntKind.i64.wrap (32 + ((blen x0a : Nat) : Int)) = ((blen x : Nat) : Int) := by rw [w64 (by omega)]; omega
        first | (refine GV.ans hcl ?_; simp [e]; done) | (refine GV.ans0 ?_; simp [e]; done)
  · simp
    refine CondV.dec (fun h1 => ?_) (fun h1 => ?_)
    · obtain ⟨x1a, hx1a⟩ : ∃ z, x / 2 ^ 16 = z := ⟨_, rfl⟩
      have s1 := sh x 16 (by omega)
      have t1 := step (k := 16) (by omega) hx1a
      rw [hx1a] at s1
      have l1 : x1a < 2 ^ 16 := by omega
      simp [s1]
      refine CondV.dec (fun h2 => ?_) (fun h2 => ?_)
      · obtain ⟨x2a, hx2a⟩ : ∃ z, x1a / 2 ^ 8 = z := ⟨_, rfl⟩
        have s2 := sh x1a 8 (by omega)
        have t2 := step (k := 8) (by omega) hx2a
        rw [hx2a] at s2
        have l2 : x2a < 2 ^ 8 := by omega
        simp [s1, s2]
        have hy : x2a < 256 := by omega
        have hy8 := b8 x2a hy
        simp [u8w x2a hy]
        rw [tab_at8 (y := x2a) hy (by decide +kernel)]
        simp [u8n x2a hy, w64 (n := ((blen x2a : Nat) : Int)) (by omega), Try.results43]
        have e : IntKind.i64.wrap (IntKind.i64.wrap (IntKind.i64.wrap 16 + 8) + ((blen x2a : Nat) : Int)) = ((blen x : Nat) : Int) := by rw [show IntKind.i64.wrap (IntKind.i64.wrap 16 + 8) = 24 from rfl, w64 (by omega)]; omega
        first | (refine GV.ans hcl ?_; simp [e]; done) | (refine GV.ans0 ?_; simp [e]; done)
      · simp
        have hy : x1a < 256 := by omega
        have hy8 := b8 x1a hy
        simp [u8w x1a hy]
        rw [tab_at8 (y := x1a) hy (by decide +kernel)]
        simp [u8n x1a hy, w64 (n := ((blen x1a : Nat) : Int)) (by omega), Try.results43]
        have e : IntKind.i64.wrap (IntKind.i64.wrap 16 + ((blen x1a : Nat) : Int)) = ((blen x : Nat) : Int) := by rw [show IntKind.i64.wrap 16 = 16 from rfl, w64 (by omega)]; omega
        first | (refine GV.ans hcl ?_; simp [e]; done) | (refine GV.ans0 ?_; simp [e]; done)
    · simp
      refine CondV.dec (fun h2 => ?_) (fun h2 => ?_)
      · obtain ⟨x2a, hx2a⟩ : ∃ z, x / 2 ^ 8 = z := ⟨_, rfl⟩
        have s2 := sh x 8 (by omega)
        have t2 := step (k := 8) (by omega) hx2a
        rw [hx2a] at s2
        have l2 : x2a < 2 ^ 8 := by omega
        simp [s2]
        have hy : x2a < 256 := by omega
        have hy8 := b8 x2a hy
        simp [u8w x2a hy]
        rw [tab_at8 (y := x2a) hy (by decide +kernel)]
        simp [u8n x2a hy, w64 (n := ((blen x2a : Nat) : Int)) (by omega), Try.results43]
        have e : IntKind.i64.wrap (IntKind.i64.wrap 8 + ((blen x2a : Nat) : Int)) = ((blen x : Nat) : Int) := by rw [show IntKind.i64.wrap 8 = 8 from rfl, w64 (by omega)]; omega
        first | (refine GV.ans hcl ?_; simp [e]; done) | (refine GV.ans0 ?_; simp [e]; done)
      · simp
        have hy : x < 256 := by omega
        have hy8 := b8 x hy
        simp [u8w x hy]
        rw [tab_at8 (y := x) hy (by decide +kernel)]
        simp [u8n x hy, w64 (n := ((blen x : Nat) : Int)) (by omega), Try.results43]
        first | (refine GV.ans hcl ?_; simp []; done) | (refine GV.ans0 ?_; simp []; done)
end Go.Proofs.Ytibejcomfjddfaa.VM
end
section
set_option maxHeartbeats 8000000
set_option linter.unusedVariables false
set_option linter.unusedSimpArgs false

/- packed: right, fits, Width, Add, New, Fit, At. -/
namespace Go.Proofs.Ytibejcomfjddfaa.VM
open Go Go.Proofs AM
set_option maxRecDepth 100000
theorem v_pright {w : Int} : A 44 [i6 w] (bo (decide (1 ≤ w ∧ w ≤ 31))) := by
  intro H
  refine v_enter hC [] (fun _ _ => kn_none rfl) Try.func44 rfl ok44 (Nat.le_of_ble_eq_true rfl) fun hcl hbl => ?_
  simp
  refine GuardR.dec (fun h => ?_) (fun h => ?_)
  · simp [h, Try.results44]
    first | (refine GV.ans hcl ?_; simp [h]; done) | (refine GV.ans0 ?_; simp [h]; done)
  · simp [h, Try.results44]
    first | (refine GV.ans hcl ?_; simp [h]; done) | (refine GV.ans0 ?_; simp [h]; done)
def tooBig (w : Nat) (x : Int) : Bool := decide (x < 0) || decide ((2 ^ w : Nat) ≤ x)
theorem v_fits {w : Nat} {kk : Bool} {l : List Int} (hw0 : 1 ≤ w) (hw : w ≤ 31) (hl : l.length < 2 ^ 48) (hb : ∀ x ∈ l, x < 9223372036854775808) : ∀ H, VC Try.prog prims 26 [i6 w, IS kk l] H fun u T => u = bo (!l.any (tooBig w)) ∧ T = H := by
  intro H
  refine v_enter hC [] (fun _ _ => kn_none rfl) Try.func26 rfl ok26 (Nat.le_of_ble_eq_true rfl) fun hcl hbl => ?_
  simp
  refine CALLv.at (v_ContainsI (kk := kk) (l := l) (pr := tooBig w) hl fun x hx => ?_) fun u T hu => ?_
  · have hxb := hb x hx
    refine v_enter hC [] (fun _ _ => kn_none rfl) Try.func42 rfl ok42 (Nat.le_of_ble_eq_true rfl) fun hcl hbl => ?_
    simp
    by_cases h0 : x < 0
    · simp [h0, Try.results42]
      exact GV.refl ⟨by simp [tooBig, h0], rfl⟩
    · obtain ⟨n, rfl⟩ : ∃ n : Nat, x = n := ⟨x.toNat, by omega⟩
      have hf : ((n : Int)).fdiv (2 ^ min w IntKind.i64.bits) = ((n / 2 ^ w : Nat) : Int) := by
        rw [show min w IntKind.i64.bits = w by simp [IntKind.bits]; omega, u64_shr, Nat.shiftRight_eq_div_pow]
      obtain ⟨P, hP⟩ : ∃ P, 2 ^ w = P := ⟨_, rfl⟩
      have hP0 : 0 < P := by rw [← hP]; exact Nat.two_pow_pos w
      have hd : n / P = 0 ↔ n < P := by rw [Nat.div_eq_zero_iff]; omega
      rw [hP] at hf
      obtain ⟨z, hz⟩ : ∃ z, n / P = z := ⟨_, rfl⟩
      rw [hz] at hf hd
      simp [h0, hf, show ¬ (w : Int) < 0 by omega, Try.results42]
      refine GV.refl ⟨?_, rfl⟩
      simp only [tooBig, hP]
      by_cases hc : n < P
      · have : z = 0 := hd.2 hc
        subst this
        simp
        omega
      · have : ¬ z = 0 := fun e => hc (hd.1 e)
        simp [this]
        omega
  · obtain ⟨rfl, rfl⟩ := hu
    simp [Try.results26]
    exact GV.ret (X := [_]) (bo (!l.any (tooBig w))) hcl (by simp) ⟨rfl, rfl⟩
/-- The width of a number. -/
def wid (n : Nat) : Nat := max (blen n) 1
theorem v_Width {n : Nat} (hn : n < 2147483648) : A 27 [i6 n] (i6 (wid n)) := by
  intro H
  have hb : blen n ≤ 31 := (blen_le n 31).2 hn
  have k0 : IntKind.u64.wrap (n : Int) = (n : Int) := wrap64 (by omega)
  refine v_enter hC [] (fun _ _ => kn_none rfl) Try.func27 rfl ok27 (Nat.le_of_ble_eq_true rfl) fun hcl hbl => ?_
  simp [k0]
  refine (v_Len64 (by omega)).call ?_
  have hmax : (if ((blen n : Nat) : Int) < 1 then (1 : Int) else ((blen n : Nat) : Int)) = ((wid n : Nat) : Int) := by unfold wid; split <;> omega
  have hwid : ¬ (31 : Int) < ((wid n : Nat) : Int) := by unfold wid; omega
  simp [show ¬ (n : Int) < 0 by omega, hmax, hwid, Try.results27]
  first | (refine GV.ans hcl ?_; simp []; done) | (refine GV.ans0 ?_; simp []; done)
/-- Numbers of a width, one behind the other. -/
def packL (w : Nat) (l : List Int) : List Bool := l.flatMap fun x => bitsN w x.toNat
theorem packL_len (w : Nat) : ∀ l : List Int, (packL w l).length = w * l.length
  | [] => by simp [packL]
  | x :: l => by
    have := packL_len w l
    simp only [packL, List.flatMap_cons, List.length_append, bitsN_len, List.length_cons] at *
    rw [this, Nat.mul_add]; omega
theorem packL_snoc (w : Nat) (l : List Int) (x : Int) : packL w (l ++ [x]) = packL w l ++ bitsN w x.toNat := by simp [packL]
/-- The bits when the first k are laid. -/
def packK (w : Nat) (l : List Int) (k : Nat) : List Bool := packL w (l.take k) ++ List.replicate (w * (l.length - k)) false
theorem packK_len (w : Nat) (l : List Int) {k : Nat} (hk : k ≤ l.length) : (packK w l k).length = w * l.length := by
  unfold packK
  rw [List.length_append, packL_len, List.length_replicate, ← Nat.mul_add]
  congr 1
  simp; omega
theorem packK_zero (w : Nat) (l : List Int) : packK w l 0 = List.replicate (w * l.length) false := by simp [packK, packL]
theorem packK_end (w : Nat) (l : List Int) : packK w l l.length = packL w l := by simp [packK]
theorem packK_put (w : Nat) (l : List Int) {k : Nat} {x : Int} (hk : k < l.length) (hx : l[k]? = some x) : putN (packK w l k) (w * k) w x.toNat = packK w l (k + 1) := by
  have hl : (packL w (l.take k)).length = w * k := by rw [packL_len]; congr 1; simp; omega
  have htk : l.take (k + 1) = l.take k ++ [x] := by rw [List.take_add_one, hx]; rfl
  unfold putN packK
  rw [htk, packL_snoc, ← hl, List.take_left, List.drop_append, Nat.add_sub_cancel_left, List.drop_of_length_le (by omega), List.nil_append, List.drop_replicate]
  congr 2
  rw [show l.length - k = (l.length - (k + 1)) + 1 by omega, Nat.mul_add]; omega
theorem v_pAdd {H : Hp} {g w : Nat} {kk : Bool} {l : List Int} (hg : H[g]? = some (.mem [i6 w, i6 0, nilS] true)) (hw0 : 1 ≤ w) (hw : w ≤ 31) (h0 : 0 < l.length) (hl : l.length ≤ 65536) (hin : ∀ x ∈ l, 0 ≤ x ∧ x < (2 ^ w : Nat)) :
    VC Try.prog prims 45 [.ptr g 0, IS kk l] H fun u T => u = i6 0 ∧ T = H.set g (.mem [i6 w, i6 l.length, .own H.length 0] true) ++ [.vec 0 ((words (packL w l)).map wc) 1 true true] := by
  have h := hg
  simp at h
  have hgl := get_lt hg
  have hP31 : (2 : Nat) ^ w ≤ 2 ^ 31 := Nat.pow_le_pow_right (by omega) hw
  obtain ⟨P, hP⟩ : ∃ P, 2 ^ w = P := ⟨_, rfl⟩
  have hPlt : P ≤ 2147483648 := by rw [← hP]; exact hP31
  have hno : l.any (tooBig w) = false := by
    rw [List.any_eq_false]
    intro x hx
    obtain ⟨h1, h2⟩ := hin x hx
    simp only [tooBig]
    rw [hP] at h2 ⊢
    simp [show ¬ x < 0 by omega, show ¬ (P : Int) ≤ x by omega]
  have hmulb : w * l.length ≤ 31 * 65536 := Nat.mul_le_mul hw hl
  obtain ⟨M, hM⟩ : ∃ M, w * l.length = M := ⟨_, rfl⟩
  have hMpos : 0 < M := by rw [← hM]; exact Nat.mul_pos hw0 h0
  have f1 : IntKind.i64.wrap ((w : Int) * (l.length : Int)) = (M : Int) := by rw [mul64 (by omega), hM]
  have f2 : IntKind.i64.wrap ((IntKind.i64.wrap (IntKind.i64.wrap ((M : Int) + 64) - 1)).tdiv 64) = ((nw M : Nat) : Int) := by
    rw [w64 (n := (M : Int) + 64) (by omega), w64 (n := (M : Int) + 64 - 1) (by omega), Int.tdiv_eq_ediv_of_nonneg (by omega), w64 (by omega)]; unfold nw; omega
  have f0 : IntKind.i64.wrap (l.length : Int) = (l.length : Int) := w64 (by omega)
  have hnw : 0 < nw M ∧ nw M ≤ 32000 := by unfold nw; omega
  have f3 : IntKind.i64.wrap ((nw M : Nat) : Int) = ((nw M : Nat) : Int) := w64 (by omega)
  have hS : ∀ (X : Hp) (y : Ob), (H ++ X).set g y = H.set g y ++ X := fun X y => List.set_append_left _ _ hgl
  refine v_enter hC [] (fun _ _ => kn_none rfl) Try.func45 rfl ok45 (Nat.le_of_ble_eq_true rfl) fun hcl hbl => ?_
  simp [h]
  refine CALLv.at (v_fits (kk := kk) (l := l) hw0 hw (by omega) (fun x hx => by obtain ⟨_, h2⟩ := hin x hx; rw [hP] at h2; omega) H) fun u T hu => ?_
  obtain ⟨rfl, e2⟩ := hu
  rw [e2]; clear e2 T
  simp [hno, h, show IntKind.i64.wrap 65536 = 65536 from rfl, show ¬ (65536 : Int) < l.length by omega]
  refine v_draw (ord := [0, 1, 2, 3, 4, 5, 6, 7, 8, 9, 10, 11, 12, 13, 14, 15]) (m := 8) (by decide +kernel) (by decide +kernel) ?_
  simp [h, f0, f1, f2]
  refine v_draw (ord := [0, 1, 2, 3, 4, 5, 6, 7, 8, 9, 10, 11, 12, 13, 14, 15]) (m := 10) (by decide +kernel) (by decide +kernel) ?_
  have hX : ∀ X : Hp, (H ++ X)[g]? = some (.mem [i6 w, i6 0, nilS] true) := fun X => by rw [List.getElem?_append_left hgl]; exact hg
  simp at hX
  simp [h, f3, hX, hS]
  refine ⟨by omega, ?_⟩
  have hA : ∀ (y v : Ob), (H.set g y ++ [v])[g]? = some y := fun y v => by rw [List.getElem?_append_left (by simpa using hgl), List.getElem?_set_self hgl]
  have hB : ∀ (y v : Ob), (H.set g y ++ [v])[H.length]? = some v := fun y v => by rw [List.getElem?_append_right (by simp)]; simp
  have hA' : ∀ (y v z : Ob), (H.set g y ++ [v]).set g z = H.set g z ++ [v] := fun y v z => by rw [List.set_append_left _ _ (by simpa using hgl), List.set_set]
  have hB' : ∀ (y v z : Ob), (H.set g y ++ [v]).set H.length z = H.set g y ++ [z] := fun y v z => by rw [List.set_append_right _ _ (by simp)]; simp
  refine v_loopX hC (fun (k : Nat) e T => T = H.set g (.mem [i6 w, i6 k, .own H.length 0] true) ++ [.vec 0 ((words (packK w l k)).map wc) 1 true true] ∧ e 0 = .ptr g 0 ∧ e 58 = IS kk l ∧ e 59 = i6 l.length ∧ e 60 = i6 k ∧ k ≤ l.length) (fun k => l.length - k) 0 (G.refl ?_) ?_
  · simp [packK_zero, hM, words_zero]
  · rintro k e T ⟨rfl, h0, h58, h59, h60, hk⟩
    simp [h59, h60]
    refine CondV.dec (fun hlt => ?_) (fun hge => ?_)
    · have hlt : k < l.length := by omega
      obtain ⟨x, hx⟩ : ∃ x, l[k]? = some x := ⟨_, List.getElem?_eq_getElem hlt⟩
      obtain ⟨h1, h2⟩ := hin x (List.mem_of_getElem? hx)
      have hxn : x = (x.toNat : Int) := by omega
      have hput := packK_put w l hlt hx
      have hfit : w * k + w ≤ w * l.length := by rw [← Nat.mul_succ]; exact Nat.mul_le_mul_left _ hlt
      simp [h0, h58, h59, h60, hx, hA]
      refine CALLv.at (by rw [hxn]; exact v_pput (g := g) (gw := H.length) (v := 0) (w := w) (n := k) (i := k) (x := x.toNat) (m := packK w l k) (t := true) (by rw [hA]; rfl) (by rw [hB]) hw0 hw (by rw [hP] at h2 ⊢; omega) (by rw [packK_len _ _ hk]; exact hfit) (by rw [packK_len _ _ hk]; omega)) fun u T hu => ?_
      subst hu
      rw [hput, hB']
      simp [h0, h58, h59, h60, hA, hA', w64 (n := (k : Int) + 1) (by omega)]
      refine GH.refl ⟨k + 1, ⟨by simp, by simp [h0], by simp [h58], by simp [h59], by simp, hlt⟩, by omega⟩
    · have hkl : k = l.length := by omega
      subst hkl
      simp [Try.results45]
      exact GV.refl ⟨rfl, by rw [packK_end]; simp⟩
theorem v_pNew {w : Nat} {kk : Bool} {l : List Int} (hw0 : 1 ≤ w) (hw : w ≤ 31) (h0 : 0 < l.length) (hl : l.length ≤ 65536) (hin : ∀ x ∈ l, 0 ≤ x ∧ x < (2 ^ w : Nat)) : A 28 [i6 w, IS kk l] (.tup [arrV w l.length true (packL w l), i6 0]) := by
  intro H
  refine v_enter hC [] (fun _ _ => kn_none rfl) Try.func28 rfl ok28 (Nat.le_of_ble_eq_true rfl) fun hcl hbl => ?_
  simp
  refine v_pright.call ?_
  simp [show (1 : Int) ≤ w by omega, show (w : Int) ≤ 31 by omega]
  refine CALLv.at (v_pAdd (g := H.length) (kk := kk) (by simp) hw0 hw h0 hl hin) fun u T hu => ?_
  obtain ⟨rfl, rfl⟩ := hu
  simp [Try.results28]
  refine GV.ans hcl ?_
  simp [arrV]
/-- The width that numbers must have. -/
def fitW (l : List Int) : Nat := l.foldl (fun w x => max w (wid x.toNat)) 1
theorem fitW_snoc (l : List Int) (x : Int) : fitW (l ++ [x]) = max (fitW l) (wid x.toNat) := by simp [fitW]
theorem wid_le {n k : Nat} (hk : 1 ≤ k) : wid n ≤ k ↔ n < 2 ^ k := by rw [← blen_le]; unfold wid; omega
theorem foldW_le : ∀ (l : List Int) (a : Nat), a ≤ l.foldl (fun w x => max w (wid x.toNat)) a ∧ ∀ x ∈ l, wid x.toNat ≤ l.foldl (fun w x => max w (wid x.toNat)) a
  | [], a => ⟨Nat.le_refl _, fun x hx => by simp at hx⟩
  | y :: l, a => by
    obtain ⟨h1, h2⟩ := foldW_le l (max a (wid y.toNat))
    refine ⟨Nat.le_trans (Nat.le_max_left ..) h1, fun x hx => ?_⟩
    rcases List.mem_cons.1 hx with rfl | hx
    · exact Nat.le_trans (Nat.le_max_right ..) h1
    · exact h2 x hx
theorem foldW_top (k : Nat) : ∀ (l : List Int) (a : Nat), a ≤ k → (∀ x ∈ l, wid x.toNat ≤ k) → l.foldl (fun w x => max w (wid x.toNat)) a ≤ k
  | [], a, h, _ => h
  | y :: l, a, h, hl => foldW_top k l _ (Nat.max_le.2 ⟨h, hl y (by simp)⟩) fun x hx => hl x (by simp [hx])
theorem fitW_pos (l : List Int) : 1 ≤ fitW l := (foldW_le l 1).1
theorem fitW_le {l : List Int} (h : ∀ x ∈ l, 0 ≤ x ∧ x < 2147483648) : fitW l ≤ 31 := foldW_top 31 l 1 (by omega) fun x hx => (wid_le (by omega)).2 (by have := h x hx; omega)
theorem fitW_fits {l : List Int} (h : ∀ x ∈ l, 0 ≤ x) : ∀ x ∈ l, 0 ≤ x ∧ x < (2 ^ fitW l : Nat) := fun x hx => by
  have h1 := (wid_le (fitW_pos l)).1 ((foldW_le l 1).2 x hx)
  have h2 := h x hx
  omega
theorem v_pFit {kk : Bool} {l : List Int} (h0 : 0 < l.length) (hl : l.length ≤ 65536) (hin : ∀ x ∈ l, 0 ≤ x ∧ x < 2147483648) : A 13 [IS kk l] (.tup [arrV (fitW l) l.length true (packL (fitW l) l), i6 0]) := by
  intro H
  have hno : l.any (tooBig 31) = false := by
    rw [List.any_eq_false]
    intro x hx
    obtain ⟨h1, h2⟩ := hin x hx
    simp [tooBig, show ¬ x < 0 by omega, show ¬ 2147483648 ≤ x by omega]
  have hfl := fitW_le hin
  have hfp := fitW_pos l
  refine v_enter hC [] (fun _ _ => kn_none rfl) Try.func13 rfl ok13 (Nat.le_of_ble_eq_true rfl) fun hcl hbl => ?_
  simp
  refine CALLv.at (v_fits (w := 31) (kk := kk) (l := l) (by omega) (by omega) (by omega) (fun x hx => by have := hin x hx; omega) H) fun u T hu => ?_
  obtain ⟨rfl, e2⟩ := hu
  rw [e2]; clear e2 T
  simp [hno]
  refine v_loopX hC (fun (k : Nat) e T => T = H ∧ e 0 = IS kk l ∧ e 4 = i6 (fitW (l.take k)) ∧ e 10 = IS kk l ∧ e 11 = i6 l.length ∧ e 12 = i6 k ∧ k ≤ l.length) (fun k => l.length - k) 0 (G.refl ?_) ?_
  · simp [fitW]
  · rintro k e T ⟨rfl, h0, h4, h10, h11, h12, hk⟩
    simp [h11, h12]
    refine CondV.dec (fun hlt => ?_) (fun hge => ?_)
    · have hlt : k < l.length := by omega
      obtain ⟨x, hx⟩ : ∃ x, l[k]? = some x := ⟨_, List.getElem?_eq_getElem hlt⟩
      obtain ⟨h1, h2⟩ := hin x (List.mem_of_getElem? hx)
      have htk : l.take (k + 1) = l.take k ++ [x] := by rw [List.take_add_one, hx]; rfl
      simp [h4, h10, h12, hx]
      refine (by rw [show x = (x.toNat : Int) by omega]; exact v_Width (n := x.toNat) (by omega) : A 27 [i6 x] (i6 (wid x.toNat))).call ?_
      have hmax : (if fitW (l.take k) < wid x.toNat then ((wid x.toNat : Nat) : Int) else ((fitW (l.take k) : Nat) : Int)) = ((fitW (l.take (k + 1)) : Nat) : Int) := by
        rw [htk, fitW_snoc]; split <;> omega
      simp [h0, h4, h10, h11, h12, hmax, w64 (n := (k : Int) + 1) (by omega)]
      refine GH.refl ⟨k + 1, ⟨rfl, by simp [h0], by simp, by simp [h10], by simp [h11], by simp, hlt⟩, by omega⟩
    · have hkl : k = l.length := by omega
      subst hkl
      simp [h0, h4]
      refine (v_pNew (w := fitW l) (kk := kk) hfp hfl (by omega) hl (fitW_fits fun x hx => (hin x hx).1)).call ?_
      simp [Try.results13]
      first | (refine GV.ans hcl ?_; simp []; done) | (refine GV.ans0 ?_; simp []; done)
end Go.Proofs.Ytibejcomfjddfaa.VM
end
section
set_option maxHeartbeats 8000000
set_option linter.unusedVariables false
set_option linter.unusedSimpArgs false

/- Bytes, one behind the other (as in VX, for seats without nodes). -/
namespace Go.Proofs.Ytibejcomfjddfaa.VM
open Go Go.Proofs AM B
set_option maxRecDepth 100000
theorem parts {ls : List (Bool × List (List V))} {M : Nat} (hn : ∀ p ∈ ls, p.2.length ≤ M) : ∃ (S : Nat → Nat) (F : Nat → List (List V)), S 0 = 0 ∧ F 0 = [] ∧ (∀ k (h : k < ls.length), S (k + 1) = S k + ls[k].2.length ∧ F (k + 1) = F k ++ ls[k].2) ∧ (∀ k, k ≤ ls.length → S k ≤ M * k ∧ (F k).length = S k) ∧ F ls.length = (ls.map (·.2)).flatten := by
  have h1 : ∀ k (h : k < ls.length), (((ls.take (k + 1)).map (·.2)).flatten).length = (((ls.take k).map (·.2)).flatten).length + ls[k].2.length ∧ ((ls.take (k + 1)).map (·.2)).flatten = ((ls.take k).map (·.2)).flatten ++ ls[k].2 := fun k h => by
    rw [List.take_succ_eq_append_getElem h, List.map_append, List.flatten_append]
    simp only [List.map_cons, List.map_nil, List.flatten_cons, List.flatten_nil, List.append_nil, List.length_append, and_self]
  refine ⟨fun k => (((ls.take k).map (·.2)).flatten).length, fun k => ((ls.take k).map (·.2)).flatten, by simp, by simp, h1, fun k => ?_, by simp⟩
  refine fun hk => ⟨?_, rfl⟩
  induction k with
  | zero => simp
  | succ k ih =>
    have h2 := (h1 k hk).1
    have h3 := hn ls[k] (List.getElem_mem hk)
    have h4 := ih (by omega)
    dsimp only at h2 h4 ⊢
    rw [h2, Nat.mul_add]
    omega
theorem v_bGrow {n : Nat} (hn : n ≤ 100000000) : AO 48 [.lit (.slice none 0 0), i6 n] 1 [] := by
  intro H
  refine v_enter hC [] (fun _ _ => kn_none rfl) Try.func48 rfl ok48 (Nat.le_of_ble_eq_true rfl) fun hcl hbl => ?_
  simp
  refine CondV.dec (fun h => by omega) (fun h => ?_)
  simp [w64 (n := (n : Int)) (by omega), w64 (n := (0 : Int)) (by omega)]
  refine CondV.dec (fun h => ?_) (fun h => ?_)
  · simp [bounds, h, Try.results48]
    exact ⟨by omega, GV.own hcl (List.getElem?_concat_length ..) (Nat.le_refl _) (by simp) (by simp) ⟨_, _, rfl, rfl⟩⟩
  · simp [Try.results48]
    exact GV.nil0 hcl (by omega) (by omega) ⟨_, _, rfl, rfl⟩
theorem v_bConcat {kk : Bool} {ls : List (Bool × List (List V))} (hs : ∀ p ∈ ls, RowsOk 1 p.2) (hp : ∀ p ∈ ls, PureR p.2) (hl : ls.length ≤ 1000) (hn : ∀ p ∈ ls, p.2.length ≤ 100000) : AO 32 [.fsl kk 1 (ls.map fun p => [.fsl p.1 1 p.2])] 1 (ls.map (·.2)).flatten := by
  intro H
  refine v_enter hC [] (fun _ _ => kn_none rfl) Try.func32 rfl ok32 (Nat.le_of_ble_eq_true rfl) fun hcl hbl => ?_
  simp
  obtain ⟨S, F, s0, f0, hk1, hk2, hF⟩ := parts hn
  rw [← hF]
  have get : ∀ {k : Nat} (h : k < ls.length), ls[k]? = some ls[k] := fun h => List.getElem?_eq_getElem h
  refine v_loopX hC (fun (k : Nat) e T => T = H ∧ e 0 = .fsl kk 1 (ls.map fun p => [.fsl p.1 1 p.2]) ∧ e 3 = i6 (S k) ∧ e 9 = e 0 ∧ e 10 = i6 ls.length ∧ e 11 = i6 k ∧ k ≤ ls.length) (fun k => ls.length - k) 0 (G.refl ?_) ?_
  · simp [s0]
  · rintro k e T ⟨rfl, h0, h3, h9, h10, h11, hk⟩
    have b1 := hk2 k hk
    simp [h0, h3, h9, h10, h11]
    refine CondV.dec (fun hlt => ?_) (fun hge => ?_)
    · have b2 := hk1 k hlt
      have b3 := hn ls[k] (List.getElem_mem hlt)
      simp [h0, h3, h9, h10, h11, get hlt, w64 (n := (S k : Int) + ls[k].2.length) (by omega)]
      refine CondV.dec (fun h => by omega) (fun h => ?_)
      simp [h0, h3, h9, h10, h11, w64 (n := (k : Int) + 1) (by omega)]
      refine GH.refl ⟨k + 1, ⟨rfl, ?_, ?_, ?_, ?_, ?_, hlt⟩, by omega⟩ <;> simp [h0, h9, h10, b2.1]
    · have hke : k = ls.length := by omega
      subst hke
      simp [h3]
      refine (v_bGrow (by omega)).call fun w t => ?_
      simp [h0]
      refine v_loopX hC (fun (k : Nat) e U => ∃ w t, U = T ++ [.vec w (F k) 1 true t] ∧ e 6 = .own T.length w ∧ e 25 = .fsl kk 1 (ls.map fun p => [.fsl p.1 1 p.2]) ∧ e 26 = i6 ls.length ∧ e 27 = i6 k ∧ k ≤ ls.length) (fun k => ls.length - k) 0 (G.refl ?_) ?_
      · exact ⟨w, t, by simp [f0]⟩
      · rintro k e U ⟨w, t, rfl, h6, h25, h26, h27, hk⟩
        have b1 := hk2 k hk
        simp [h6, h25, h26, h27]
        refine CondV.dec (fun hlt => ?_) (fun hge => ?_)
        · have b2 := hk1 k hlt
          have b3 := hn ls[k] (List.getElem_mem hlt)
          simp [h6, h25, h26, h27, get hlt, hs ls[k] (List.getElem_mem hlt)]
          refine ⟨by omega, ?_⟩
          simp [h6, h25, h26, h27, w64 (n := (k : Int) + 1) (by omega)]
          refine GH.refl ⟨k + 1, ⟨w + 1, t, ?_, ?_, ?_, ?_, ?_, hlt⟩, by omega⟩ <;> simp [h25, h26, b2.2]
        · have hke : k = ls.length := by omega
          subst hke
          simp [h6, Try.results32]
          refine GV.own hcl (List.getElem?_concat_length ..) (Nat.le_refl _) ?_ ?_ ⟨_, _, rfl, rfl⟩
          · rw [hF]; intro r hr
            obtain ⟨l, hl, hr⟩ := List.mem_flatten.1 hr
            obtain ⟨p, hp, rfl⟩ := List.mem_map.1 hl
            exact hs p hp r hr
          · rw [hF]; intro r hr
            obtain ⟨l, hl, hr⟩ := List.mem_flatten.1 hr
            obtain ⟨p, hp', rfl⟩ := List.mem_map.1 hl
            exact hp p hp' r hr
/-- Bytes, one behind the other. -/
theorem v_bCat {kk : Bool} {ls : List (Bool × List Int)} (hl : ls.length ≤ 1000) (hn : ∀ p ∈ ls, p.2.length ≤ 100000) : A 32 [.fsl kk 1 (ls.map fun p => [BS p.1 p.2])] (BS true (ls.map (·.2)).flatten) := by
  have h := (v_bConcat (kk := kk) (ls := ls.map fun p => (p.1, p.2.map bc)) (fun p hp => by
    obtain ⟨q, _, rfl⟩ := List.mem_map.1 hp
    intro r hr
    obtain ⟨x, _, rfl⟩ := List.mem_map.1 hr
    exact ⟨rfl, rfl⟩) (fun p hp => by
    obtain ⟨q, _, rfl⟩ := List.mem_map.1 hp
    exact PureR_map.2 (by simp)) (by simpa using hl) (fun p hp => by
    obtain ⟨q, hq, rfl⟩ := List.mem_map.1 hp
    simpa using hn q hq)).fro (by
    intro r hr
    obtain ⟨l, hl, hr⟩ := List.mem_flatten.1 hr
    obtain ⟨p, hp, rfl⟩ := List.mem_map.1 hl
    obtain ⟨q, _, rfl⟩ := List.mem_map.1 hp
    obtain ⟨x, _, rfl⟩ := List.mem_map.1 hr
    rfl) true
  have e1 : (List.map (fun p : Bool × List (List V) => [V.fsl p.1 1 p.2]) (ls.map fun p => (p.1, p.2.map bc))) = ls.map fun p => [BS p.1 p.2] := by rw [List.map_map]; rfl
  have e2 : ((ls.map fun p => (p.1, p.2.map bc)).map (·.2)).flatten = ((ls.map (·.2)).flatten).map bc := by
    rw [List.map_map, List.map_flatten, List.map_map]; rfl
  rw [e1, e2] at h
  exact h
theorem v_PutO {kk : Bool} {l : List Int} (hl : l.length ≤ 10000) (hr : ∀ n ∈ l, n < 9223372036854775808) (hnn0 : ∀ n ∈ l, 0 ≤ n) : AO 33 [IS kk l] 1 ((vencs l).map bc) := by
  intro H
  refine v_enter hC [] (fun _ _ => kn_none rfl) Try.func33 rfl ok33 (Nat.le_of_ble_eq_true rfl) fun hcl hbl => ?_
  simp
  have get : ∀ {k : Nat} (h : k < l.length), l[k]? = some l[k] := fun h => List.getElem?_eq_getElem h
  refine v_loopX hC (fun (k : Nat) e T => ∃ w t, T = H ++ [.vec w ((vencs (l.take k)).map bc) 1 true t] ∧ e 3 = .own H.length w ∧ e 6 = IS kk l ∧ e 7 = i6 l.length ∧ e 8 = i6 k ∧ k ≤ l.length ∧ ∀ n ∈ l.take k, 0 ≤ n) (fun k => l.length - k) 0 ?_ ?_
  · refine G.nilT0 (s := 1) 3 hcl (Nat.le_refl _) (by omega) (by simp) ?_
    exact ⟨0, true, by simp [vencs], by simp, by simp, by simp, by simp, by simp, by simp⟩
  · rintro k e T ⟨w, t, rfl, h3, h6, h7, h8, hk, hpos⟩
    simp [h3, h6, h7, h8]
    refine CondV.dec (fun hlt => ?_) (fun hge => ?_)
    · simp [h3, h6, h7, h8, get hlt]
      have hrk := hr l[k] (List.getElem_mem hlt)
      refine CondV.dec (fun hneg => ?_) (fun hnn => ?_)
      · have := hnn0 l[k] (List.getElem_mem hlt); omega
      · obtain ⟨n, hln⟩ : ∃ n : Nat, l[k] = n := ⟨l[k].toNat, by omega⟩
        have hw : IntKind.u64.wrap l[k] = (n : Int) := by simp [IntKind.wrap, IntKind.bits, IntKind.signed]; omega
        have hlen : (vencs (l.take k)).length ≤ 100000 := by
          have := vencs_length (l.take k)
          rw [List.length_take] at this
          omega
        simp [h3, hw]
        refine CALLv.at (v_put (n := n) (rows := (vencs (l.take k)).map bc) (List.getElem?_concat_length ..) (by simp) (by simp; omega) (by omega)) fun u T' hu => ?_
        obtain ⟨w2, e1, e2⟩ := hu
        subst e1; subst e2
        simp [h3, h6, h7, h8, w64 (n := (k : Int) + 1) (by omega)]
        refine GH.refl ⟨k + 1, ⟨w2, t, ?_, ?_, ?_, ?_, ?_, hlt, ?_⟩, by omega⟩ <;> (try simp [h6, h7])
        · rw [List.take_succ_eq_append_getElem hlt, vencs_append]
          simp [vencs, hln]
        · rw [List.take_succ_eq_append_getElem hlt]
          intro n hn
          rcases List.mem_append.1 hn with hn | hn
          · exact hpos n hn
          · simp at hn; subst hn; omega
    · have ht : l.take k = l := List.take_of_length_le (by omega)
      rw [ht]
      simp [h3, Try.results33]
      exact GV.own hcl (List.getElem?_concat_length ..) (Nat.le_refl _) (fun r hr => by obtain ⟨x, _, rfl⟩ := List.mem_map.1 hr; exact ⟨rfl, rfl⟩) (PureR_map.2 (by simp)) ⟨_, _, rfl, rfl⟩
end Go.Proofs.Ytibejcomfjddfaa.VM
end
section
set_option maxHeartbeats 8000000
set_option linter.unusedVariables false
set_option linter.unusedSimpArgs false

/- packed: At, Size, Bytes; rank: Bytes. -/
namespace Go.Proofs.Ytibejcomfjddfaa.VM
open Go Go.Proofs AM
set_option maxRecDepth 100000
def pAtV (w n : Nat) (m : List Bool) (i : Int) : V := if 0 ≤ i ∧ i < n then .tup [i6 (getN m (w * i.toNat) w), i6 0] else .tup [i6 0, i6 10]
theorem v_pAt {w n : Nat} {i : Int} {m : List Bool} {kk : Bool} (hw0 : 1 ≤ w) (hw : w ≤ 31) (hm : m.length = w * n) (hn : n ≤ 65536) : A 31 [arrV w n kk m, i6 i] (pAtV w n m i) := by
  intro H
  have hmb : w * n ≤ 31 * 65536 := Nat.mul_le_mul hw hn
  refine v_enter hC [] (fun _ _ => kn_none rfl) Try.func31 rfl ok31 (Nat.le_of_ble_eq_true rfl) fun hcl hbl => ?_
  by_cases hi : 0 ≤ i
  · obtain ⟨k, rfl⟩ : ∃ k : Nat, i = k := ⟨i.toNat, by omega⟩
    simp [arrV]
    refine CondV.dec (fun h1 => ?_) (fun h1 => ?_)
    · have h2 : ¬ (k : Int) < n := by omega
      simp [Try.results31]
      first | (refine GV.ans hcl ?_; simp [pAtV, h2]; done) | (refine GV.ans0 ?_; simp [pAtV, h2]; done)
    · have h2 : k < n := by omega
      have hfit : w * k + w ≤ m.length := by rw [hm, ← Nat.mul_succ]; exact Nat.mul_le_mul_left _ h2
      have hg := v_pget (n := n) (i := k) (m := m) (kk := kk) hw0 hw hfit (by omega)
      simp [arrV] at hg
      simp
      refine hg.call ?_
      simp [Try.results31]
      first | (refine GV.ans hcl ?_; simp [pAtV, h2]; done) | (refine GV.ans0 ?_; simp [pAtV, h2]; done)
  · have h0 : i < 0 := by omega
    simp [arrV, h0, Try.results31]
    first | (refine GV.ans hcl ?_; simp [pAtV, hi]; done) | (refine GV.ans0 ?_; simp [pAtV, hi]; done)
theorem v_pSize {w n : Nat} (hw0 : 1 ≤ w) (hw : w ≤ 31) (hn : n ≤ 65536) : A 50 [i6 w, i6 n] (i6 ((w * n + 7) / 8 : Nat)) := by
  intro H
  have hmb : w * n ≤ 31 * 65536 := Nat.mul_le_mul hw hn
  have f1 : IntKind.i64.wrap ((w : Int) * (n : Int)) = ((w * n : Nat) : Int) := mul64 (by omega)
  obtain ⟨M, hM⟩ : ∃ M, w * n = M := ⟨_, rfl⟩
  rw [hM] at f1 ⊢
  have f2 : IntKind.i64.wrap ((IntKind.i64.wrap ((M : Int) + 7)).tdiv 8) = (((M + 7) / 8 : Nat) : Int) := by
    rw [w64 (n := (M : Int) + 7) (by omega), Int.tdiv_eq_ediv_of_nonneg (by omega), w64 (by omega)]; omega
  refine v_enter hC [] (fun _ _ => kn_none rfl) Try.func50 rfl ok50 (Nat.le_of_ble_eq_true rfl) fun hcl hbl => ?_
  simp
  refine v_pright.call ?_
  simp [show (1 : Int) ≤ w by omega, show (w : Int) ≤ 31 by omega, show ¬ (n : Int) < 0 by omega, show ¬ (65536 : Int) < n by omega, f1, f2, Try.results50]
  refine GV.ans0 ?_
  simp
/-- Bits as bytes. -/
def bytesB (m : List Bool) : List Int := (List.range ((m.length + 7) / 8)).map fun k => (getN m (8 * k) 8 : Int)
theorem byte_at (m : List Bool) (k : Nat) : wd m (k / 8) / 2 ^ (8 * (k % 8)) % 2 ^ 8 = getN m (8 * k) 8 := by
  apply Nat.eq_of_testBit_eq
  intro i
  rw [Nat.testBit_mod_two_pow, Nat.testBit_div_two_pow, wd_bit, getN_bit]
  by_cases hi : i < 8
  · rw [show 64 * (k / 8) + (i + 8 * (k % 8)) = 8 * k + i by omega]
    simp [hi]
    omega
  · simp [hi]
theorem byteF (m : List Bool) {k q s : Nat} (hq : k / 8 = q) (hs : 8 * (k % 8) = s) : IntKind.u8.wrap (((wd m q : Nat) : Int).fdiv (2 ^ min s IntKind.u64.bits)) = ((getN m (8 * k) 8 : Nat) : Int) := by
  rw [u64_sh _ _ (by omega), ← hq, ← hs, ← byte_at]
  simp [IntKind.wrap, IntKind.bits, IntKind.signed]
theorem putB_one (n : Nat) : putB [(n : Int)] = venc n := by simp [putB, vencs]
theorem bytesB_take (m : List Bool) {k : Nat} (hk : k < (m.length + 7) / 8) : (bytesB m).take (k + 1) = (bytesB m).take k ++ [(getN m (8 * k) 8 : Int)] := by
  rw [List.take_add_one]
  congr 1
  unfold bytesB
  rw [List.getElem?_map, List.getElem?_range hk]
  rfl
theorem bytesB_len (m : List Bool) : (bytesB m).length = (m.length + 7) / 8 := by simp [bytesB]
theorem v_pBytes {w n : Nat} {m : List Bool} {kk : Bool} (hw0 : 1 ≤ w) (hw : w ≤ 31) (hm : m.length = w * n) (hn : n ≤ 65536) : A 35 [arrV w n kk m] (BS true ((w : Int) :: (venc n ++ bytesB m))) := by
  intro H
  have hmb : w * n ≤ 31 * 65536 := Nat.mul_le_mul hw hn
  have hvl := venc_length n
  have f1 : IntKind.u8.wrap (w : Int) = (w : Int) := by simp [IntKind.wrap, IntKind.bits, IntKind.signed]; omega
  have hyl := bytesB_len m
  refine v_enter hC [12] (fun _ _ => kn_none rfl) Try.func35 rfl ok35 (Nat.le_of_ble_eq_true rfl) fun hcl hbl => ?_
  simp [arrV]
  refine v_draw (ord := [0, 1, 2, 3, 4, 5, 6, 7, 8, 9, 10, 11, 12, 13]) (m := 12) (by decide +kernel) (by decide +kernel) ?_
  simp [f1]
  refine (v_Put (kk := true) (l := [(n : Int)]) (by simp) (by simp; omega)).call ?_
  simp [putB_one]
  refine ⟨by omega, ?_⟩
  refine v_draw (ord := [0, 1, 2, 3, 4, 5, 6, 7, 8, 9]) (m := 8) (by decide +kernel) (by decide +kernel) ?_
  simp
  refine (v_pSize hw0 hw hn).call ?_
  rw [← hm, ← hyl]
  simp
  have hn64 : (bytesB m).length ≤ 1000000 := by omega
  refine v_loopX hC (fun (k : Nat) e T => (∃ v t, T = H ++ [.vec v (((w : Int) :: (venc n ++ (bytesB m).take k)).map bc) 1 true t] ∧ e 3 = .own H.length v) ∧ e 0 = arrV w n kk m ∧ e 28 = i6 (bytesB m).length ∧ e 29 = i6 k ∧ k ≤ (bytesB m).length) (fun k => (bytesB m).length - k) 0 (G.refl ?_) ?_
  · exact ⟨⟨_, _, by simp; exact ⟨rfl, rfl⟩, by simp⟩, by simp [arrV], by simp, by simp, by omega⟩
  · rintro k e T ⟨⟨v, t, rfl, h3⟩, h0, h28, h29, hk⟩
    simp [h28, h29]
    refine CondV.dec (fun hlt => ?_) (fun hge => ?_)
    · have hlt : k < (bytesB m).length := by omega
      have hlt' : k < (m.length + 7) / 8 := by omega
      obtain ⟨q, hq⟩ : ∃ q, k / 8 = q := ⟨_, rfl⟩
      obtain ⟨j, hj⟩ : ∃ j, k % 8 = j := ⟨_, rfl⟩
      obtain ⟨s, hs⟩ : ∃ s, 8 * j = s := ⟨_, rfl⟩
      have d1 : IntKind.i64.wrap ((k : Int) / 8) = (q : Int) := by rw [w64 (by omega)]; omega
      have d2 : ((k : Int)).tmod 8 = (j : Int) := by rw [Int.tmod_eq_emod_of_nonneg (by omega)]; omega
      have d3 : IntKind.i64.wrap (8 * (j : Int)) = (s : Int) := by rw [w64 (by omega)]; omega
      have hqw : q < nw m.length := by unfold nw; omega
      have bf := byteF m (k := k) (q := q) (s := s) hq (by rw [hj]; exact hs)
      have htk := bytesB_take m hlt'
      simp [h0, h3, h28, h29, arrV, d1, d2, d3, words_at m hqw, bf, show ¬ (s : Int) < 0 by omega, w64 (n := (k : Int) + 1) (by omega)]
      refine ⟨by omega, GH.refl ⟨k + 1, ⟨⟨v + 1, t, ?_, ?_⟩, by simp [h0, arrV], by simp [h28], by simp, hlt⟩, by omega⟩⟩
      · simp [htk]
      · simp
    · have hkl : k = (bytesB m).length := by omega
      subst hkl
      simp [h3, Try.results35]
      refine GV.ans hcl ?_
      simp
theorem v_rBytes {g : Nat} {m : List Bool} : ∀ H, rowR H g m → VC Try.prog prims 34 [.ptr g 0] H fun u T => u = BS true (venc m.length ++ bytesB m) ∧ T = H := by
  rintro H ⟨r, rw, h, hm⟩
  have hvl := venc_length m.length
  have hyl := bytesB_len m
  obtain ⟨a, b, c, d, e0, hx⟩ := rowX_ex m r
  rw [hx] at h
  simp at h
  have hgl := get_lt h
  have hX : ∀ X : Hp, (H ++ X)[g]? = some (.mem [i6 m.length, WS true m, a, b, c, d, e0] rw) := fun X => by rw [List.getElem?_append_left hgl]; exact h
  simp at hX
  have f2 : IntKind.i64.wrap ((IntKind.i64.wrap ((m.length : Int) + 7)).tdiv 8) = (((bytesB m).length : Nat) : Int) := by
    rw [w64 (n := (m.length : Int) + 7) (by omega), Int.tdiv_eq_ediv_of_nonneg (by omega), w64 (by omega)]; omega
  refine v_enter hC [] (fun _ _ => kn_none rfl) Try.func34 rfl ok34 (Nat.le_of_ble_eq_true rfl) fun hcl hbl => ?_
  simp [h]
  refine (v_PutO (kk := true) (l := [(m.length : Int)]) (by simp) (by simp; omega) (by simp)).call fun w t => ?_
  simp [hX, f2, vencs]
  refine v_loopX hC (fun (k : Nat) e T => (∃ v t, T = H ++ [.vec v ((venc m.length ++ (bytesB m).take k).map bc) 1 true t] ∧ e 3 = .own H.length v) ∧ e 0 = .ptr g 0 ∧ e 18 = i6 (bytesB m).length ∧ e 19 = i6 k ∧ k ≤ (bytesB m).length) (fun k => (bytesB m).length - k) 0 (G.refl ?_) ?_
  · exact ⟨⟨_, _, by simp; exact ⟨rfl, rfl⟩, by simp⟩, by simp, by simp, by simp, by omega⟩
  · rintro k e T ⟨⟨v, t, rfl, h3⟩, h0, h18, h19, hk⟩
    simp [h18, h19]
    refine CondV.dec (fun hlt => ?_) (fun hge => ?_)
    · have hlt : k < (bytesB m).length := by omega
      have hlt' : k < (m.length + 7) / 8 := by omega
      obtain ⟨q, hq⟩ : ∃ q, k / 8 = q := ⟨_, rfl⟩
      obtain ⟨j, hj⟩ : ∃ j, k % 8 = j := ⟨_, rfl⟩
      obtain ⟨s, hs⟩ : ∃ s, 8 * j = s := ⟨_, rfl⟩
      have d1 : IntKind.i64.wrap ((k : Int) / 8) = (q : Int) := by rw [w64 (by omega)]; omega
      have d2 : ((k : Int)).tmod 8 = (j : Int) := by rw [Int.tmod_eq_emod_of_nonneg (by omega)]; omega
      have d3 : IntKind.i64.wrap (8 * (j : Int)) = (s : Int) := by rw [w64 (by omega)]; omega
      have hqw : q < nw m.length := by unfold nw; omega
      have bf := byteF m (k := k) (q := q) (s := s) hq (by rw [hj]; exact hs)
      have htk := bytesB_take m hlt'
      simp [h0, h3, h18, h19, hX, d1, d2, d3, words_at m hqw, bf, show ¬ (s : Int) < 0 by omega, w64 (n := (k : Int) + 1) (by omega)]
      refine ⟨by omega, GH.refl ⟨k + 1, ⟨⟨v + 1, t, ?_, ?_⟩, by simp [h0], by simp [h18], by simp, hlt⟩, by omega⟩⟩
      · simp [htk]
      · simp
    · have hkl : k = (bytesB m).length := by omega
      subst hkl
      simp [h3, Try.results34]
      refine GV.ans hcl ?_
      simp
end Go.Proofs.Ytibejcomfjddfaa.VM
end
section
set_option maxHeartbeats 8000000
set_option linter.unusedVariables false
set_option linter.unusedSimpArgs false

/- The document's bits as bytes: layers 12 and 13. -/
namespace Go.Proofs.Ytibejcomfjddfaa.VM
open Go Go.Proofs AM
set_option maxRecDepth 100000
/-- A bit, in a row. -/
def bb (b : Bool) : List V := [bo b]
def LB (kk : Bool) (m : List Bool) : V := .fsl kk 1 (m.map bb)
attribute [simp] bb LB
theorem getN_succ (m : List Bool) (o w : Nat) : getN m o (w + 1) = (m.getD o false).toNat + 2 * getN m (o + 1) w := by
  unfold getN
  by_cases h : o < m.length
  · rw [List.drop_eq_getElem_cons h, List.take_succ_cons]
    simp only [ofB]
    rw [List.getD_eq_getElem?_getD, List.getElem?_eq_getElem h]; rfl
  · rw [List.drop_of_length_le (by omega), List.drop_of_length_le (by omega), List.getD_eq_getElem?_getD, List.getElem?_eq_none (by omega)]
    simp [ofB]
theorem getN_zero (m : List Bool) (o : Nat) : getN m o 0 = 0 := by simp [getN, ofB]
theorem getD_lt {m : List Bool} {k : Nat} (h : k < m.length) : m[k]? = some (m.getD k false) := by rw [List.getD_eq_getElem?_getD, List.getElem?_eq_getElem h]; rfl
theorem getD_ge {m : List Bool} {k : Nat} (h : m.length ≤ k) : m.getD k false = false := by rw [List.getD_eq_getElem?_getD, List.getElem?_eq_none h]; rfl
theorem v_rPutO {n : Nat} (hn : n < 18446744073709551616) : AO 37 [.lit (.int .u64 n)] 1 ((venc n).map bc) := by
  intro H
  refine v_enter hC [] (fun _ _ => kn_none rfl) Try.func37 rfl ok37 (Nat.le_of_ble_eq_true rfl) fun hcl hbl => ?_
  simp
  refine v_loopX hC (fun (X : Nat × List Int) e T => ∃ w t, T = H ++ [.vec w (X.2.map bc) 1 true t] ∧ e 0 = .lit (.int .u64 X.1) ∧ e 3 = .own H.length w ∧ X.1 < 18446744073709551616 ∧ venc n = X.2 ++ venc X.1) (fun X => X.1) (n, []) ?_ ?_
  · refine G.nilT0 (s := 1) 3 hcl (Nat.le_refl _) (by omega) (by simp) ?_
    exact ⟨0, true, by simp, by simp, by simp, hn, by simp⟩
  · rintro ⟨m, done⟩ e T ⟨w, t, rfl, h0, h3, hm, hv⟩
    simp only at h0 hm hv
    have hlen : done.length + (venc m).length ≤ 10 := by have := venc_length n; rw [hv, List.length_append] at this; exact this
    have hpos := venc_pos m
    have hw1 : IntKind.u8.wrap ((m : Int) % 128) = ((m % 128 : Nat) : Int) := by
      simp [IntKind.wrap, IntKind.bits, IntKind.signed]; omega
    have hw3 : IntKind.u8.wrap ((m : Int).tmod 128) = ((m % 128 : Nat) : Int) := by
      rw [Int.tmod_eq_emod_of_nonneg (by omega)]; exact hw1
    have hw2 : IntKind.u64.wrap ((m : Int) / 128) = ((m / 128 : Nat) : Int) := by
      simp [IntKind.wrap, IntKind.bits, IntKind.signed]; omega
    simp [h0, h3, hw1, hw2, hw3]
    refine CondV.dec (fun hz => ?_) (fun hnz => ?_)
    · have hlt : m < 128 := by omega
      have hv2 : venc n = done ++ [(m : Int)] := by rw [hv, venc_lt m hlt]
      simp [h0, h3, hw1, hw2, hw3, Try.results37]
      refine ⟨by omega, ?_⟩
      have hmm : (m : Int) % 128 = m := by omega
      have hmap : done.map bc ++ [bc (m : Int)] = (venc n).map bc := by rw [hv2]; simp
      rw [hmm, show [V.lit (Value.int IntKind.u8 (m : Int))] = bc (m : Int) from rfl, hmap]
      exact GV.own hcl (List.getElem?_concat_length ..) (Nat.le_refl _) (fun r hr => by obtain ⟨x, _, rfl⟩ := List.mem_map.1 hr; exact ⟨rfl, rfl⟩) (PureR_map.2 (by simp)) ⟨_, _, rfl, rfl⟩
    · have hge : 128 ≤ m := by omega
      have hvm := venc_ge m hge hm
      have hw4 : IntKind.u8.wrap ((m : Int) % 128 + 128) = ((m % 128 + 128 : Nat) : Int) := by
        simp [IntKind.wrap, IntKind.bits, IntKind.signed]; omega
      simp [h0, h3, hw1, hw2, hw3, hw4]
      refine ⟨by omega, GH.refl ⟨(m / 128, done ++ [((m % 128 + 128 : Nat) : Int)]), ⟨w + 1, t, ?_, ?_, ?_, ?_, ?_⟩, ?_⟩⟩
      · simp
      · simp
      · simp
      · simp only; omega
      · simp only; rw [hv, hvm]; simp
      · simp only; omega
theorem v_r13Bytes {kk : Bool} {m : List Bool} (hm : m.length ≤ 3000000) : A 38 [LB kk m] (BS true (venc m.length ++ bytesB m)) := by
  intro H
  have hvl := venc_length m.length
  have hyl := bytesB_len m
  have f0 : IntKind.u64.wrap (m.length : Int) = (m.length : Int) := wrap64 (by omega)
  have hput : AO 37 [.lit (.int .u64 m.length)] 1 ((venc m.length).map bc) := v_rPutO (by omega)
  refine v_enter hC [] (fun _ _ => kn_none rfl) Try.func38 rfl ok38 (Nat.le_of_ble_eq_true rfl) fun hcl hbl => ?_
  simp [f0]
  refine hput.call fun w t => ?_
  simp
  refine v_loopX hC (fun (k : Nat) e T => (∃ v t, T = H ++ [.vec v ((venc m.length ++ (bytesB m).take k).map bc) 1 true t] ∧ e 3 = .own H.length v) ∧ e 0 = LB kk m ∧ e 4 = i6 ((8 * k : Nat) : Int) ∧ k ≤ (bytesB m).length) (fun k => (bytesB m).length - k) 0 (G.refl ?_) ?_
  · exact ⟨⟨_, _, by simp; exact ⟨rfl, rfl⟩, by simp⟩, by simp, by simp, by omega⟩
  · rintro k e T ⟨⟨v, t, rfl, h3⟩, h0, h4, hk⟩
    obtain ⟨i, hi⟩ : ∃ i, 8 * k = i := ⟨_, rfl⟩
    rw [hi] at h4
    simp [h0, h4]
    refine CondV.dec (fun hlt => ?_) (fun hge => ?_)
    · have hlt : k < (m.length + 7) / 8 := by omega
      have htk := bytesB_take m hlt
      rw [hi] at htk
      simp
      refine v_loopX hC (fun (j : Nat) e' T' => T' = H ++ [.vec v ((venc m.length ++ (bytesB m).take k).map bc) 1 true t] ∧ j ≤ 8 ∧ e' 0 = LB kk m ∧ e' 3 = .own H.length v ∧ e' 4 = i6 i ∧ e' 5 = i6 (getN m (i + (8 - j)) j : Nat) ∧ e' 6 = i6 (7 - (j : Int))) (fun j => 8 - j) 0 (G.refl ?_) ?_
      · simp [h0, h3, h4, getN_zero]
      · rintro j e' T' ⟨rfl, hj8, g0, g3, g4, g5, g6⟩
        have hgl := getN_lt m (i + (8 - j)) j
        have hpow : 2 ^ j ≤ 2 ^ 8 := Nat.pow_le_pow_right (by omega) hj8
        simp [g6]
        refine CondV.dec (fun hj => ?_) (fun hj => ?_)
        · have hj : j < 8 := by omega
          obtain ⟨c, hc⟩ : ∃ c, getN m (i + (8 - j)) j = c := ⟨_, rfl⟩
          have hcn : getN m (i + (8 - (j + 1))) (j + 1) = (m.getD (i + 7 - j) false).toNat + 2 * c := by
            rw [getN_succ, ← hc]; congr 3 <;> omega
          rw [hc] at g5 hgl
          have w1 : IntKind.i64.wrap (2 * (c : Int)) = ((2 * c : Nat) : Int) := by rw [w64 (by omega)]; omega
          obtain ⟨p, hp⟩ : ∃ p, i + 7 - j = p := ⟨_, rfl⟩
          rw [hp] at hcn
          have w2 : IntKind.i64.wrap ((i : Int) + (7 - (j : Int))) = (p : Int) := by rw [w64 (by omega)]; omega
          have w3 : IntKind.i64.wrap (7 - (j : Int) - 1) = 7 - ((j + 1 : Nat) : Int) := by rw [w64 (by omega)]; omega
          simp [g0, g3, g4, g5, g6, w1, w2]
          refine GuardR.dec (fun hpl => ?_) (fun hpl => ?_)
          · simp [g0, g3, g4, g5, g6, w1, w2, hpl, getD_lt hpl]
            refine CondV.on (fun hb => ?_) (fun hb => ?_)
            · rw [show m.getD p false = m[p] by simp [hpl], hb] at hcn
              have w4 : IntKind.i64.wrap (((2 * c : Nat) : Int) + 1) = ((getN m (i + (8 - (j + 1))) (j + 1) : Nat) : Int) := by rw [hcn, w64 (by omega)]; simp; omega
              simp at w4
              simp [g0, g3, g4, g5, g6, w3, w4]
              refine GH.refl ⟨j + 1, ⟨by simp, by omega, by simp [g0], by simp [g3], by simp [g4], by simp, by simp⟩, by omega⟩
            · rw [show m.getD p false = m[p] by simp [hpl], hb] at hcn
              have w4 : ((2 * c : Nat) : Int) = ((getN m (i + (8 - (j + 1))) (j + 1) : Nat) : Int) := by rw [hcn]; simp
              simp at w4
              simp [g0, g3, g4, g5, g6, w3, w4]
              refine GH.refl ⟨j + 1, ⟨by simp, by omega, by simp [g0], by simp [g3], by simp [g4], by simp, by simp⟩, by omega⟩
          · rw [getD_ge (by omega)] at hcn
            have w4 : ((2 * c : Nat) : Int) = ((getN m (i + (8 - (j + 1))) (j + 1) : Nat) : Int) := by rw [hcn]; simp
            simp at w4
            simp [g0, g3, g4, g5, g6, w1, w2, hpl, w3, w4]
            refine GH.refl ⟨j + 1, ⟨by simp, by omega, by simp [g0], by simp [g3], by simp [g4], by simp, by simp⟩, by omega⟩
        · have hj8' : j = 8 := by omega
          subst hj8'
          have w5 : IntKind.u8.wrap ((getN m i 8 : Nat) : Int) = ((getN m i 8 : Nat) : Int) := by
            simp at hgl
            simp [IntKind.wrap, IntKind.bits, IntKind.signed]; omega
          have w6 : IntKind.i64.wrap ((i : Int) + 8) = ((8 * (k + 1) : Nat) : Int) := by rw [w64 (by omega)]; omega
          simp [g0, g3, g4, g5, w5, w6]
          refine ⟨by omega, GH.refl ⟨k + 1, ⟨⟨v + 1, t, ?_, ?_⟩, by simp [g0], by simp, by omega⟩, by omega⟩⟩
          · simp [htk]
          · simp
    · have hkl : k = (bytesB m).length := by omega
      subst hkl
      simp [h3, Try.results38]
      refine GV.ans hcl ?_
      simp
end Go.Proofs.Ytibejcomfjddfaa.VM
end
