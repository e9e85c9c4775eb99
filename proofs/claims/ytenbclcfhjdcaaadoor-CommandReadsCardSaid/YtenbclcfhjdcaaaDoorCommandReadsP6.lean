/- What the proof of CommandReads rests on, part 6 of 7. -/
import Derived.Test.YtenbclcfhjdcaaaDoorCommandReadsP5
import Derived.Test.YtenbclcfhjdcaaaDoorCommandReadsS
import Derived.BigQuiet
import Derived.Carry
import Derived.ChangeSame
import Derived.Deep.AppendLies
import Derived.Deep.DeepFit
import Derived.Deep.Draws
import Derived.Deep.LoopGhost
import Derived.Deep.QuietTactic
import Derived.Deep.RegionHeld3
import Derived.Deep.Slices
import Derived.KernelRfl
import Derived.LaidMore
import Derived.Lib.Hide
import Derived.Lib.LaidTab
import Derived.MakeChecks
import Derived.Maps.AppendAt
import Derived.OpenShut
import Derived.ProofKit
import Derived.RowKit3
import Derived.Shelf.Abstract
import Derived.Stop.LaidErr
import Derived.Test.YtenbclcfhjdcaaaDoorRows
import Derived.WalkKit
import Derived.WalkSpells
section
set_option maxHeartbeats 8000000
set_option linter.unusedVariables false
set_option linter.unusedSimpArgs false

/- Words of this seat: a slice that reads as a list of cells; what stays readable when memory grows. No program is named here. -/
namespace Go.Proofs.YtenbclcfhjdcaaaDoor.B
open Go.RowKit

/-- A fact that the walk's simp does not look into. -/
structure Keep (p : Prop) : Prop where
  out : p

/-- The slice v has n elements; its cells are xs (as many as the element's size a piece). -/
def Row (w : World) (v : Value) (n : Nat) (xs : List Value) : Prop :=
  ∃ A c, v = .slice A n c ∧ n ≤ c ∧ c ≤ maxLen ∧ (0 < n → ∃ g o, A = some ⟨g, o, none⟩ ∧ ∀ j u, xs[j]? = some u → w.cell? ⟨g, o + j, none⟩ = some u)

def ints (l : List Int) : List Value := l.map (Value.int .i64)
def u8s (l : List Int) : List Value := l.map (Value.int .u8)
@[simp] theorem ints_length (l : List Int) : (ints l).length = l.length := by simp [ints]
@[simp] theorem u8s_length (l : List Int) : (u8s l).length = l.length := by simp [u8s]
/-- Element j of a list (closed to simp). -/
def el (l : List Int) (j : Nat) : Int := l.getD j 0
theorem el_eq (l : List Int) (j : Nat) (h : j < l.length) : el l j = l[j] := by simp [el, h]
theorem ints_get (l : List Int) (j : Nat) (h : j < l.length) : (ints l)[j]? = some (.int .i64 (el l j)) := by simp [ints, el, h]
theorem u8s_get (l : List Int) (j : Nat) (h : j < l.length) : (u8s l)[j]? = some (.int .u8 (el l j)) := by simp [u8s, el, h]
theorem ints_append (a b : List Int) : ints (a ++ b) = ints a ++ ints b := by simp [ints]
theorem u8s_append (a b : List Int) : u8s (a ++ b) = u8s a ++ u8s b := by simp [u8s]

theorem Row.below {w w' : World} {v : Value} {n : Nat} {xs : List Value} (h : Row w v n xs) (hb : Below w.heap.size w w') : Row w' v n xs := by
  obtain ⟨A, c, rfl, h1, h2, h3⟩ := h
  refine ⟨A, c, rfl, h1, h2, fun hn => ?_⟩
  obtain ⟨g, o, e, hc⟩ := h3 hn
  refine ⟨g, o, e, fun j u hu => ?_⟩
  have hc := hc j u hu
  rw [hb.cell (World.block_lt_of_cell? w _ hc)]
  exact hc
theorem Row.of_own {w : World} {base n : Nat} {e : TypeId} {size : Nat} {v : Value} {xs : List Value} (h : w.ownsRow base e size v n xs) : Row w v n xs := by
  rcases h.2 with ⟨rfl, rfl⟩ | ⟨g, cap, cur, rfl, hb, hh, h1, h2, h3, h4⟩
  · exact ⟨none, 0, rfl, Nat.le_refl _, Nat.zero_le _, fun h => absurd h (Nat.lt_irrefl 0)⟩
  · refine ⟨_, cap, rfl, h1, h2, fun _ => ⟨g, 0, rfl, fun j u hu => ?_⟩⟩
    rw [cell_of_row w g (0 + j) cur e (0, 0) hh, Nat.zero_add]
    rw [← h4, List.getElem?_take] at hu
    split at hu
    · simpa using hu
    · cases hu
/-- A slice that reads has no element, or lies somewhere. -/
theorem Row.open_ {w : World} {v : Value} {n : Nat} {xs : List Value} (h : Row w v n xs) :
    (n = 0 ∧ ∃ A c, v = .slice A 0 c ∧ c ≤ maxLen) ∨ ∃ g o c, v = .slice (some ⟨g, o, none⟩) n c ∧ n ≤ c ∧ c ≤ maxLen ∧ ∀ j u, xs[j]? = some u → w.cell? ⟨g, o + j, none⟩ = some u := by
  obtain ⟨A, c, rfl, h1, h2, h3⟩ := h
  rcases Nat.eq_zero_or_pos n with h0 | h0
  · subst h0; exact .inl ⟨rfl, A, c, rfl, h2⟩
  · obtain ⟨g, o, rfl, hc⟩ := h3 h0
    exact .inr ⟨g, o, c, rfl, h1, h2, hc⟩
theorem bcell {W w1 : World} (hb : Below W.heap.size W w1) :
    (∀ b o, b < W.heap.size → w1.cell? ⟨b, o, none⟩ = W.cell? ⟨b, o, none⟩) ∧ (∀ b o, b < W.heap.size → w1.frozen? ⟨b, o, none⟩ = W.frozen? ⟨b, o, none⟩) :=
  ⟨fun b o h => hb.cell (p := ⟨b, o, none⟩) h, fun b o h => hb.frozen (p := ⟨b, o, none⟩) h⟩
theorem grown_set (w : World) (a : Addr) (u : Value) : w.grownBy (w.setCell a u) (some a.block) :=
  ⟨rfl, rfl, rfl, by simp [World.setCell], fun k _ hk => Below.heap_setCell _ _ _ _ (fun e => hk (by rw [e]))⟩
theorem own_set {w : World} {base n : Nat} {e : TypeId} {size : Nat} {v : Value} {xs : List Value} (h : w.ownsRow base e size v n xs) (a : Addr) (u : Value) (hne : v.ownBlock ≠ some a.block) : (w.setCell a u).ownsRow base e size v n xs :=
  h.kept (grown_set w a u) (.inr hne)
theorem heap_set_same {w : World} {b o : Nat} {cs : Array Value} {t : TypeId} {fr : Nat × Nat} (h : w.heap[b]? = some (.cells cs t fr)) (u : Value) :
    (w.setCell ⟨b, o, none⟩ u).heap[b]? = some (.cells (cs.setIfInBounds o u) t fr) := by
  simp [World.setCell, Array.getElem?_modify, h]
theorem heap_lt {w : World} {b : Nat} {o : Obj} (h : w.heap[b]? = some o) : b < w.heap.size := (Array.getElem?_eq_some_iff.1 h).1
theorem own_lt {w : World} {base n : Nat} {e : TypeId} {size : Nat} {v : Value} {xs : List Value} (h : w.ownsRow base e size v n xs) {k : Nat} (hk : v.ownBlock = some k) : k < w.heap.size := (h.lt k hk).2
theorem own_not {w : World} {base n : Nat} {e : TypeId} {size : Nat} {v : Value} {xs : List Value} (h : w.ownsRow base e size v n xs) {k : Nat} (hk : w.heap.size ≤ k) : v.ownBlock ≠ some k := fun e => by
  have := own_lt h e; omega
theorem new_blk {W : World} {o : Obj} {s : Nat} (h : W.heap.size = s) : (W.alloc o).heap[s]? = some o := by subst h; exact heap_alloc_new _ _
theorem retI {k : IntKind} {a b : Int} (h : a = b) : Ending.returned (.int k a) = .returned (.int k b) := by rw [h]
theorem retT {k : IntKind} {a b : Int} {x : Value} (h : a = b) : Ending.returned (.tuple #[.int k a, x]) = .returned (.tuple #[.int k b, x]) := by rw [h]
theorem retB {a b : Bool} (h : a = b) : Ending.returned (.bool a) = .returned (.bool b) := by rw [h]
theorem bdraw {B : Nat} {w W : World} (h : Below B w W) (n : Nat) : Below B w (W.drewN n) := ⟨h.os, h.tape, h.output, h.size, h.block⟩
theorem balloc {w W : World} (h : Below w.heap.size w W) (o : Obj) : Below w.heap.size w (W.alloc o) := h.alloc h.size o
theorem kc {w w1 : World} (h : Below w.heap.size w w1) {a : Addr} {v : Value} (hc : w.cell? a = some v) : w1.cell? a = some v := (h.cell (World.block_lt_of_cell? w a hc)).trans hc
theorem balloc' {w W : World} {B : Nat} (h : Below B w W) (o : Obj) (hB : B ≤ W.heap.size := by omega) : Below B w (W.alloc o) := h.alloc hB o
theorem own_nil' (W : World) (base : Nat) (e : TypeId) (size : Nat) : W.ownsRow base e size (.slice none 0 0) 0 [] := ⟨by simp, .inl ⟨rfl, rfl⟩⟩
theorem bnext {B : Nat} {w w1 w2 : World} (h : Below B w w1) (hB : B ≤ w1.heap.size) (k : Below w1.heap.size w1 w2) : Below B w w2 :=
  h.trans (k.mono hB)
/-- append of one element that was just laid into a block of its own. -/
theorem app1 {P : Program} {ops : Array Oper} {rest : List Oper} {o : Oper} {a : Act} {Q : Exit → Act → World → Prop} {W : World} (hgd : o.guard = none) (s x : Operand) (t : TypeId)
    (ho : o.op = .call { callee := .builtin .append, args := #[s, x], argTypes := #[t, t] })
    (base : Nat) (e te : TypeId) (i : TypeInfo) (z : Value) (size bytes : Nat) (ht : P.underlying t = some (.slice e)) (hi : P.info? e = some i) (hz : i.zero = some z)
    (hsize : i.size = size) (hby : i.bytes = bytes) (hzs : z.cells.size = size) (hsz : 0 < size)
    (v : Value) (n : Nat) (xs : List Value) (hs : a.eval s = v) (hown : W.ownsRow base e size v n xs)
    (cs : List Value) (hx : a.eval x = .slice (some ⟨W.heap.size, 0, none⟩) 1 1) (hl : cs.length = size) (h1 : ∀ u ∈ cs, u.oneCell' = true)
    (h63 : n + 1 ≤ 1000000000) (hb : bytes ≤ 100) (hbase : base ≤ W.heap.size)
    (h : ∀ g cap w', w'.ownsRow base e size (.slice (some ⟨g, 0, none⟩) (n + 1) cap) (n + 1) (xs ++ cs) → (W.alloc (.cells cs.toArray te)).grownBy w' v.ownBlock → (v.ownBlock = some g ∨ g = W.heap.size + 1) → wpList P ops Q rest (a.put o.dst (.slice (some ⟨g, 0, none⟩) (n + 1) cap)) w') :
    wpList P ops Q (o :: rest) a (W.alloc (.cells cs.toArray te)) := by
  refine wpList_append_lies _ hgd s x t ho base e i z size bytes ht hi hz hsize hby hzs hsz v n xs hs (hown.alloc _) ⟨W.heap.size, 0, none⟩ 1 1 cs hx (by simp [hl]) (fun j u hj => ?_) h1 (by omega) (by simp only [maxLen]; omega) ?_ (by simp; omega) (W.heap.size + 1) (by simp) ?_
  · rw [show (⟨W.heap.size, 0, none⟩ : Addr).add j = ⟨W.heap.size, j, none⟩ by unfold Addr.add; split <;> simp_all]
    rw [World.cell?_alloc_new]; simpa using hj
  · calc (n + 1) * bytes ≤ 1000000000 * 100 := Nat.mul_le_mul h63 hb
      _ ≤ _ := by omega
  · intro g cap w' g1 g2 g3 _
    exact h g cap w' g1 g2 g3
/-- append of the m elements of another slice. -/
theorem appN {P : Program} {ops : Array Oper} {rest : List Oper} {o : Oper} {a : Act} {Q : Exit → Act → World → Prop} {W : World} (hgd : o.guard = none) (s x : Operand) (t : TypeId)
    (ho : o.op = .call { callee := .builtin .append, args := #[s, x], argTypes := #[t, t] })
    (base : Nat) (e : TypeId) (i : TypeInfo) (z : Value) (size bytes : Nat) (ht : P.underlying t = some (.slice e)) (hi : P.info? e = some i) (hz : i.zero = some z)
    (hsize : i.size = size) (hby : i.bytes = bytes) (hzs : z.cells.size = size) (hsz : 0 < size)
    (v : Value) (n : Nat) (xs : List Value) (hs : a.eval s = v) (hown : W.ownsRow base e size v n xs)
    (xv : Value) (m : Nat) (us : List Value) (hx : a.eval x = xv) (hrow : Row W xv m us) (hl : us.length = m * size) (h1 : ∀ u ∈ us, u.oneCell' = true)
    (hm : 0 < m) (h63 : n + m ≤ 1000000000) (hb : bytes ≤ 100) (hbase : base ≤ W.heap.size)
    (h : ∀ g cap w', w'.ownsRow base e size (.slice (some ⟨g, 0, none⟩) (n + m) cap) (n + m) (xs ++ us) → W.grownBy w' v.ownBlock → (v.ownBlock = some g ∨ g = W.heap.size) → wpList P ops Q rest (a.put o.dst (.slice (some ⟨g, 0, none⟩) (n + m) cap)) w') :
    wpList P ops Q (o :: rest) a W := by
  rcases hrow.open_ with ⟨h0, _⟩ | ⟨g0, o0, c0, rfl, _, _, hc⟩
  · omega
  refine wpList_append_lies _ hgd s x t ho base e i z size bytes ht hi hz hsize hby hzs hsz v n xs hs hown ⟨g0, o0, none⟩ m c0 us hx hl (fun j u hj => ?_) h1 hm (by simp only [maxLen]; omega) ?_ hbase W.heap.size rfl ?_
  · rw [show (⟨g0, o0, none⟩ : Addr).add j = ⟨g0, o0 + j, none⟩ by unfold Addr.add; split <;> simp_all]
    exact hc j u hj
  · calc (n + m) * bytes ≤ 1000000000 * 100 := Nat.mul_le_mul h63 hb
      _ ≤ _ := by omega
  · intro g cap w' g1 g2 g3 _
    exact h g cap w' g1 g2 g3
theorem u8s_one {l : List Int} : ∀ u ∈ u8s l, u.oneCell' = true := by
  intro u hu
  simp [u8s] at hu
  obtain ⟨x, _, rfl⟩ := hu
  rfl
/-- A block laid just now, as a row. -/
theorem own_blk {w : World} {b : Nat} {cs : Array Value} {e : TypeId} {size n : Nat} (base : Nat) (h : w.heap[b]? = some (.cells cs e (0, 0))) (hb : base ≤ b) (hn : cs.size = n * size) (hm : n ≤ maxLen) :
    w.ownsRow base e size (.slice (some ⟨b, 0, none⟩) n n) n cs.toList :=
  ⟨by simpa using hn, .inr ⟨b, n, cs, rfl, hb, h, Nat.le_refl _, hm, hn, by rw [List.take_of_length_le (by simp [hn])]⟩⟩
/-- The same at a step of a region that draws its order. -/
theorem step1 {P : Program} {ops : Array Oper} {o : Oper} {a : Act} {K : Act → World → Prop} {Q : Exit → Act → World → Prop} {E : Prop} {W : World} (hgd : o.guard = none) (s x : Operand) (t : TypeId)
    (ho : o.op = .call { callee := .builtin .append, args := #[s, x], argTypes := #[t, t] })
    (base : Nat) (e te : TypeId) (i : TypeInfo) (z : Value) (size bytes : Nat) (ht : P.underlying t = some (.slice e)) (hi : P.info? e = some i) (hz : i.zero = some z)
    (hsize : i.size = size) (hby : i.bytes = bytes) (hzs : z.cells.size = size) (hsz : 0 < size)
    (v : Value) (n : Nat) (xs : List Value) (hs : a.eval s = v) (hown : W.ownsRow base e size v n xs)
    (cs : List Value) (hx : a.eval x = .slice (some ⟨W.heap.size, 0, none⟩) 1 1) (hl : cs.length = size) (h1 : ∀ u ∈ cs, u.oneCell' = true)
    (h63 : n + 1 ≤ 1000000000) (hb : bytes ≤ 100) (hbase : base ≤ W.heap.size)
    (h : ∀ g cap w', w'.ownsRow base e size (.slice (some ⟨g, 0, none⟩) (n + 1) cap) (n + 1) (xs ++ cs) → (W.alloc (.cells cs.toArray te)).grownBy w' v.ownBlock → (v.ownBlock = some g ∨ g = W.heap.size + 1) → K (a.put o.dst (.slice (some ⟨g, 0, none⟩) (n + 1) cap)) w') :
    if Region.wanted o (yielded ops a.tmps) = true then Oper.wp P o a (W.alloc (.cells cs.toArray te)).drew K Q else E := by
  refine step_append_lies _ hgd s x t ho base e i z size bytes ht hi hz hsize hby hzs hsz v n xs hs ((hown.alloc _).kept (w' := (W.alloc (.cells cs.toArray te)).drew) (row := none) ⟨rfl, rfl, rfl, Nat.le_refl _, fun _ _ _ => rfl⟩ (by cases v.ownBlock <;> simp)) ⟨W.heap.size, 0, none⟩ 1 1 cs hx (by simp [hl]) (fun j u hj => ?_) h1 (by omega) (by simp only [maxLen]; omega) ?_ (by simp; omega) (W.heap.size + 1) (by simp) ?_
  · rw [show (⟨W.heap.size, 0, none⟩ : Addr).add j = ⟨W.heap.size, j, none⟩ by unfold Addr.add; split <;> simp_all]
    rw [World.cell?_drew, World.cell?_alloc_new]; simpa using hj
  · calc (n + 1) * bytes ≤ 1000000000 * 100 := Nat.mul_le_mul h63 hb
      _ ≤ _ := by omega
  · intro g cap w' g1 g2 g3 _
    exact h g cap w' g1 ⟨g2.os, g2.tape, g2.output, g2.size, g2.block⟩ g3
/-- The same, behind a call that made memory. -/
theorem step1n {P : Program} {ops : Array Oper} {o : Oper} {a : Act} {K : Act → World → Prop} {Q : Exit → Act → World → Prop} {E : Prop} {W : World} (hgd : o.guard = none) (s x : Operand) (t : TypeId)
    (ho : o.op = .call { callee := .builtin .append, args := #[s, x], argTypes := #[t, t] })
    (base : Nat) (e te : TypeId) (i : TypeInfo) (z : Value) (size bytes : Nat) (ht : P.underlying t = some (.slice e)) (hi : P.info? e = some i) (hz : i.zero = some z)
    (hsize : i.size = size) (hby : i.bytes = bytes) (hzs : z.cells.size = size) (hsz : 0 < size)
    (v : Value) (n : Nat) (xs : List Value) (hs : a.eval s = v) (hown : W.ownsRow base e size v n xs)
    (cs : List Value) (hx : a.eval x = .slice (some ⟨W.heap.size, 0, none⟩) 1 1) (hl : cs.length = size) (h1 : ∀ u ∈ cs, u.oneCell' = true)
    (h63 : n + 1 ≤ 1000000000) (hb : bytes ≤ 100) (hbase : base ≤ W.heap.size)
    (h : ∀ g cap w', w'.ownsRow base e size (.slice (some ⟨g, 0, none⟩) (n + 1) cap) (n + 1) (xs ++ cs) → (W.alloc (.cells cs.toArray te)).grownBy w' v.ownBlock → (v.ownBlock = some g ∨ g = W.heap.size + 1) → K (a.put o.dst (.slice (some ⟨g, 0, none⟩) (n + 1) cap)) w') :
    if Region.wanted o (yielded ops a.tmps) = true then Oper.wp P o a (W.alloc (.cells cs.toArray te)) K Q else E := by
  refine step_append_lies _ hgd s x t ho base e i z size bytes ht hi hz hsize hby hzs hsz v n xs hs (hown.alloc _) ⟨W.heap.size, 0, none⟩ 1 1 cs hx (by simp [hl]) (fun j u hj => ?_) h1 (by omega) (by simp only [maxLen]; omega) ?_ (by simp; omega) (W.heap.size + 1) (by simp) ?_
  · rw [show (⟨W.heap.size, 0, none⟩ : Addr).add j = ⟨W.heap.size, j, none⟩ by unfold Addr.add; split <;> simp_all]
    rw [World.cell?_alloc_new]; simpa using hj
  · calc (n + 1) * bytes ≤ 1000000000 * 100 := Nat.mul_le_mul h63 hb
      _ ≤ _ := by omega
  · intro g cap w' g1 g2 g3 _
    exact h g cap w' g1 g2 g3
theorem ne_swap {a b : Option Nat} (h : a = none ∨ a ≠ b) : b = none ∨ b ≠ a := by
  rcases h with e | e
  · rw [e]; cases b <;> simp
  · exact .inr (Ne.symm e)
theorem own_slice {w : World} {base n : Nat} {e : TypeId} {size : Nat} {v : Value} {xs : List Value} (h : w.ownsRow base e size v n xs) : ∃ A c, v = .slice A n c := by
  rcases h.2 with ⟨rfl, rfl⟩ | ⟨g, cap, cur, rfl, _⟩
  · exact ⟨none, 0, rfl⟩
  · exact ⟨_, cap, rfl⟩
theorem addr_add0 (A : Option Addr) (c : Nat) : (if c = 0 then A else A.map (fun x => x.add 0)) = A := by cases A <;> simp [Addr.add]
/-- s[:k], whatever s is. -/
theorem run_cut {P : Program} {t e : TypeId} {i : TypeInfo} (ht : P.underlying t = some (.slice e)) (hi : P.info? e = some i) (A : Option Addr) (n c k : Nat) (h : k ≤ c) (w : World) :
    (Instr.slice t (.slice A n c) none (some (.int .i64 (k : Int))) none).run P w = .ok (.slice A k c) w := by
  have hs : (P.elem t) = e := by simp [Program.elem, ht]
  rw [run_slice_h (P := P) (t := t) (ht := by rw [hs]; exact ht) (h0 := by omega) (h2 := by omega)]
  simp [hs, sizeOf, typeInfo, hi, Result.andThen, sliced, Int.toNat_natCast]
  cases A <;> simp [Addr.add]
theorem own_below {w w1 : World} {base : Nat} {e : TypeId} {size n : Nat} {v : Value} {xs : List Value} (h : w.ownsRow base e size v n xs) (hb : Below w.heap.size w w1) : w1.ownsRow base e size v n xs :=
  h.kept (row := none) ⟨hb.os, hb.tape, hb.output, hb.size, fun k hk _ => hb.block k hk⟩ (by cases v.ownBlock <;> simp)
theorem row_blk {w : World} {b n : Nat} {cs : Array Value} {e : TypeId} {fr : Nat × Nat} (h : w.heap[b]? = some (.cells cs e fr)) (hm : n ≤ maxLen) : Row w (.slice (some ⟨b, 0, none⟩) n n) n cs.toList :=
  ⟨_, n, rfl, Nat.le_refl _, hm, fun _ => ⟨b, 0, rfl, fun j u hu => by rw [cell_of_row w b _ cs e fr h, Nat.zero_add]; simpa using hu⟩⟩
theorem grown_trans {w w1 w2 : World} {r r1 : Option Nat} (h1 : w.grownBy w1 r) (h2 : w1.grownBy w2 r1) (hr : r1 = r ∨ ∀ k, r1 = some k → w.heap.size ≤ k) : w.grownBy w2 r := by
  refine ⟨h2.os.trans h1.os, h2.tape.trans h1.tape, h2.output.trans h1.output, Nat.le_trans h1.size h2.size, fun k hk hne => ?_⟩
  rw [h2.block k (Nat.lt_of_lt_of_le hk h1.size) ?_, h1.block k hk hne]
  intro e
  rcases hr with h | h
  · exact hne (e.trans h)
  · have := h k e.symm; omega
theorem grown_alloc {w w1 : World} {r : Option Nat} (h1 : w.grownBy w1 r) (o : Obj) : w.grownBy (w1.alloc o) r :=
  ⟨h1.os, h1.tape, h1.output, by have := h1.size; simp; omega, fun k hk hne => (heap_alloc_old _ _ (Nat.lt_of_lt_of_le hk h1.size)).trans (h1.block k hk hne)⟩
theorem grown_below {w w1 : World} (h : Below w.heap.size w w1) (r : Option Nat) : w.grownBy w1 r := ⟨h.os, h.tape, h.output, h.size, fun k hk _ => h.block k hk⟩
theorem below_grown {w w0 w1 : World} {B bb : Nat} (h : Below B w w0) (hg : w0.grownBy w1 (some bb)) (hB : B ≤ w0.heap.size) (hb : B ≤ bb) : Below B w w1 := h.grown hg hB (fun k hk => by cases hk; exact hb)
theorem gcell {w0 wr : World} {bb : Nat} (hg : w0.grownBy wr (some bb)) {a : Addr} {v : Value} (h : w0.cell? a = some v) (hne : a.block ≠ bb) : wr.cell? a = some v := hg.cell h (by simpa using hne)
theorem unfrozen {w : World} {b o : Nat} {cs : Array Value} {t : TypeId} (h : w.heap[b]? = some (.cells cs t (0, 0))) : w.frozen? ⟨b, o, none⟩ = false := by simp [World.frozen?, h]
/-- A block that is not the row that was appended to. -/
theorem blk_far {wr w1 : World} {o ob : Obj} {b : Nat} {row : Option Nat} (h : wr.heap[b]? = some ob) (hg : (wr.alloc o).grownBy w1 row) (hne : row ≠ some b) : w1.heap[b]? = some ob := by
  have hlt := heap_lt h
  rw [hg.block b (by simp; omega) (fun e => hne e.symm), heap_alloc_old _ _ hlt]; exact h
end Go.Proofs.YtenbclcfhjdcaaaDoor.B
end
section
set_option maxHeartbeats 8000000
set_option linter.unusedVariables false
set_option linter.unusedSimpArgs false

/- The table of the spaces stands in memory: from a row's condition (the second on its list). -/
namespace Go.Proofs.YtenbclcfhjdcaaaDoor
open Go AM Go.ChangeShapes Go.WideShapes Go.ChangeAt Go.RowKit
theorem gSpT : (Tryd.prog.globals[1]?).map (·.type) = some 116 := by kernel_rfl
theorem gSp : Tryd.prog.globalNamed "strings.asciiSpace" = some 1 := by kernel_rfl
abbrev laidC : List (String × DataW Unit) := [("unicode.White_Space", Rows.laid_unicode_White_Space), ("strings.asciiSpace", Rows.laid_strings_asciiSpace)]
def zs256 : List Int := Lib.asciiSpaceTab
theorem globs_of_laid {W : World} (h : laidMetH Tryd.prog laidC W) : Globs W.heap := by
  rw [MakeChecks.laidMetH_plain _ _ _ (by kernel_rfl)] at h
  have e8 : (Rows.laid_strings_asciiSpace : DataW Unit) = Lib.tabData .u8 zs256 := by kernel_rfl
  have h2 := laidMet.tail h
  rw [e8] at h2
  have ht : Lib.TabIs Tryd.prog W "strings.asciiSpace" .u8 zs256 := Lib.tabIs_of_head (rest := []) gSp gSpT Tryd.underlying116 Tryd.underlying5 (by kernel_rfl) (by kernel_rfl) h2
  intro p hp
  obtain rfl : p = (1, tab256) := by
    rw [gcells_tab] at hp
    simpa using hp
  have e9 : tab256 = zs256.map fun z => Value.int .u8 z := by kernel_rfl
  unfold Lib.TabIs World.var? at ht
  rw [gSp] at ht
  simp only [Option.bind_some] at ht
  split at ht
  · rename_i cs e fr hc
    cases ht
    exact ⟨e, fr, by rw [e9]; exact hc⟩
  · cases ht
/-- The door's own heap meets the condition. -/
theorem door_met (os : Os) (args : Array Value) : laidMetH Tryd.prog laidC ((World.doorLaid Tryd.prog 400 os).forCall (fun _ _ => 0) ⟨#[], args, []⟩).memory := by
  rw [MakeChecks.laidMetH_plain _ _ _ (by kernel_rfl)]
  exact laidMet_of_run' 8 (by kernel_rfl) (by kernel_rfl)
end Go.Proofs.YtenbclcfhjdcaaaDoor
end
section
set_option maxHeartbeats 8000000
set_option linter.unusedVariables false
set_option linter.unusedSimpArgs false

/- How an argument's reading opens into the words of Base; the end of a row's proof where nothing old has changed. -/
namespace Go.Proofs.YtenbclcfhjdcaaaDoor.B
open Go Go.RowKit Go.WideShapes Go.ChangeShapes Go.Deep

section
variable {H : Type} {enc : TypeId × Value → H} {P : Program}
/-- The cells read as data of the type t. -/
def Rd (enc : TypeId × Value → H) (P : Program) (w : World) (t : TypeId) (cs : List Value) : Prop := ∃ fuel x, DataW.trod enc P w 0 (fun _ => true) true fuel t cs = some x
theorem Rd.of {w : World} {t : TypeId} {v : Value} {d : DataW H} {ps : List MemPlace} (h : DataW.Trod enc P w 0 (fun _ => true) true t v d ps) : Rd enc P w t v.cells.toList := by
  obtain ⟨m, hm⟩ := h
  exact ⟨m, _, hm⟩
theorem Rd.int {w : World} {t : TypeId} {k : IntKind} {cs : List Value} (h : Rd enc P w t cs) (ht : P.underlying t = some (.int k)) : ∃ n, cs = [.int k n] ∧ (Lit.int k n).wf = true := by
  obtain ⟨m, x, hm⟩ := h
  obtain ⟨n, h1, _, h2⟩ := DataW.trod_int ht hm
  exact ⟨n, h1, h2⟩
theorem Rd.bool {w : World} {t : TypeId} {cs : List Value} (h : Rd enc P w t cs) (ht : P.underlying t = some .bool) : ∃ b, cs = [.bool b] := by
  obtain ⟨m, x, hm⟩ := h
  obtain ⟨n, h1, _⟩ := DataW.trod_bool ht hm
  exact ⟨n, h1⟩
theorem Rd.struct1 {w : World} {t : TypeId} {f0 : Field} {cs : List Value} (h : Rd enc P w t cs) (ht : P.underlying t = some (.struct #[f0])) : cs.length = P.cellsOf t ∧ Rd enc P w f0.type ((cs.drop f0.offset).take (P.cellsOf f0.type)) := by
  obtain ⟨m, x, hm⟩ := h
  obtain ⟨y0, n, _, hl, h0⟩ := trod_struct1 ht hm
  exact ⟨hl, ⟨n, _, h0⟩⟩
theorem Rd.struct2 {w : World} {t : TypeId} {f0 f1 : Field} {cs : List Value} (h : Rd enc P w t cs) (ht : P.underlying t = some (.struct #[f0, f1])) :
    cs.length = P.cellsOf t ∧ Rd enc P w f0.type ((cs.drop f0.offset).take (P.cellsOf f0.type)) ∧ Rd enc P w f1.type ((cs.drop f1.offset).take (P.cellsOf f1.type)) := by
  obtain ⟨m, x, hm⟩ := h
  obtain ⟨y0, y1, n, _, hl, h0, h1⟩ := trod_struct2 ht hm
  exact ⟨hl, ⟨n, _, h0⟩, ⟨n, _, h1⟩⟩
theorem mapM_some {α β : Type} (f : α → Option β) : ∀ (l : List α) (r : List β), l.mapM f = some r → r.length = l.length ∧ ∀ i (h : i < l.length), ∃ y, r[i]? = some y ∧ f l[i] = some y
  | [], r, h => by simp at h; subst h; exact ⟨rfl, fun i h => by simp at h⟩
  | a :: l, r, h => by
    rw [List.mapM_cons] at h
    cases ha : f a with
    | none => simp [ha] at h
    | some y =>
      cases hl : l.mapM f with
      | none => simp [ha, hl] at h
      | some s =>
        simp [ha, hl] at h
        subst h
        obtain ⟨h1, h2⟩ := mapM_some f l s hl
        refine ⟨by simp [h1], fun i hi => ?_⟩
        cases i with
        | zero => exact ⟨y, rfl, ha⟩
        | succ i => simpa using h2 i (by simpa using hi)
/-- Cells in a row that are read: each one is there. -/
theorem cells_some {w : World} {a : Addr} {n : Nat} {cs : List Value} (h : w.cells? 0 a n = some cs) : cs.length = n ∧ ∀ i, i < n → ∃ u, cs[i]? = some u ∧ w.cell? (a.add i) = some u := by
  unfold World.cells? at h
  rw [if_pos (Nat.zero_le _)] at h
  obtain ⟨h1, h2⟩ := mapM_some _ _ _ h
  refine ⟨by simpa using h1, fun i hi => ?_⟩
  obtain ⟨y, hy, hc⟩ := h2 i (by simpa using hi)
  exact ⟨y, hy, by simpa using hc⟩
theorem sum_const {α : Type} (k : Nat) (l : List α) : (l.map fun _ => k).sum = l.length * k := by
  induction l with
  | nil => simp
  | cons a l ih => rw [List.map_cons, List.sum_cons, ih, List.length_cons, Nat.add_mul]; omega
theorem spot_none {w : World} {a : Addr} {u : Value} (h : w.cell? a = some u) : a.spot = none := by
  unfold World.cell? at h
  split at h
  · cases hs : a.spot with
    | none => rfl
    | some s => simp [hs] at h
  · cases h
theorem add_none (g o i : Nat) : (⟨g, o, none⟩ : Addr).add i = ⟨g, o + i, none⟩ := by unfold Addr.add; split <;> simp_all
/-- A slice whose elements take k cells each: the row of all its cells, and each element's own reading. -/
theorem Rd.slice {w : World} {t e : TypeId} {cs : List Value} {k : Nat} (h : Rd enc P w t cs) (ht : P.underlying t = some (.slice e)) (hk : P.cellsOf e = k) (hk0 : 0 < k) :
    ∃ v n, ∃ es : List (List Value), cs = [v] ∧ es.length = n ∧ Row w v n es.flatten ∧ ∀ i (h : i < es.length), es[i].length = k ∧ Rd enc P w e es[i] := by
  obtain ⟨m, x, hm⟩ := h
  rcases open_slice ht hm with ⟨rfl, _⟩ | ⟨a, len, cap, mm, n, D, Pl, rfl, hb, hl, hm', hmm, rfl, hx⟩
  · exact ⟨_, 0, [], rfl, rfl, ⟨none, 0, rfl, Nat.le_refl _, Nat.zero_le _, fun h => absurd h (Nat.lt_irrefl 0)⟩, fun i h => by simp at h⟩
  · simp at hmm
    obtain rfl : mm = cap := hmm
    rw [hk] at hx
    have hx' : ∀ i, ∃ cs', i < len → w.cells? 0 (a.add (i * k)) k = some cs' ∧ DataW.trod enc P w 0 (fun _ => true) true n e cs' = some (D i, Pl i) := fun i => by
      by_cases hi : i < len
      · obtain ⟨c, hc⟩ := hx i (by omega); exact ⟨c, fun _ => hc⟩
      · exact ⟨[], fun h => absurd h hi⟩
    obtain ⟨f, hf⟩ := Classical.axiomOfChoice hx'
    have hlen : ∀ i, i < len → (f i).length = k := fun i hi => (cells_some (hf i hi).1).1
    refine ⟨_, len, (List.range len).map f, rfl, by simp, ⟨some a, mm, rfl, hl, hm', fun hn => ?_⟩, fun i hi => ?_⟩
    · have h0 := (cells_some (hf 0 hn).1).2 0 hk0
      obtain ⟨u0, _, hu0⟩ := h0
      have hs := spot_none hu0
      obtain ⟨g, o, sp⟩ := a
      have hs : sp = none := by simpa [Addr.add] using hs
      subst hs
      refine ⟨g, o, rfl, fun j u hj => ?_⟩
      have hfl : ∀ (len : Nat), (∀ i, i < len → (f i).length = k) → ∀ j u, ((List.range len).map f).flatten[j]? = some u → j / k < len ∧ (f (j / k))[j % k]? = some u := by
        intro len
        induction len with
        | zero => intro _ j u h; simp at h
        | succ len ih =>
          intro hL j u h
          have hfl : ((List.range len).map f).flatten.length = len * k := by
            rw [List.length_flatten, List.map_map, show (List.range len).map (List.length ∘ f) = (List.range len).map (fun _ => k) from List.map_congr_left fun x hx => hL x (by simp at hx; omega), sum_const, List.length_range]
          rw [List.range_succ, List.map_append, List.flatten_append, List.getElem?_append] at h
          split at h
          · obtain ⟨h1, h2⟩ := ih (fun i hi => hL i (by omega)) j u h
            exact ⟨by omega, h2⟩
          · rename_i hge
            rw [hfl] at hge h
            simp at h
            have hlt : j - len * k < k := by
              have := (List.getElem?_eq_some_iff.1 h).1
              rw [hL len (by omega)] at this
              exact this
            have e1 : j / k = len := by
              rw [Nat.div_eq_iff hk0]
              constructor
              · omega
              · have : (len + 1) * k = len * k + k := by rw [Nat.add_mul]; omega
                omega
            have e2 : j % k = j - len * k := by
              have := Nat.div_add_mod j k
              rw [e1, Nat.mul_comm] at this
              omega
            rw [e1, e2]
            exact ⟨by omega, h⟩
      obtain ⟨h1, h2⟩ := hfl len hlen j u hj
      obtain ⟨y, hy, hc⟩ := (cells_some (hf (j / k) h1).1).2 (j % k) (Nat.mod_lt _ hk0)
      rw [add_none, add_none] at hc
      rw [h2] at hy
      cases hy
      rw [← hc]
      have := Nat.div_add_mod j k
      rw [Nat.mul_comm] at this
      rw [show o + j = o + j / k * k + j % k by omega]
    · simp only [List.length_map, List.length_range] at hi
      simp only [List.getElem_map, List.getElem_range]
      exact ⟨hlen i hi, ⟨n, _, (hf i hi).2⟩⟩
/-- A slice whose elements take one cell each. -/
theorem Rd.slice1 {w : World} {t e : TypeId} {A : Option Addr} {n c : Nat} (h : Rd enc P w t [.slice A n c]) (ht : P.underlying t = some (.slice e)) (hk : P.cellsOf e = 1) :
    n ≤ c ∧ c ≤ maxLen ∧ (0 < n → ∃ g o, A = some ⟨g, o, none⟩ ∧ g < w.heap.size) ∧ ∃ f : Nat → Value, ∀ i, i < n → (∀ g o, A = some ⟨g, o, none⟩ → w.cell? ⟨g, o + i, none⟩ = some (f i)) ∧ Rd enc P w e [f i] := by
  obtain ⟨m, x, hm⟩ := h
  rcases open_slice1 ht hk hm with ⟨h0, _⟩ | ⟨a, len, cap, mm, n', V, D, Pl, h0, hb, hl, hm', hmm, rfl, hx⟩
  · simp at h0
    obtain ⟨rfl, rfl, rfl⟩ := h0
    exact ⟨Nat.le_refl _, Nat.zero_le _, fun h => absurd h (Nat.lt_irrefl 0), fun _ => undef, fun i hi => absurd hi (Nat.not_lt_zero _)⟩
  · simp at h0
    obtain ⟨rfl, rfl, rfl⟩ := h0
    simp at hmm
    refine ⟨hl, hm', fun hn => ?_, V, fun i hi => ⟨fun g o e => ?_, ⟨n', _, (hx i (by omega)).2⟩⟩⟩
    · have h0 := (hx 0 (by omega)).1
      have hs := spot_none h0
      obtain ⟨g, o, sp⟩ := a
      have hs : sp = none := by simpa [Addr.add] using hs
      subst hs
      exact ⟨g, o, rfl, World.block_lt_of_cell? w _ h0⟩
    · cases e
      have h0 := (hx i (by omega)).1
      rw [add_none] at h0
      exact h0
theorem post_of_below {f : Func} {s : ChangeSpec} {apart fresh handsOn again : Bool} {W W' : World} {args : Array Value} {v : Value} {ds gs : List (DataW H)} {before pa pv : List MemPlace}
    (hW : DataW.Whole enc P f.params.toList s.vars apart W args.toList ds gs before)
    (hres : ∀ (b : Nat) (sp : Nat → Bool) (hd : Bool), DataW.TrodAll enc P W' b sp hd f.resultTypes.toList (v.resultList f.resultTypes.size) (s.fn H (ds ++ gs)).results [])
    (hargs : ∀ sp : Nat → Bool, (∀ p ∈ before, sp p.block = true) → DataW.TrodAll enc P W' 0 sp true f.params.toList args.toList (s.fn H (ds ++ gs)).args pa)
    (hvars : ∀ sp : Nat → Bool, (∀ p ∈ before, sp p.block = true) → DataW.TrodVars enc P W' sp s.vars (s.fn H (ds ++ gs)).vars pv)
    (hps : before = pa ++ pv) (hb : Below W.heap.size W W')
    (hok : ∀ (j : Nat) (t : TypeId) (r : Value), f.resultTypes[j]? = some t → (v.resultList f.resultTypes.size)[j]? = some r → Value.okWide P W' .any 0 t r) :
    s.post enc P f apart fresh handsOn again W args v W' := by
  have hlt : ∀ p ∈ before, p.block < W.heap.size := fun p hp => hW.lt p hp
  have hold : ∀ p ∈ before, (fun b => decide (b < W.heap.size)) p.block = true := fun p hp => by simpa using hlt p hp
  refine ⟨ds, gs, before, [], pa, pv, hW, hres _ _ _, hargs _ hold, hvars _ hold, World.keptBut_mono (fun p hp => ⟨hp, ?_⟩) (hb.frame (· ∈ before)), fun _ => ?_⟩
  · rw [hps, List.mem_append] at hp
    exact Or.inr hp
  · obtain ⟨_, _, _, _, _, hz, hn⟩ := hW
    refine ⟨hok, _, _, ([] ++ pa) ++ pv, ⟨[] ++ pa, pv, trodAll_append (hargs _ (fun _ _ => rfl)) (hres _ _ _), hvars _ (fun _ _ => rfl), rfl, ?_, ?_⟩, ?_⟩
    · intro b off hp
      have hin : MemPlace.cell b off ∈ before := by rw [hps]; simpa using hp
      rw [hb.frozen (hlt _ hin)]
      exact hz b off hin
    · intro ha
      have := hn ha
      rw [hps] at this
      simpa using this
    · intro p hp _
      rw [hps]
      simpa using hp
/-- An argument reads behind the call as it read ahead of it. -/
theorem trod_again {t : TypeId} (hl : laidOutB P = true) (hr : P.readableRec t = true) (hrow : t < P.types.size) {W W' : World} {v : Value} {d : DataW H} {ps : List MemPlace}
    (h : DataW.Trod enc P W 0 (fun _ => true) true t v d ps) (hb : Below W.heap.size W W') (hlt : ∀ x ∈ ps, x.block < W.heap.size) (sp : Nat → Bool) (hs : ∀ p ∈ ps, sp p.block = true) :
    DataW.Trod enc P W' 0 sp true t v d ps :=
  WideElems.Trod_stays hl hr hrow h (fun x hx => hb.same (hlt x hx)) hs
end
end Go.Proofs.YtenbclcfhjdcaaaDoor.B
end
section
set_option maxHeartbeats 8000000
set_option linter.unusedVariables false
set_option linter.unusedSimpArgs false

/- What a law's arguments are for the machine of values: of whatever law. -/
namespace Go.Proofs.YtenbclcfhjdcaaaDoor.VM
open Go Go.Proofs Go.RowKit Go.WideShapes Go.ChangeShapes Go.Deep AM B
section
variable {H : Type} {enc : TypeId × Value → H} {P : Program} {w : World}
theorem rd_nil {t e : TypeId} {cs : List Value} (h : Rd enc P w t cs) (ht : P.underlying t = some (.slice e)) : ∃ v, cs = [v] ∧ (v = .slice none 0 0 ∨ ∃ a n c, v = .slice (some a) n c) := by
  obtain ⟨m, x, hm⟩ := h
  rcases open_slice ht hm with ⟨rfl, _⟩ | ⟨a, len, cap, mm, n, D, Pl, rfl, _⟩
  · exact ⟨_, rfl, .inl rfl⟩
  · exact ⟨_, rfl, .inr ⟨_, _, _, rfl⟩⟩
theorem rd_sliceV {t e : TypeId} {cs : List Value} {k : Nat} (Good : List V → Prop) (h : Rd enc P w t cs) (ht : P.underlying t = some (.slice e)) (hk : P.cellsOf e = k) (hk0 : 0 < k) (hk1 : k ≤ 1048576)
    (f : ∀ es, es.length = k → Rd enc P w e es → ∃ row : List V, row.length = k ∧ CellsV w row es ∧ Good row) : ∃ v kk rows, cs = [v] ∧ CellV w (.fsl kk k rows) v ∧ rows.length ≤ maxLen ∧ ∀ r ∈ rows, Good r := by
  obtain ⟨v0, hv0, hnil⟩ := rd_nil h ht
  obtain ⟨v, n, es, h1, h2, ⟨A, c, h3, h4, h5, h6⟩, h7⟩ := h.slice ht hk hk0
  have hvv : v0 = v := by rw [hv0] at h1; cases h1; rfl
  subst hvv
  have rows : ∀ es : List (List Value), (∀ i (h : i < es.length), es[i].length = k ∧ Rd enc P w e es[i]) → ∃ rows : List (List V), RowsV w k rows es.flatten ∧ rows.length = es.length ∧ ∀ r ∈ rows, Good r := by
    intro es
    induction es with
    | nil => exact fun _ => ⟨[], rfl, rfl, fun r hr => by simp at hr⟩
    | cons a es ih =>
      intro h
      obtain ⟨rows, r1, r2, r3⟩ := ih fun i hi => h (i + 1) (by simpa using hi)
      obtain ⟨row, q1, q2, q3⟩ := f a (h 0 (by simp)).1 (h 0 (by simp)).2
      refine ⟨row :: rows, ⟨a, es.flatten, by simp, q1, q2, r1⟩, by simp [r2], fun r hr => ?_⟩
      rcases List.mem_cons.1 hr with rfl | hr
      · exact q3
      · exact r3 r hr
  obtain ⟨rows, r1, r2, r3⟩ := rows es h7
  obtain ⟨kk, hc⟩ := CellV.slice (A := A) (n := n) (c := c) hk0 hk1 (fun hA => by
    rcases hnil with hq | ⟨a, n', c', hq⟩
    · rw [h3] at hq; cases hq; exact ⟨rfl, rfl⟩
    · rw [h3, hA] at hq; cases hq) h4 h5 (by omega) r1 h6
  exact ⟨v0, kk, rows, h1, by rw [h3]; exact hc, by omega, r3⟩
theorem rd_two {t : TypeId} {f0 f1 : Field} {cs : List Value} (h : Rd enc P w t cs) (ht : P.underlying t = some (.struct #[f0, f1])) {a b : Nat} (o0 : f0.offset = 0) (c0 : P.cellsOf f0.type = a) (o1 : f1.offset = a) (c1 : P.cellsOf f1.type = b) (hc : P.cellsOf t = a + b) :
    ∃ x y, cs = x ++ y ∧ x.length = a ∧ y.length = b ∧ Rd enc P w f0.type x ∧ Rd enc P w f1.type y := by
  obtain ⟨hl, h0, h1⟩ := h.struct2 ht
  rw [o0, c0, List.drop_zero] at h0
  rw [o1, c1] at h1
  have e1 : (cs.drop a).take b = cs.drop a := List.take_of_length_le (by simp; omega)
  rw [e1] at h1
  exact ⟨cs.take a, cs.drop a, (List.take_append_drop a cs).symm, by simp; omega, by simp; omega, h0, h1⟩
end
end Go.Proofs.YtenbclcfhjdcaaaDoor.VM
end
section
set_option maxHeartbeats 8000000
set_option linter.unusedVariables false
set_option linter.unusedSimpArgs false

/- Numbers as bytes, seven bits a byte: plain. -/
namespace Go.Proofs.YtenbclcfhjdcaaaDoor
open B
def vencF : Nat → Nat → List Int
  | 0, _ => []
  | k + 1, n => if n < 128 then [(n : Int)] else ((n % 128 + 128 : Nat) : Int) :: vencF k (n / 128)
/-- A number's bytes. -/
def venc (n : Nat) : List Int := vencF 10 n
theorem vencF_more : ∀ (k n : Nat), n < 128 ^ k → 0 < k → vencF (k + 1) n = vencF k n := by
  intro k
  induction k with
  | zero => intro n _ h; omega
  | succ k ih =>
    intro n hn _
    by_cases h : n < 128
    · simp [vencF, h]
    · have e1 : ∀ j, vencF (j + 1) n = ((n % 128 + 128 : Nat) : Int) :: vencF j (n / 128) := fun j => by rw [vencF, if_neg h]
      rw [e1, e1]
      congr 1
      rcases Nat.eq_zero_or_pos k with h0 | h0
      · subst h0; omega
      · exact ih (n / 128) (by rw [Nat.pow_succ] at hn; omega) h0
theorem venc_lt (n : Nat) (h : n < 128) : venc n = [(n : Int)] := by simp [venc, vencF, h]
theorem venc_ge (n : Nat) (h : 128 ≤ n) (h2 : n < 18446744073709551616) : venc n = ((n % 128 + 128 : Nat) : Int) :: venc (n / 128) := by
  have e : vencF 10 n = ((n % 128 + 128 : Nat) : Int) :: vencF 9 (n / 128) := by rw [vencF, if_neg (by omega)]
  unfold venc
  rw [e, vencF_more 9 (n / 128) (by omega) (by omega)]
theorem vencF_length : ∀ k n, (vencF k n).length ≤ k := by
  intro k
  induction k with
  | zero => intro n; simp [vencF]
  | succ k ih => intro n; unfold vencF; split <;> simp [ih]
theorem venc_length (n : Nat) : (venc n).length ≤ 10 := vencF_length 10 n
theorem venc_pos (n : Nat) : 0 < (venc n).length := by unfold venc vencF; split <;> simp
theorem vencF_byte : ∀ k n x, x ∈ vencF k n → 0 ≤ x ∧ x ≤ 255 := by
  intro k
  induction k with
  | zero => intro n x h; simp [vencF] at h
  | succ k ih =>
    intro n x h
    unfold vencF at h
    split at h
    · simp at h; omega
    · rcases List.mem_cons.1 h with rfl | h
      · omega
      · exact ih _ x h
theorem venc_byte (n : Nat) (x : Int) (h : x ∈ venc n) : 0 ≤ x ∧ x ≤ 255 := vencF_byte 10 n x h
/-- Numbers' bytes, one behind the other. -/
def vencs (l : List Int) : List Int := l.flatMap fun n => venc n.toNat
theorem vencs_append (a b : List Int) : vencs (a ++ b) = vencs a ++ vencs b := by simp [vencs]
theorem vencs_length (l : List Int) : (vencs l).length ≤ 10 * l.length := by
  induction l with
  | nil => simp [vencs]
  | cons a l ih =>
    have := venc_length a.toNat
    simp only [vencs, List.flatMap_cons, List.length_append, List.length_cons] at *
    omega
theorem vencs_pos (l : List Int) : l.length ≤ (vencs l).length := by
  induction l with
  | nil => simp [vencs]
  | cons a l ih =>
    have := venc_pos a.toNat
    simp only [vencs, List.flatMap_cons, List.length_append, List.length_cons] at *
    omega
end Go.Proofs.YtenbclcfhjdcaaaDoor
end
section
set_option maxHeartbeats 8000000
set_option linter.unusedVariables false
set_option linter.unusedSimpArgs false

/- varint: put and Put. -/
namespace Go.Proofs.YtenbclcfhjdcaaaDoor.VM
open Go Go.Proofs AM
/-- A byte, in a row. -/
def bc (b : Int) : List V := [.lit (.int .u8 b)]
/-- A slice of bytes; of whole numbers. -/
def BS (k : Bool) (l : List Int) : V := .fsl k 1 (l.map bc)
def ic (n : Int) : List V := [i6 n]
def IS (k : Bool) (l : List Int) : V := .fsl k 1 (l.map ic)
attribute [simp] BS bc IS ic
set_option maxRecDepth 100000
theorem bits_or (r : Nat) (h : r < 256) : bits BinOp.or IntKind.u8 (r : Int) 128 = ((r % 128 + 128 : Nat) : Int) := by
  have : ∀ r : Fin 256, bits BinOp.or IntKind.u8 ((r : Nat) : Int) 128 = (((r : Nat) % 128 + 128 : Nat) : Int) := by decide +kernel
  exact this ⟨r, h⟩
theorem bits_or' (q : Nat) : bits BinOp.or IntKind.u8 ((q : Int) % 256) 128 = ((q % 128 + 128 : Nat) : Int) := by
  have := bits_or (q % 256) (by omega)
  rw [show ((q % 256 : Nat) : Int) = (q : Int) % 256 by omega] at this
  rw [this]
  congr 1
  omega
theorem v_put {H : Hp} {g w : Nat} {rows : List (List V)} {t : Bool} {n : Nat} (hg : H[g]? = some (.vec w rows 1 true t)) (hp : PureR rows) (hl : rows.length ≤ 1000000) (hn : n < 18446744073709551616) :
    VC Tryd.prog prims 66 [.own g w, .lit (.int .u64 n)] H fun u T => ∃ w', u = .own g w' ∧ T = H.set g (.vec w' (rows ++ (venc n).map bc) 1 true t) := by
  refine v_enter hC [] (fun _ _ => kn_none rfl) Tryd.func66 rfl ok66 (Nat.le_of_ble_eq_true rfl) fun hcl hbl => ?_
  simp
  refine v_loopX hC (fun (X : Nat × List Int) e T => ∃ w', T = H.set g (.vec w' (rows ++ X.2.map bc) 1 true t) ∧ e 0 = .own g w' ∧ e 1 = .lit (.int .u64 X.1) ∧ X.1 < 18446744073709551616 ∧ venc n = X.2 ++ venc X.1 ∧ X.2.length ≤ 10) (fun X => X.1) (n, []) (G.refl ?_) ?_
  · refine ⟨w, ?_, by simp, by simp, hn, by simp, by simp⟩
    rw [List.map_nil, List.append_nil]
    exact (set_self hg).symm
  · rintro ⟨m, done⟩ e T ⟨w', rfl, h0, h1, hm, hv, hd⟩
    have hgl := get_lt hg
    have hset : ∀ y, (H.set g y)[g]? = some y := fun y => List.getElem?_set_self hgl
    simp [h0, h1, hset]
    simp only at h1 hm hv hd
    have hw8 : IntKind.u8.wrap (m : Int) = (m : Int) % 256 := by simp [IntKind.wrap, IntKind.bits, IntKind.signed]
    have hlen : done.length + (venc m).length ≤ 10 := by have := venc_length n; rw [hv, List.length_append] at this; exact this
    have hpos := venc_pos m
    refine CondV.dec (fun hge => ?_) (fun hlt => ?_)
    · have hge : 128 ≤ m := by omega
      have hfd : ((m : Int)).fdiv (2 ^ min 7 IntKind.u64.bits) = ((m / 128 : Nat) : Int) := by
        rw [show min 7 IntKind.u64.bits = 7 from rfl, Int.fdiv_eq_ediv_of_nonneg _ (by decide)]; omega
      have hvm := venc_ge m hge hm
      simp [h0, h1, hset, hw8, bits_or', hfd]
      refine ⟨by omega, GH.refl ⟨(m / 128, done ++ [((m % 128 + 128 : Nat) : Int)]), ⟨w' + 1, ?_, ?_, ?_, ?_, ?_, ?_⟩, ?_⟩⟩
      · simp
      · simp
      · simp
      · simp only; omega
      · simp only; rw [hv, hvm]; simp
      · simp only [List.length_append, List.length_singleton]; omega
      · simp only; omega
    · have hlt : m < 128 := by omega
      simp [h0, h1, hset, hw8, Tryd.results66]
      refine ⟨by omega, GV.refl ⟨w' + 1, rfl, ?_⟩⟩
      rw [hv, venc_lt m hlt]
      simp [show (m : Int) % 256 = m by omega]
/-- Numbers' bytes, or none. -/
def putB (l : List Int) : List Int := if l.all (fun n => decide (0 ≤ n)) then vencs l else []
theorem v_Put {kk : Bool} {l : List Int} (hl : l.length ≤ 10000) (hr : ∀ n ∈ l, n < 9223372036854775808) : A 54 [IS kk l] (BS true (putB l)) := by
  intro H
  refine v_enter hC [] (fun _ _ => kn_none rfl) Tryd.func54 rfl ok54 (Nat.le_of_ble_eq_true rfl) fun hcl hbl => ?_
  simp
  have get : ∀ {k : Nat} (h : k < l.length), l[k]? = some l[k] := fun h => List.getElem?_eq_getElem h
  refine v_loopX hC (fun (k : Nat) e T => ∃ w t, T = H ++ [.vec w ((vencs (l.take k)).map bc) 1 true t] ∧ e 3 = .own H.length w ∧ e 6 = IS kk l ∧ e 7 = i6 l.length ∧ e 8 = i6 k ∧ k ≤ l.length ∧ ∀ n ∈ l.take k, 0 ≤ n) (fun k => l.length - k) 0 ?_ ?_
  · refine G.nilT0 (s := 1) 3 hcl (Nat.le_refl _) (by omega) (by simp) ?_
    exact ⟨0, true, by simp [vencs], by simp, by simp, by simp, by simp, by simp, by simp⟩
  · rintro k e T ⟨w, t, rfl, h3, h6, h7, h8, hk, hpos⟩
    simp [h3, h6, h7, h8]
    refine CondV.dec (fun hlt => ?_) (fun hge => ?_)
    · simp [h3, h6, h7, h8, get hlt]
      have hrk := hr l[k] (List.getElem_mem hlt)
      refine CondV.dec (fun hneg => ?_) (fun hnn => ?_)
      · have hm : putB l = [] := by
          unfold putB
          rw [if_neg]
          intro h
          have := List.all_eq_true.1 h l[k] (List.getElem_mem hlt)
          simp at this
          omega
        simp [Tryd.results54]
        first | (refine GV.ans hcl ?_; simp [hm]; done) | (refine GV.ans0 ?_; simp [hm]; done)
      · obtain ⟨n, hln⟩ : ∃ n : Nat, l[k] = n := ⟨l[k].toNat, by omega⟩
        have hw : IntKind.u64.wrap l[k] = (n : Int) := by simp [IntKind.wrap, IntKind.bits, IntKind.signed]; omega
        have hlen : (vencs (l.take k)).length ≤ 100000 := by
          have := vencs_length (l.take k)
          rw [List.length_take] at this
          omega
        simp [h3, hw]
        refine CALLv.at (v_put (n := n) (rows := (vencs (l.take k)).map bc) (List.getElem?_concat_length ..) (by simp) (by simp; omega) (by omega)) fun u T' hu => ?_
        obtain ⟨w2, e1, e2⟩ := hu
        subst e1; subst e2
        simp [h3, h6, h7, h8, w64 (n := (k : Int) + 1) (by omega)]
        refine GH.refl ⟨k + 1, ⟨w2, t, ?_, ?_, ?_, ?_, ?_, hlt, ?_⟩, by omega⟩ <;> (try simp [h6, h7])
        · rw [List.take_succ_eq_append_getElem hlt, vencs_append]
          simp [vencs, hln]
        · rw [List.take_succ_eq_append_getElem hlt]
          intro n hn
          rcases List.mem_append.1 hn with hn | hn
          · exact hpos n hn
          · simp at hn; subst hn; omega
    · have hm : putB l = vencs l := by
        unfold putB
        rw [if_pos]
        rw [List.all_eq_true]
        intro n hn
        rw [List.take_of_length_le (by omega)] at hpos
        simpa using hpos n hn
      have ht : l.take k = l := List.take_of_length_le (by omega)
      simp [h3, Tryd.results54]
      first | (refine GV.ans hcl ?_; simp [hm, ht]; done) | (refine GV.ans0 ?_; simp [hm, ht]; done)
end Go.Proofs.YtenbclcfhjdcaaaDoor.VM
end
section
set_option maxHeartbeats 8000000
set_option linter.unusedVariables false
set_option linter.unusedSimpArgs false

/- Bytes as a law's argument. -/
namespace Go.Proofs.YtenbclcfhjdcaaaDoor.VM
open Go Go.Proofs Go.RowKit AM B
theorem rows_bc : ∀ {rows : List (List V)}, (∀ r ∈ rows, ∃ x : Int, (0 ≤ x ∧ x ≤ 255) ∧ r = bc x) → ∃ l : List Int, rows = l.map bc ∧ ∀ x ∈ l, 0 ≤ x ∧ x ≤ 255
  | [], _ => ⟨[], rfl, by simp⟩
  | r :: rs, h => by
    obtain ⟨e, he1, he2⟩ := h r (by simp)
    obtain ⟨l, hl, hb⟩ := rows_bc (rows := rs) fun x hx => h x (by simp [hx])
    refine ⟨e :: l, by rw [he2, hl]; rfl, fun x hx => ?_⟩
    rcases List.mem_cons.1 hx with rfl | hx
    · exact he1
    · exact hb x hx
/-- Bytes. -/
theorem rd_bytes {H : Type} {enc : TypeId × Value → H} {w : World} {cs : List Value} (h : Rd enc Tryd.prog w 39 cs) : ∃ v kk, ∃ l : List Int, cs = [v] ∧ l.length < 2 ^ 63 ∧ (∀ x ∈ l, 0 ≤ x ∧ x ≤ 255) ∧ CellV w (BS kk l) v := by
  obtain ⟨v, kk, rows, e, hc, hl, hg⟩ := rd_sliceV (fun r => ∃ x : Int, (0 ≤ x ∧ x ≤ 255) ∧ r = bc x) h Tryd.underlying39 (by kernel_rfl : Tryd.prog.cellsOf 5 = 1) (by omega) (by omega) (fun es h1 h2 => by
    obtain ⟨x, rfl, hw⟩ := h2.int Tryd.underlying5
    refine ⟨bc x, rfl, ⟨_, _, rfl, .lit rfl, rfl⟩, x, ?_, rfl⟩
    simp [Lit.wf, IntKind.min, IntKind.max, IntKind.signed, IntKind.bits] at hw
    omega)
  obtain ⟨l, rfl, hb⟩ := rows_bc hg
  exact ⟨v, kk, l, e, by simp only [List.length_map, maxLen] at hl; omega, hb, hc⟩
theorem arg_bytes {H : Type} {enc : TypeId × Value → H} {w : World} {v : Value} (h : Rd enc Tryd.prog w 39 [v]) : ∃ kk, ∃ l : List Int, l.length < 2 ^ 63 ∧ (∀ x ∈ l, 0 ≤ x ∧ x ≤ 255) ∧ ArgV w (BS kk l) v := by
  obtain ⟨u, kk, l, e, h1, h2, h3⟩ := rd_bytes h
  cases e
  exact ⟨kk, l, h1, h2, h3.arg⟩
theorem rows_ic : ∀ {rows : List (List V)}, (∀ r ∈ rows, ∃ x : Int, r = ic x) → ∃ l : List Int, rows = l.map ic
  | [], _ => ⟨[], rfl⟩
  | r :: rs, h => by
    obtain ⟨e, he⟩ := h r (by simp)
    obtain ⟨l, hl⟩ := rows_ic (rows := rs) fun x hx => h x (by simp [hx])
    exact ⟨e :: l, by rw [he, hl]; rfl⟩
/-- Whole numbers. -/
theorem rd_ints {H : Type} {enc : TypeId × Value → H} {w : World} {cs : List Value} (h : Rd enc Tryd.prog w 32 cs) : ∃ v kk, ∃ l : List Int, cs = [v] ∧ l.length < 2 ^ 63 ∧ CellV w (IS kk l) v := by
  obtain ⟨v, kk, rows, e, hc, hl, hg⟩ := rd_sliceV (fun r => ∃ x : Int, r = ic x) h Tryd.underlying32 (by kernel_rfl : Tryd.prog.cellsOf 3 = 1) (by omega) (by omega) (fun es h1 h2 => by
    obtain ⟨x, rfl, hw⟩ := h2.int Tryd.underlying3
    exact ⟨ic x, rfl, ⟨_, _, rfl, .lit rfl, rfl⟩, x, rfl⟩)
  obtain ⟨l, rfl⟩ := rows_ic hg
  exact ⟨v, kk, l, e, by simp only [List.length_map, maxLen] at hl; omega, hc⟩
theorem arg_ints {H : Type} {enc : TypeId × Value → H} {w : World} {v : Value} (h : Rd enc Tryd.prog w 32 [v]) : ∃ kk, ∃ l : List Int, l.length < 2 ^ 63 ∧ ArgV w (IS kk l) v := by
  obtain ⟨u, kk, l, e, h1, h3⟩ := rd_ints h
  cases e
  exact ⟨kk, l, h1, h3.arg⟩
end Go.Proofs.YtenbclcfhjdcaaaDoor.VM
end
section
set_option maxHeartbeats 8000000
set_option linter.unusedVariables false
set_option linter.unusedSimpArgs false

/- bytes: the document's Put, Same, bytes.Equal. -/
namespace Go.Proofs.YtenbclcfhjdcaaaDoor.VM
open Go Go.Proofs AM
set_option maxRecDepth 100000
theorem v_rPut {n : Nat} (hn : n < 18446744073709551616) : A 63 [.lit (.int .u64 n)] (BS true (venc n)) := by
  intro H
  refine v_enter hC [] (fun _ _ => kn_none rfl) Tryd.func63 rfl ok63 (Nat.le_of_ble_eq_true rfl) fun hcl hbl => ?_
  simp
  refine v_loopX hC (fun (X : Nat × List Int) e T => ∃ w t, T = H ++ [.vec w (X.2.map bc) 1 true t] ∧ e 0 = .lit (.int .u64 X.1) ∧ e 3 = .own H.length w ∧ X.1 < 18446744073709551616 ∧ venc n = X.2 ++ venc X.1) (fun X => X.1) (n, []) ?_ ?_
  · refine G.nilT0 (s := 1) 3 hcl (Nat.le_refl _) (by omega) (by simp) ?_
    exact ⟨0, true, by simp, by simp, by simp, hn, by simp⟩
  · rintro ⟨m, done⟩ e T ⟨w, t, rfl, h0, h3, hm, hv⟩
    simp only at h0 hm hv
    have hlen : done.length + (venc m).length ≤ 10 := by have := venc_length n; rw [hv, List.length_append] at this; exact this
    have hpos := venc_pos m
    have hw1 : IntKind.u8.wrap ((m : Int) % 128) = ((m % 128 : Nat) : Int) := by
      simp [IntKind.wrap, IntKind.bits, IntKind.signed]; omega
    have hw3 : IntKind.u8.wrap ((m : Int).tmod 128) = ((m % 128 : Nat) : Int) := by
      rw [Int.tmod_eq_emod_of_nonneg (by omega)]; exact hw1
    have hw2 : IntKind.u64.wrap ((m : Int) / 128) = ((m / 128 : Nat) : Int) := by
      simp [IntKind.wrap, IntKind.bits, IntKind.signed]; omega
    simp [h0, h3, hw1, hw2, hw3]
    refine CondV.dec (fun hz => ?_) (fun hnz => ?_)
    · have hlt : m < 128 := by omega
      have hv2 : venc n = done ++ [(m : Int)] := by rw [hv, venc_lt m hlt]
      simp [h0, h3, hw1, hw2, hw3, Tryd.results63]
      refine ⟨by omega, ?_⟩
      have hmm : (m : Int) % 128 = m := by omega
      rw [hmm]
      first | (refine GV.ans hcl ?_; simp [hv2]; done) | (refine GV.ans0 ?_; simp [hv2]; done)
    · have hge : 128 ≤ m := by omega
      have hvm := venc_ge m hge hm
      have hw4 : IntKind.u8.wrap ((m : Int) % 128 + 128) = ((m % 128 + 128 : Nat) : Int) := by
        simp [IntKind.wrap, IntKind.bits, IntKind.signed]; omega
      simp [h0, h3, hw1, hw2, hw3, hw4]
      refine ⟨by omega, GH.refl ⟨(m / 128, done ++ [((m % 128 + 128 : Nat) : Int)]), ⟨w + 1, t, ?_, ?_, ?_, ?_, ?_⟩, ?_⟩⟩
      · simp
      · simp
      · simp
      · simp only; omega
      · simp only; rw [hv, hvm]; simp
      · simp only; omega
theorem getL {l : List Int} {k : Nat} (h : k < l.length) : l[k]? = some l[k] := List.getElem?_eq_getElem h
theorem v_Same1 {kk km : Bool} {l m : List Int} (hl : l.length < 2 ^ 62) : A 18 [BS kk l, BS km m] (bo (decide (l = m))) := by
  intro H
  refine v_enter hC [] (fun _ _ => kn_none rfl) Tryd.func18 rfl ok18 (Nat.le_of_ble_eq_true rfl) fun hcl hbl => ?_
  simp
  by_cases hlen : l.length = m.length
  · simp [hlen]
    refine v_loopX hC (fun (k : Nat) e T => T = H ∧ e 0 = BS kk l ∧ e 1 = BS km m ∧ e 5 = i6 k ∧ k ≤ l.length ∧ ∀ j (h : j < k) (h1 : j < l.length) (h2 : j < m.length), l[j] = m[j]) (fun k => l.length - k) 0 (G.refl ?_) ?_
    · simp
    · rintro k e T ⟨rfl, h0, h1, h5, hk, hall⟩
      simp [h0, h1, h5]
      refine CondV.dec (fun hlt => ?_) (fun hge => ?_)
      · have hlt : k < l.length := by omega
        simp [h0, h1, h5]
        refine v_draw (ord := [0, 1, 2, 3, 4, 5, 6, 7, 8]) (m := 8) (by decide +kernel) (by decide +kernel) ?_
        simp [h0, h1, h5, getL hlt, getL (show k < m.length by omega)]
        refine CondV.on (fun hb => ?_) (fun hb => ?_)
        · have : l ≠ m := fun e => by subst e; simp at hb
          simp [Tryd.results18]
          first | (refine GV.ans hcl ?_; simp [this]; done) | (refine GV.ans0 ?_; simp [this]; done)
        · have hb : l[k] = m[k] := by simpa using hb
          simp [h0, h1, h5, w64 (n := (k : Int) + 1) (by omega)]
          refine GH.refl ⟨k + 1, ⟨rfl, ?_, ?_, ?_, hlt, fun j hj h1 h2 => ?_⟩, by omega⟩ <;> (try simp [h0, h1])
          by_cases hjk : j = k
          · subst hjk; exact hb
          · exact hall j (by omega) h1 h2
      · have : l = m := List.ext_getElem hlen fun j h1 h2 => hall j (by omega) h1 h2
        simp [Tryd.results18]
        first | (refine GV.ans hcl ?_; simp [this]; done) | (refine GV.ans0 ?_; simp [this]; done)
  · have : l ≠ m := fun e => hlen (by rw [e])
    have hlen : ¬ ((l.length : Int) = m.length) := by omega
    simp [hlen, Tryd.results18]
    first | (refine GV.ans hcl ?_; simp [this]; done) | (refine GV.ans0 ?_; simp [this]; done)
def u8 (x : Int) : UInt8 := UInt8.ofNat x.toNat
theorem bytesV_bc : ∀ l : List Int, bytesV (l.map bc) = some (l.map u8)
  | [] => rfl
  | x :: l => by
    have := bytesV_bc l
    simp only [List.map_cons, bc, bytesV, byteOfV] at this ⊢
    rw [bytesV_bc l]
    rfl
theorem u8_inj {x y : Int} (hx : 0 ≤ x ∧ x ≤ 255) (hy : 0 ≤ y ∧ y ≤ 255) (h : u8 x = u8 y) : x = y := by
  have := congrArg UInt8.toNat h
  simp [u8] at this
  omega
theorem map_u8 : ∀ {l m : List Int}, (∀ x ∈ l, 0 ≤ x ∧ x ≤ 255) → (∀ x ∈ m, 0 ≤ x ∧ x ≤ 255) → (l.map u8 == m.map u8) = decide (l = m)
  | [], [], _, _ => by simp
  | [], _ :: _, _, _ => by simp
  | _ :: _, [], _, _ => by simp
  | x :: l, y :: m, hl, hm => by
    have := map_u8 (l := l) (m := m) (fun z hz => hl z (by simp [hz])) (fun z hz => hm z (by simp [hz]))
    simp only [List.map_cons, List.cons_beq_cons, this]
    by_cases hxy : x = y
    · subst hxy; simp
    · have : u8 x ≠ u8 y := fun h => hxy (u8_inj (hl x (by simp)) (hm y (by simp)) h)
      simp [hxy, this]
theorem v_bEq {kk km : Bool} {l m : List Int} (bl : ∀ x ∈ l, 0 ≤ x ∧ x ≤ 255) (bm : ∀ x ∈ m, 0 ≤ x ∧ x ≤ 255) : A 58 [BS kk l, BS km m] (bo (decide (l = m))) := by
  intro H
  refine v_enter hC [] (fun _ _ => kn_none rfl) Tryd.func58 rfl ok58 (Nat.le_of_ble_eq_true rfl) fun hcl hbl => ?_
  simp only [BS]
  simp [-bytesV, bytesV_bc, map_u8 bl bm, Tryd.results58]
  first | (refine GV.ans hcl ?_; simp []; done) | (refine GV.ans0 ?_; simp []; done)
theorem v_bEqual {kk km : Bool} {l m : List Int} (hl : l ≠ []) (hm : m ≠ []) (bl : ∀ x ∈ l, 0 ≤ x ∧ x ≤ 255) (bm : ∀ x ∈ m, 0 ≤ x ∧ x ≤ 255) : A 58 [BS kk l, BS km m] (bo (decide (l = m))) := by
  intro H
  exact v_bEq bl bm H
end Go.Proofs.YtenbclcfhjdcaaaDoor.VM
end
section
set_option maxHeartbeats 8000000
set_option linter.unusedVariables false
set_option linter.unusedSimpArgs false

/- command: a command's numbers (pointers to its fields), turned round. -/
namespace Go.Proofs.YtenbclcfhjdcaaaDoor.VM
open Go Go.Proofs AM B
set_option maxRecDepth 100000
set_option maxHeartbeats 4000000
theorem wr0 : IntKind.i64.wrap 0 = 0 := by decide +kernel
theorem wr1 : IntKind.i64.wrap 1 = 1 := by decide +kernel
theorem wr2 : IntKind.i64.wrap 2 = 2 := by decide +kernel
theorem wr3 : IntKind.i64.wrap 3 = 3 := by decide +kernel
theorem wrm : IntKind.i64.wrap (-1) = -1 := by decide +kernel
attribute [simp] wr0 wr1 wr2 wr3 wrm
theorem v_Rev1 {H : Hp} {g w p : Nat} {t : Bool} (hg : H[g]? = some (.vec w [[.ptr p 1]] 1 true t)) : VC Tryd.prog prims 65 [.own g w] H fun _ T => T = H := by
  refine v_enter hC [] (fun _ _ => kn_none rfl) Tryd.func65 rfl ok65 (Nat.le_of_ble_eq_true rfl) fun hcl hbl => ?_
  simp [hg]
  refine v_once hC ?_
  simp [hg, Tryd.results65]
  exact GV.refl rfl
theorem v_Rev3 {H : Hp} {g w p : Nat} {t : Bool} (hg : H[g]? = some (.vec w [[.ptr p 3], [.ptr p 2], [.ptr p 1]] 1 true t)) : VC Tryd.prog prims 65 [.own g w] H fun _ T => T = H.set g (.vec w [[.ptr p 1], [.ptr p 2], [.ptr p 3]] 1 true t) := by
  have hgl : g < H.length := get_lt hg
  refine v_enter hC [] (fun _ _ => kn_none rfl) Tryd.func65 rfl ok65 (Nat.le_of_ble_eq_true rfl) fun hcl hbl => ?_
  simp [hg]
  refine v_once hC ?_
  simp [hg]
  refine v_draw (ord := [0, 1, 2, 3, 4, 5, 6, 7, 8, 9, 10, 11, 12, 13, 14, 15]) (m := 12) (by decide +kernel) (by decide +kernel) ?_
  simp [hg, List.getElem?_set_self hgl, List.set_set]
  refine v_once hC ?_
  simp [hg, Tryd.results65]
  exact GV.refl rfl
theorem v_Rev0 {H : Hp} : VC Tryd.prog prims 65 [.lit (.slice none 0 0)] H fun _ T => T = H := by
  refine v_enter hC [] (fun _ _ => kn_none rfl) Tryd.func65 rfl ok65 (Nat.le_of_ble_eq_true rfl) fun hcl hbl => ?_
  simp
  refine v_once hC ?_
  simp [Tryd.results65]
  exact GV.refl rfl
/-- A command of kind k: its object. -/
def CmO (k a b c : Int) (B : V) : Ob := .mem [i6 k, i6 a, i6 b, i6 c, B] true
def z9 (g : Nat) : Hp := [.vec 0 [[.ptr g 3], [.ptr g 2]] 1 true true, .vec 1 [[.ptr g 1], [.ptr g 2], [.ptr g 3]] 1 true true, .vec 0 [[.ptr g 1]] 1 true true]
def z1 (g : Nat) : Hp := [.vec 0 [[.ptr g 1]] 1 true true, .vec 0 [[.ptr g 1]] 1 true true]
def hasB (k : Int) : Bool := k == 1 || k == 7 || k == 8
/-- Its numbers. -/
theorem v_num9 {H : Hp} {g n : Nat} {a b c : Int} {B : V} (hn : H.length + 1 = n) (hg : H[g]? = some (CmO 9 a b c B)) : VC Tryd.prog prims 53 [.ptr g 0] H fun u T => T = H ++ z9 g ∧ u = .tup [.own n 1, bo false] := by
  subst hn
  have hgl : g < H.length := get_lt hg
  have hg' : ∀ X : Hp, (H ++ X)[g]? = some (CmO 9 a b c B) := fun X => by rw [List.getElem?_append_left hgl, hg]
  unfold CmO at hg hg'
  refine v_enter hC [22,28] (fun _ _ => kn_none rfl) Tryd.func53 rfl ok53 (Nat.le_of_ble_eq_true rfl) fun hcl hbl => ?_
  simp [hg]
  refine v_draw (ord := [0, 1, 2, 3, 4, 5, 6, 7, 8, 9]) (m := 0) (by decide +kernel) (by decide +kernel) ?_
  simp [hg, hg', hgl]
  refine CALLv.at (v_Rev3 (p := g) (t := true) (by simp)) fun u T hu => ?_
  rw [List.set_append_right _ _ (by omega)] at hu
  simp only [Nat.add_sub_cancel_left, List.set_cons_succ, List.set_cons_zero] at hu
  subst hu
  simp [hg']
  refine v_draw (ord := [0, 1, 2, 3, 4, 5, 6, 7, 8, 9, 10, 11, 12, 13, 14, 15, 16, 17, 18, 19, 20, 21]) (m := 0) (by decide +kernel) (by decide +kernel) ?_
  simp [hg', Tryd.results53]
  exact GV.refl ⟨rfl, rfl⟩
theorem v_num1 {H : Hp} {g n : Nat} {k a b c : Int} {B : V} (hn : H.length + 1 = n) (hk : 1 ≤ k ∧ k ≤ 3) (hg : H[g]? = some (CmO k a b c B)) : VC Tryd.prog prims 53 [.ptr g 0] H fun u T => T = H ++ z1 g ∧ u = .tup [.own n 0, bo (hasB k)] := by
  subst hn
  have hgl : g < H.length := get_lt hg
  have hg' : ∀ X : Hp, (H ++ X)[g]? = some (CmO k a b c B) := fun X => by rw [List.getElem?_append_left hgl, hg]
  unfold CmO at hg hg'
  refine v_enter hC [22,28] (fun _ _ => kn_none rfl) Tryd.func53 rfl ok53 (Nat.le_of_ble_eq_true rfl) fun hcl hbl => ?_
  obtain rfl | rfl | rfl : k = 1 ∨ k = 2 ∨ k = 3 := by omega
  · simp [hg, hg']
    refine CALLv.at (v_Rev1 (p := g) (t := true) (by simp)) fun u T hu => ?_
    subst hu
    simp [hg']
    refine v_draw (ord := [0, 1, 2, 3, 4, 5, 6, 7, 8, 9, 10, 11, 12, 13, 14, 15, 16, 17, 18, 19, 20, 21]) (m := 0) (by decide +kernel) (by decide +kernel) ?_
    simp [hg', Tryd.results53]
    exact GV.refl ⟨rfl, rfl⟩
  · simp [hg, hg']
    refine CALLv.at (v_Rev1 (p := g) (t := true) (by simp)) fun u T hu => ?_
    subst hu
    simp [hg']
    refine v_draw (ord := [0, 1, 2, 3, 4, 5, 6, 7, 8, 9, 10, 11, 12, 13, 14, 15, 16, 17, 18, 19, 20, 21]) (m := 0) (by decide +kernel) (by decide +kernel) ?_
    simp [hg', Tryd.results53]
    exact GV.refl ⟨rfl, rfl⟩
  · simp [hg, hg']
    refine CALLv.at (v_Rev1 (p := g) (t := true) (by simp)) fun u T hu => ?_
    subst hu
    simp [hg']
    refine v_draw (ord := [0, 1, 2, 3, 4, 5, 6, 7, 8, 9, 10, 11, 12, 13, 14, 15, 16, 17, 18, 19, 20, 21]) (m := 0) (by decide +kernel) (by decide +kernel) ?_
    simp [hg', Tryd.results53]
    exact GV.refl ⟨rfl, rfl⟩
theorem v_num0 {H : Hp} {g : Nat} {k a b c : Int} {B : V} (hk : ¬ (1 ≤ k ∧ k ≤ 3 ∨ k = 9)) (hg : H[g]? = some (CmO k a b c B)) : VC Tryd.prog prims 53 [.ptr g 0] H fun u T => T = H ∧ u = .tup [.lit (.slice none 0 0), bo (hasB k)] := by
  have hgl : g < H.length := get_lt hg
  unfold CmO at hg
  have h1 : ¬ k = 1 := by omega
  have h2 : ¬ k = 2 := by omega
  have h3 : ¬ k = 3 := by omega
  have h9 : ¬ k = 9 := by omega
  refine v_enter hC [22,28] (fun _ _ => kn_none rfl) Tryd.func53 rfl ok53 (Nat.le_of_ble_eq_true rfl) fun hcl hbl => ?_
  simp [hg, h1, h2, h3, h9]
  refine CALLv.at v_Rev0 fun u T hu => ?_
  subst hu
  simp [hg]
  refine v_draw (ord := [0, 1, 2, 3, 4, 5, 6, 7, 8, 9, 10, 11, 12, 13, 14, 15, 16, 17, 18, 19, 20, 21]) (m := 0) (by decide +kernel) (by decide +kernel) ?_
  simp [hg, h1]
  by_cases h7 : k = 7
  · subst h7
    simp [hg, Tryd.results53]
    exact GV.refl ⟨rfl, rfl⟩
  · simp [hg, h7, Tryd.results53]
    exact GV.refl ⟨rfl, by
      have : hasB k = decide (k = 8) := by
        unfold hasB
        rw [show (k == 1) = false from by simpa using h1, show (k == 7) = false from by simpa using h7]
        by_cases h8 : k = 8 <;> simp [h8]
      rw [this]; rfl⟩
attribute [simp] z9 z1
end Go.Proofs.YtenbclcfhjdcaaaDoor.VM
end
section
set_option maxHeartbeats 8000000
set_option linter.unusedVariables false
set_option linter.unusedSimpArgs false

/- varint: the reader. -/
namespace Go.Proofs.YtenbclcfhjdcaaaDoor.VM
open Go Go.Proofs AM B
set_option maxRecDepth 100000
theorem v_bClone {kk : Bool} {l : List Int} (hl : l.length ≤ 100000) : A 60 [BS kk l] (BS true l) := by
  intro H
  refine v_enter hC [] (fun _ _ => kn_none rfl) Tryd.func60 rfl ok60 (Nat.le_of_ble_eq_true rfl) fun hcl hbl => ?_
  simp [Tryd.results60]
  refine ⟨⟨by omega, ?_⟩, fun h => ?_⟩
  · first | (refine GV.ans hcl ?_; simp []; done) | (refine GV.ans0 ?_; simp []; done)
  · subst h
    have := GV.ans (H := H) (X := []) (v := BS true []) (x := .lit (.slice none 0 0)) hcl (by simp)
    rw [List.append_nil] at this
    exact this
theorem bounds_hi {n L : Nat} (h : n ≤ L) : bounds L L none (some (n : Int)) none = some (0, n, L) := by
  simp [bounds]; omega
theorem bounds_lo {n L : Nat} (h : n ≤ L) : bounds L L (some (n : Int)) none none = some (n, L, L) := by
  simp [bounds]; omega
theorem v_take {T : Hp} {g : Nat} {kk : Bool} {l : List Int} {er : Int} {n : Nat} (hg : T[g]? = some (.mem [BS kk l, i6 er] true)) (hl : l.length ≤ 100000) (hn : n ≤ l.length) :
    VC Tryd.prog prims 71 [.ptr g 0, i6 n] T fun u U => u = BS true (l.take n) ∧ U = T.set g (.mem [BS false (l.drop n), i6 er] true) := by
  refine v_enter hC [] (fun _ _ => kn_none rfl) Tryd.func71 rfl ok71 (Nat.le_of_ble_eq_true rfl) fun hcl hbl => ?_
  simp [hg, bounds_hi hn]
  refine (v_bClone (kk := kk) (l := l.take n) (by rw [List.length_take]; omega)).callU [BS kk (l.take n)] (by simp) ?_
  simp [hg, bounds_lo hn, Tryd.results71]
  exact GV.refl ⟨by simp, by simp⟩
theorem v_left {T : Hp} {g : Nat} {kk : Bool} {l : List Int} {er : Int} (hg : T[g]? = some (.mem [BS kk l, i6 er] true)) (hl : l.length ≤ 100000) :
    VC Tryd.prog prims 72 [.ptr g 0] T fun u U => u = BS true l ∧ U = T := by
  refine v_enter hC [] (fun _ _ => kn_none rfl) Tryd.func72 rfl ok72 (Nat.le_of_ble_eq_true rfl) fun hcl hbl => ?_
  simp [hg]
  refine (v_bClone (kk := kk) (l := l) hl).callU [BS kk l] (by simp) ?_
  simp [Tryd.results72]
  exact GV.refl ⟨by simp, rfl⟩
theorem v_end {T : Hp} {g : Nat} {kk : Bool} {l : List Int} {er : Int} (hg : T[g]? = some (.mem [BS kk l, i6 er] true)) (hl : l.length ≤ 100000) :
    VC Tryd.prog prims 70 [.ptr g 0] T fun u U => u = .tup [BS true (if er = 0 then l else []), i6 er] ∧ U = T := by
  refine v_enter hC [] (fun _ _ => kn_none rfl) Tryd.func70 rfl ok70 (Nat.le_of_ble_eq_true rfl) fun hcl hbl => ?_
  simp [hg]
  refine CondV.on (fun h => ?_) (fun h => ?_)
  · have h : er ≠ 0 := by simpa using h
    simp
    refine v_draw (ord := [0, 1, 2, 3, 4, 5]) (m := 0) (by decide +kernel) (by decide +kernel) ?_
    simp [hg, Tryd.results70]
    have := GV.ans (H := T) (X := []) (v := .tup [BS true (if er = 0 then l else []), i6 er]) (x := .tup [.lit (.slice none 0 0), i6 er]) hcl (by simp [h])
    rw [List.append_nil] at this
    exact this
  · have h : er = 0 := by simpa using h
    subst h
    simp [hg]
    refine CALLv.at (v_left hg hl) fun u T' hu => ?_
    obtain ⟨e1, e2⟩ := hu
    subst e1; subst e2
    simp [Tryd.results70]
    exact GV.refl ⟨by simp, rfl⟩
end Go.Proofs.YtenbclcfhjdcaaaDoor.VM
end
section
set_option maxHeartbeats 8000000
set_option linter.unusedVariables false
set_option linter.unusedSimpArgs false

/- varint: number, Get. -/
namespace Go.Proofs.YtenbclcfhjdcaaaDoor.VM
open Go Go.Proofs AM B
set_option maxRecDepth 100000
/-- A number's bytes read: the number, how many bytes, what is wrong. -/
def numF (gr : Nat) : Nat → Nat → List Int → Nat × Nat × Int
  | _, _, [] => (0, 0, 4)
  | i, n, c :: cs =>
    if 9 < i ∨ 18446744073709551615 / 2 ^ (7 * i) < (c % 128).toNat ∨ gr < n + (c % 128).toNat * 2 ^ (7 * i) then (0, 0, 3)
    else if c = 0 ∧ 0 < i then (0, 0, 3)
    else if c < 128 then (n + (c % 128).toNat * 2 ^ (7 * i), i + 1, 0)
    else numF gr (i + 1) (n + (c % 128).toNat * 2 ^ (7 * i)) cs
theorem bits_andNot {c : Int} (h : 0 ≤ c ∧ c ≤ 255) : IntKind.u64.wrap (bits BinOp.andNot IntKind.u8 c 128) = ((c % 128).toNat : Int) := by
  have : ∀ r : Fin 256, IntKind.u64.wrap (bits BinOp.andNot IntKind.u8 ((r : Nat) : Int) 128) = ((((r : Nat) : Int) % 128).toNat : Int) := by decide +kernel
  have := this ⟨c.toNat, by omega⟩
  rw [show ((c.toNat : Nat) : Int) = c by omega] at this
  exact this
theorem bits_or64 {k n p : Nat} (hk : k ≤ 9) (hn : n < 2 ^ (7 * k)) (hp : n + p * 2 ^ (7 * k) < 18446744073709551616) : bits BinOp.or IntKind.u64 (n : Int) ((p * 2 ^ (7 * k) : Nat) : Int) = ((n + p * 2 ^ (7 * k) : Nat) : Int) := by
  have e : n ||| p * 2 ^ (7 * k) = n + p * 2 ^ (7 * k) := by
    rw [Nat.mul_comm, Nat.or_comm, ← Nat.two_pow_add_eq_or_of_lt hn]; omega
  have a1 : BitVec.ofInt 64 (n : Int) = BitVec.ofNat 64 n := by simp
  have a2 : BitVec.ofInt 64 ((p * 2 ^ (7 * k) : Nat) : Int) = BitVec.ofNat 64 (p * 2 ^ (7 * k)) := by rw [BitVec.ofInt_natCast]
  show IntKind.u64.wrap (((BitVec.ofInt 64 (n : Int) ||| BitVec.ofInt 64 ((p * 2 ^ (7 * k) : Nat) : Int)).toNat : Nat) : Int) = _
  rw [a1, a2, BitVec.toNat_or, BitVec.toNat_ofNat, BitVec.toNat_ofNat]
  rw [Nat.mod_eq_of_lt (by omega), Nat.mod_eq_of_lt (by omega), e]
  generalize p * 2 ^ (7 * k) = W at *
  simp only [IntKind.wrap, IntKind.bits, IntKind.signed]
  simp
  omega
theorem small {k p n : Nat} (hk : k ≤ 9) (hp : p ≤ 18446744073709551615 / 2 ^ (7 * k)) (hn : n < 2 ^ (7 * k)) : p * 2 ^ (7 * k) < 18446744073709551616 ∧ n + p * 2 ^ (7 * k) < 18446744073709551616 := by
  have h : k = 0 ∨ k = 1 ∨ k = 2 ∨ k = 3 ∨ k = 4 ∨ k = 5 ∨ k = 6 ∨ k = 7 ∨ k = 8 ∨ k = 9 := by omega
  rcases h with rfl | rfl | rfl | rfl | rfl | rfl | rfl | rfl | rfl | rfl <;> simp only [Nat.reduceMul, Nat.reducePow] at * <;> omega
theorem next128 {k p n : Nat} (hp : p < 128) (hn : n < 2 ^ (7 * k)) : n + p * 2 ^ (7 * k) < 2 ^ (7 * (k + 1)) := by
  rw [Nat.mul_add, Nat.pow_add]
  have : p * 2 ^ (7 * k) ≤ 127 * 2 ^ (7 * k) := Nat.mul_le_mul_right _ (by omega)
  generalize 2 ^ (7 * k) = D at *
  simp only [Nat.mul_one, Nat.reducePow]
  omega
theorem v_number {T : Hp} {g : Nat} {kk : Bool} {l : List Int} {gr : Nat} (hg : T[g]? = some (.mem [BS kk l, i6 0] true)) (hl : l.length ≤ 100000) (hb : ∀ x ∈ l, 0 ≤ x ∧ x ≤ 255) (hgr : gr < 18446744073709551616) :
    VC Tryd.prog prims 69 [.ptr g 0, .lit (.int .u64 gr)] T fun u U => u = .lit (.int .u64 (numF gr 0 0 l).1) ∧ ∃ k', U = T.set g (.mem [BS k' (l.drop (numF gr 0 0 l).2.1), i6 (numF gr 0 0 l).2.2] true) := by
  refine v_enter hC [] (fun _ _ => kn_none rfl) Tryd.func69 rfl ok69 (Nat.le_of_ble_eq_true rfl) fun hcl hbl => ?_
  simp [hg]
  refine v_loopX hC (fun (X : Nat × Nat) e U => U = T ∧ e 0 = .ptr g 0 ∧ e 1 = .lit (.int .u64 gr) ∧ e 5 = .lit (.int .u64 X.2) ∧ e 19 = BS kk l ∧ e 20 = i6 l.length ∧ e 21 = i6 X.1 ∧ e 4 = .lit (.int .u64 0) ∧ X.1 ≤ l.length ∧ X.2 < 2 ^ (7 * X.1) ∧ X.2 ≤ gr ∧ numF gr 0 0 l = numF gr X.1 X.2 (l.drop X.1)) (fun X => l.length - X.1) (0, 0) (G.refl ?_) ?_
  · simp
  · rintro ⟨k, n⟩ e U ⟨rfl, h0, h1, h5, h19, h20, h21, h4, hk, hn, hng, hv⟩
    simp only at h5 h21 hk hn hng hv
    simp [h20, h21]
    refine CondV.dec (fun hlt => ?_) (fun hge => ?_)
    · have hlt : k < l.length := by omega
      have hc := hb l[k] (List.getElem_mem hlt)
      rw [List.drop_eq_getElem_cons hlt] at hv
      generalize hcv : l[k] = c at hv hc
      simp [h0, h1, h5, h19, h20, h21, getL hlt, hcv, w64 (n := 7 * (k : Int)) (by omega)]
      have hset : ∀ y, (U.set g y)[g]? = some y := fun y => List.getElem?_set_self (get_lt hg)
      have nn : ¬ 7 * (k : Int) < 0 := by omega
      by_cases h9 : 9 < k
      · have h63 : 63 < 7 * (k : Int) := by omega
        have hv : numF gr 0 0 l = (0, 0, 3) := by rw [hv, numF, if_pos (Or.inl h9)]
        simp [h0, h1, h5, h19, h20, h21, getL hlt, hcv, hg, hset, h63, hv, h4, Tryd.results69]
        exact GV.refl ⟨by simp [hv], kk, by simp [hv]⟩
      · have h63 : ¬ 63 < 7 * (k : Int) := by omega
        have hmn : min (7 * (k : Int)).toNat IntKind.u64.bits = 7 * k := by simp [IntKind.bits]; omega
        have hfd : Int.fdiv 18446744073709551615 (2 ^ min (7 * (k : Int)).toNat IntKind.u64.bits) = ((18446744073709551615 / 2 ^ (7 * k) : Nat) : Int) := by
          rw [hmn, Int.fdiv_eq_ediv_of_nonneg _ (by exact Int.pow_nonneg (by decide))]
          simp
        obtain ⟨p, hp⟩ : ∃ p : Nat, (c % 128).toNat = p := ⟨_, rfl⟩
        have hp1 := bits_andNot hc
        rw [hp] at hp1
        have hpl : p < 128 := by omega
        have hk9 : k ≤ 9 := by omega
        simp only [numF, hp] at hv
        have bad : 9 < k ∨ 18446744073709551615 / 2 ^ (7 * k) < p ∨ gr < n + p * 2 ^ (7 * k) → numF gr 0 0 l = (0, 0, 3) := fun h => by rw [hv, if_pos h]
        have hsh : ∀ q : Nat, q * 2 ^ (7 * k) < 18446744073709551616 → IntKind.u64.wrap ((q : Int) * 2 ^ min (7 * (k : Int)).toNat IntKind.u64.bits) = ((q * 2 ^ (7 * k) : Nat) : Int) := fun q hq => by
          rw [hmn, show ((q : Int) * 2 ^ (7 * k)) = ((q * 2 ^ (7 * k) : Nat) : Int) by simp]
          generalize q * 2 ^ (7 * k) = W at *
          simp [IntKind.wrap, IntKind.bits, IntKind.signed]
          omega
        have hsm := small (k := k) (p := p) (n := n) hk9
        have hor := bits_or64 (k := k) (p := p) (n := n) hk9 hn
        have hnx := next128 (k := k) (p := p) (n := n) hpl hn
        have hsp := hsh p
        generalize hW : p * 2 ^ (7 * k) = W at *
        generalize hM : 18446744073709551615 / 2 ^ (7 * k) = M at *
        clear hsh
        by_cases hA : M < p
        · have hA' : (M : Int) < (p : Int) := by omega
          have hv := bad (Or.inr (Or.inl hA))
          simp [h0, h1, h5, h19, h20, h21, getL hlt, hcv, hg, hset, h63, nn, hfd, hp1, hA, h4, Tryd.results69]
          exact GV.refl ⟨by simp [hv], kk, by simp [hv]⟩
        · have hA' : ¬ (M : Int) < (p : Int) := by omega
          obtain ⟨u1, u2⟩ := hsm (by omega) hn
          have hor := hor u2
          have hsp := hsp u1
          simp [h0, h1, h5, h19, h20, h21, getL hlt, hcv, hg, hset, h63, nn, hfd, hp1, hA, hsp, hor]
          refine CondV.dec (fun hG => ?_) (fun hG => ?_)
          · have hv := bad (Or.inr (Or.inr (by omega)))
            simp [h0, h1, h5, h19, h20, h21, getL hlt, hcv, hg, hset, hv, h4, Tryd.results69]
            exact GV.refl ⟨by simp [hv], kk, by simp [hv]⟩
          · rw [if_neg (by omega)] at hv
            simp [h0, h1, h5, h19, h20, h21, getL hlt, hcv, hg, hset, hsp, hor]
            by_cases hz : c = 0 ∧ 0 < k
            · obtain ⟨c0, k0⟩ := hz
              rw [if_pos ⟨c0, k0⟩] at hv
              simp [h0, h1, h5, h19, h20, h21, getL hlt, hcv, hg, hset, c0, k0, hv, h4, Tryd.results69]
              exact GV.refl ⟨by simp [hv], kk, by simp [hv]⟩
            · rw [if_neg hz] at hv
              have nk : c = 0 → ¬ 0 < k := fun h1 h2 => hz ⟨h1, h2⟩
              by_cases c0 : c = 0
              · have nk := nk c0
                rw [if_pos (by omega)] at hv
                have hp0 := hp1
                rw [c0] at hp0
                simp [h0, h1, h5, h19, h20, h21, getL hlt, hcv, hg, hset, c0, nk, nn, hp0, hsp, hor]
                simp [h0, h1, h5, h19, h20, h21, hg, nn, hp1, hsp, hor, w64 (n := (k : Int) + 1) (by omega)]
                refine CALLv.at (v_take (n := k + 1) hg hl (by omega)) fun u T' hu => ?_
                obtain ⟨e1, e2⟩ := hu
                subst e1; subst e2
                simp [nn, hp1, hsp, hor, h5, Tryd.results69]
                exact GV.refl ⟨by simp [hv], false, by simp [hv]⟩
              · simp [h0, h1, h5, h19, h20, h21, getL hlt, hcv, hg, hset, c0, nn, hp1, hsp, hor]
                refine CondV.dec (fun hs => ?_) (fun hs => ?_)
                rotate_left
                · rw [if_neg hs] at hv
                  simp [h0, h1, h19, h20, h21, w64 (n := (k : Int) + 1) (by omega)]
                  refine GH.refl ⟨(k + 1, n + W), ⟨rfl, ?_, ?_, ?_, ?_, ?_, ?_, ?_, hlt, hnx, by omega, hv⟩, by omega⟩ <;> simp [h0, h1, h4, h19, h20]
                rw [if_pos hs] at hv
                simp [h0, h1, h5, h19, h20, h21, hg, nn, hp1, hsp, hor, w64 (n := (k : Int) + 1) (by omega)]
                refine CALLv.at (v_take (n := k + 1) hg hl (by omega)) fun u T' hu => ?_
                obtain ⟨e1, e2⟩ := hu
                subst e1; subst e2
                simp [nn, hp1, hsp, hor, h5, Tryd.results69]
                exact GV.refl ⟨by simp [hv], false, by simp [hv]⟩
    · rw [List.drop_of_length_le (by omega)] at hv
      simp [h0, hg, h4, Tryd.results69]
      exact GV.refl ⟨by simp [hv, numF], kk, by simp [hv, numF]⟩
/-- What Get answers. -/
def getN (l : List Int) : Nat × Nat × Int := numF 9223372036854775807 0 0 l
theorem numF_le {gr : Nat} : ∀ (l : List Int) (i n : Nat), (numF gr i n l).1 ≤ gr ∧ (numF gr i n l).2.1 ≤ i + l.length
  | [], i, n => by simp [numF]
  | c :: cs, i, n => by
    unfold numF
    split
    · simp
    · split
      · simp
      · split
        · rename_i h1 h2 h3
          refine ⟨?_, ?_⟩
          · simp only; omega
          · simp only [List.length_cons]; omega
        · have := numF_le (gr := gr) cs (i + 1) (n + (c % 128).toNat * 2 ^ (7 * i))
          refine ⟨this.1, ?_⟩
          have := this.2
          simp only [List.length_cons]; omega
theorem v_Get {kk : Bool} {l : List Int} (hl : l.length ≤ 100000) (hb : ∀ x ∈ l, 0 ≤ x ∧ x ≤ 255) : A 61 [BS kk l] (.tup [i6 (getN l).1, BS true (if (getN l).2.2 = 0 then l.drop (getN l).2.1 else []), i6 (getN l).2.2]) := by
  intro H
  refine v_enter hC [] (fun _ _ => kn_none rfl) Tryd.func61 rfl ok61 (Nat.le_of_ble_eq_true rfl) fun hcl hbl => ?_
  simp
  refine CALLv.at (v_number (kk := kk) (l := l) (gr := 9223372036854775807) (List.getElem?_concat_length ..) hl hb (by omega)) fun u T' hu => ?_
  obtain ⟨e1, k', e2⟩ := hu
  subst e1; subst e2
  have hgl := numF_le (gr := 9223372036854775807) l 0 0
  rw [show numF 9223372036854775807 0 0 l = getN l from rfl] at hgl ⊢
  generalize getN l = G at hgl ⊢
  simp
  rw [← List.map_drop]
  refine CALLv.at (v_end (kk := k') (l := l.drop G.2.1) (er := G.2.2) (List.getElem?_concat_length ..) (by rw [List.length_drop]; omega)) fun u T' hu => ?_
  obtain ⟨e1, e2⟩ := hu
  subst e1; subst e2
  have hw : IntKind.i64.wrap (G.1 : Int) = (G.1 : Int) := w64 (by omega)
  simp [hw, Tryd.results61]
  first | (refine GV.ans hcl ?_; simp []; done) | (refine GV.ans0 ?_; simp []; done)
end Go.Proofs.YtenbclcfhjdcaaaDoor.VM
end
section
set_option maxHeartbeats 8000000
set_option linter.unusedVariables false
set_option linter.unusedSimpArgs false

/- Bytes that are read: what was written as a number is read again (of numF); bytes behind change nothing. -/
namespace Go.Proofs.YtenbclcfhjdcaaaDoor.VM
open Go Go.Proofs AM B
set_option maxRecDepth 100000
theorem pow7 (i : Nat) : 2 ^ (7 * (i + 1)) = 2 ^ (7 * i) * 128 := by rw [Nat.mul_add, Nat.pow_add]
theorem pow7_big {i n : Nat} (h : n * 2 ^ (7 * i) < 18446744073709551616) (hn : 0 < n) : i ≤ 9 := by
  rcases Nat.lt_or_ge 9 i with h9 | h9
  · exfalso
    have : 2 ^ (7 * 10) ≤ 2 ^ (7 * i) := Nat.pow_le_pow_right (by decide) (by omega)
    have h2 : 2 ^ (7 * i) ≤ n * 2 ^ (7 * i) := Nat.le_mul_of_pos_left _ hn
    generalize 2 ^ (7 * i) = D at *
    simp at this
    omega
  · exact h9
theorem split128 (acc n D : Nat) : acc + n % 128 * D + n / 128 * (D * 128) = acc + n * D := by
  have h1 : n * D = (128 * (n / 128) + n % 128) * D := by rw [Nat.div_add_mod]
  have h2 : n / 128 * (D * 128) = 128 * (n / 128) * D := by rw [Nat.mul_comm D 128, ← Nat.mul_assoc, Nat.mul_comm (n / 128) 128]
  rw [h1, h2, Nat.add_mul]
  omega
theorem numF_venc {gr : Nat} (hgr : gr < 18446744073709551616) : ∀ (n i acc : Nat) (rest : List Int), acc + n * 2 ^ (7 * i) ≤ gr → i ≤ 9 → (0 < i → 0 < n) → numF gr i acc (venc n ++ rest) = (acc + n * 2 ^ (7 * i), i + (venc n).length, 0) := by
  intro n
  induction n using Nat.strongRecOn with
  | _ n ih =>
  intro i acc rest h hi h0
  have hD0 : 0 < (2 ^ (7 * i) : Nat) := Nat.pow_pos (by decide)
  by_cases hn : n < 128
  · rw [venc_lt n hn]
    simp only [List.cons_append, List.nil_append, numF, List.length_singleton]
    have hp : ((n : Int) % 128).toNat = n := by omega
    rw [hp, if_neg, if_neg (by omega), if_pos (by omega)]
    have : n ≤ 18446744073709551615 / 2 ^ (7 * i) := (Nat.le_div_iff_mul_le hD0).2 (by generalize 2 ^ (7 * i) = D at *; omega)
    omega
  · have hnD : n ≤ n * 2 ^ (7 * i) := Nat.le_mul_of_pos_right _ hD0
    have hlt : n < 18446744073709551616 := by omega
    rw [venc_ge n (by omega) hlt]
    simp only [List.cons_append, numF, List.length_cons]
    have hp : (((n % 128 + 128 : Nat) : Int) % 128).toNat = n % 128 := by omega
    have hs := split128 acc n (2 ^ (7 * i))
    have hs2 := split128 0 n (2 ^ (7 * i))
    have hle : n % 128 * 2 ^ (7 * i) ≤ gr := by omega
    have hle2 : n / 128 * 2 ^ (7 * (i + 1)) < 18446744073709551616 := by rw [pow7]; omega
    rw [hp, if_neg, if_neg (by omega), if_neg (by omega)]
    · rw [ih (n / 128) (by omega) (i + 1) _ rest (by rw [pow7]; omega) (pow7_big hle2 (by omega)) (by omega), pow7, hs]
      simp only [Prod.mk.injEq, true_and, and_true]
      omega
    · have : n % 128 ≤ 18446744073709551615 / 2 ^ (7 * i) := (Nat.le_div_iff_mul_le hD0).2 (by omega)
      omega
theorem getN_venc {n : Nat} {rest : List Int} (h : n < 9223372036854775808) : getN (venc n ++ rest) = (n, (venc n).length, 0) := by
  unfold getN
  rw [numF_venc (by omega) n 0 0 rest (by omega) (by omega) (by omega)]
  simp
theorem numF_app {gr : Nat} {x : List Int} : ∀ (l : List Int) (i n : Nat), (numF gr i n l).2.2 = 0 → numF gr i n (l ++ x) = numF gr i n l
  | [], i, n, h => by simp [numF] at h
  | c :: cs, i, n, h => by
    rw [List.cons_append]
    unfold numF at h ⊢
    split
    · rfl
    · rename_i h1
      rw [if_neg h1] at h
      split
      · rfl
      · rename_i h2
        rw [if_neg h2] at h
        split
        · rfl
        · rename_i h3
          rw [if_neg h3] at h
          exact numF_app cs _ _ h
theorem getN_app {l x : List Int} (h : (getN l).2.2 = 0) : getN (l ++ x) = getN l := numF_app l 0 0 h
theorem getN_le (l : List Int) : (getN l).2.1 ≤ l.length := by have := (numF_le (gr := 9223372036854775807) l 0 0).2; unfold getN; omega
/-- What GetText answers. -/
def getT (l : List Int) : List Int × List Int × Int :=
  if (getN l).2.2 ≠ 0 then ([], [], (getN l).2.2) else if (l.drop (getN l).2.1).length < (getN l).1 then ([], [], 4) else ((l.drop (getN l).2.1).take (getN l).1, (l.drop (getN l).2.1).drop (getN l).1, 0)
theorem getT_app {l x : List Int} (h : (getT l).2.2 = 0) : getT (l ++ x) = ((getT l).1, (getT l).2.1 ++ x, 0) := by
  unfold getT at h ⊢
  by_cases h1 : (getN l).2.2 ≠ 0
  · rw [if_pos h1] at h; exact absurd h h1
  rw [if_neg h1] at h
  by_cases h2 : (l.drop (getN l).2.1).length < (getN l).1
  · rw [if_pos h2] at h; cases h
  have hle := getN_le l
  have e1 : (l ++ x).drop (getN l).2.1 = l.drop (getN l).2.1 ++ x := by rw [List.drop_append_of_le_length hle]
  rw [getN_app (by simpa using h1), if_neg h1, e1, if_neg (by rw [List.length_append]; omega), if_neg h1, if_neg h2]
  rw [List.take_append_of_le_length (by omega), List.drop_append_of_le_length (by omega)]
theorem getT_text {b rest : List Int} (h : b.length < 9223372036854775808) : getT (venc b.length ++ (b ++ rest)) = (b, rest, 0) := by
  have h1 := getN_venc (rest := b ++ rest) h
  unfold getT
  rw [h1]
  simp
theorem v_GetText {kk : Bool} {l : List Int} (hl : l.length ≤ 100000) (hb : ∀ x ∈ l, 0 ≤ x ∧ x ≤ 255) : A 62 [BS kk l] (.tup [BS true (getT l).1, BS true (getT l).2.1, i6 (getT l).2.2]) := by
  intro H
  refine v_enter hC [] (fun _ _ => kn_none rfl) Tryd.func62 rfl ok62 (Nat.le_of_ble_eq_true rfl) fun hcl hbl => ?_
  simp
  refine CALLv.at (v_number (kk := kk) (l := l) (gr := 9223372036854775807) (List.getElem?_concat_length ..) hl hb (by omega)) fun u T' hu => ?_
  obtain ⟨e1, k', e2⟩ := hu
  subst e1; subst e2
  have hgl := numF_le (gr := 9223372036854775807) l 0 0
  rw [show numF 9223372036854775807 0 0 l = getN l from rfl] at hgl ⊢
  have hT : getT l = if (getN l).2.2 ≠ 0 then ([], [], (getN l).2.2) else if (l.drop (getN l).2.1).length < (getN l).1 then ([], [], 4) else ((l.drop (getN l).2.1).take (getN l).1, (l.drop (getN l).2.1).drop (getN l).1, 0) := rfl
  generalize getN l = G at hgl hT ⊢
  obtain ⟨n, j, er⟩ := G
  simp only at hgl hT ⊢
  obtain ⟨q, hq⟩ : ∃ q, l.drop j = q := ⟨_, rfl⟩
  have hql : q.length ≤ 100000 := by rw [← hq, List.length_drop]; omega
  simp only [hq] at hT ⊢
  by_cases he : er = 0
  · subst he
    have hw : IntKind.u64.wrap (q.length : Int) = (q.length : Int) := by simp [IntKind.wrap, IntKind.bits, IntKind.signed]; omega
    by_cases hlt : q.length < n
    · have e : getT l = ([], [], 4) := by rw [hT]; simp [hlt]
      rw [e]
      simp [hw, hlt]
      refine v_draw (ord := [0, 1, 2, 3, 4, 5, 6]) (m := 0) (by decide +kernel) (by decide +kernel) ?_
      simp [Tryd.results62]
      first | (refine GV.ans hcl ?_; simp []; done) | (refine GV.ans0 ?_; simp []; done)
    · have hw2 : IntKind.i64.wrap (n : Int) = (n : Int) := w64 (by omega)
      have e : getT l = (q.take n, q.drop n, 0) := by rw [hT]; simp [hlt]
      rw [e]
      simp [hw, hw2, hlt]
      refine CALLv.at (v_take (kk := k') (l := q) (n := n) (List.getElem?_concat_length ..) hql (by omega)) fun u T' hu => ?_
      obtain ⟨e1, e2⟩ := hu
      subst e1; subst e2
      simp
      rw [← List.map_drop]
      refine CALLv.at (v_left (kk := false) (l := q.drop n) (List.getElem?_concat_length ..) (by rw [List.length_drop]; omega)) fun u T' hu => ?_
      obtain ⟨e1, e2⟩ := hu
      subst e1; subst e2
      simp [Tryd.results62]
      first | (refine GV.ans hcl ?_; simp []; done) | (refine GV.ans0 ?_; simp []; done)
  · have e : getT l = ([], [], er) := by rw [hT]; simp [he]
    rw [e]
    simp [he]
    refine v_draw (ord := [0, 1, 2, 3, 4, 5, 6]) (m := 0) (by decide +kernel) (by decide +kernel) ?_
    simp [Tryd.results62]
    first | (refine GV.ans hcl ?_; simp [he]; done) | (refine GV.ans0 ?_; simp [he]; done)
end Go.Proofs.YtenbclcfhjdcaaaDoor.VM
end
section
set_option maxHeartbeats 8000000
set_option linter.unusedVariables false
set_option linter.unusedSimpArgs false

/- command: Word, plain, Same, Check. -/
namespace Go.Proofs.YtenbclcfhjdcaaaDoor.VM
open Go Go.Proofs AM B
set_option maxRecDepth 100000
set_option maxHeartbeats 4000000
theorem v_Word {k : Int} (hk : -9223372036854775808 ≤ k ∧ k ≤ 9223372036854775807) : A 39 [i6 k] (.lit (.string (TW.wordOf k))) := by
  intro H K φ σ us hR ha
  obtain ⟨a, us', e, hv, e2⟩ := ha
  subst e2
  obtain ⟨hv1, _⟩ := hv
  subst hv1
  have hK := hR.gk (1, tab256) (by rw [gcells_tab]; exact List.mem_singleton.2 rfl)
  obtain ⟨p, hp1, hp2⟩ := hR.kn 1 tab256 hK
  have hr : readN σ ⟨1, 0, none⟩ 256 = some tab256 := by
    unfold readN
    simp only [hp1]
    rw [if_pos ⟨hp2, by rw [tab256_length]; omega⟩, List.drop_zero, List.take_of_length_le (by rw [tab256_length]; omega)]
  refine ac_prim (v := .string (TW.wordOf k)) (σ' := σ) ?_ ⟨K, φ, .lit (.string (TW.wordOf k)), H, .refl _ _ _, hR, ⟨rfl, rfl⟩, rfl, rfl⟩
  rw [prims_word]
  unfold wordA
  rw [if_pos rfl, e]
  simp only []
  rw [if_pos ⟨hasTab_eq.2 hr, hk⟩]
/-- A command. -/
def Cv (k a b c : Int) (B : V) : V := .agg [i6 k, i6 a, i6 b, i6 c, B]
theorem v_plain0 {k a b c : Int} {kk : Bool} {l : List Int} (hk : ¬ (1 ≤ k ∧ k ≤ 3 ∨ k = 9)) : A 57 [Cv k a b c (BS kk l)] (Cv k 0 0 0 (if hasB k then BS kk l else .lit (.slice none 0 0))) := by
  intro H
  unfold Cv
  refine v_enter hC [] (fun _ _ => kn_none rfl) Tryd.func57 rfl ok57 (Nat.le_of_ble_eq_true rfl) fun hcl hbl => ?_
  simp
  refine CALLv.at (v_num0 hk (g := H.length + 2) (a := 0) (b := 0) (c := 0) (B := .lit (.slice none 0 0)) (by simp [CmO])) fun u T hu => ?_
  obtain ⟨rfl, rfl⟩ := hu
  simp
  refine CALLv.at (v_num0 hk (g := H.length) (a := a) (b := b) (c := c) (B := BS kk l) (by simp [CmO])) fun u T hu => ?_
  obtain ⟨rfl, rfl⟩ := hu
  simp
  refine v_once hC ?_
  simp
  refine CondV.on (fun hb => ?_) (fun hb => ?_)
  · rw [hb]
    simp [Tryd.results57]
    first | (refine GV.ans hcl ?_; simp []; done) | (refine GV.ans0 ?_; simp []; done)
  · rw [hb]
    simp [Tryd.results57]
    first | (refine GV.ans hcl ?_; simp []; done) | (refine GV.ans0 ?_; simp []; done)
theorem v_plain1 {k a b c : Int} {kk : Bool} {l : List Int} (hk : 1 ≤ k ∧ k ≤ 3) : A 57 [Cv k a b c (BS kk l)] (Cv k a 0 0 (if hasB k then BS kk l else .lit (.slice none 0 0))) := by
  intro H
  unfold Cv
  refine v_enter hC [] (fun _ _ => kn_none rfl) Tryd.func57 rfl ok57 (Nat.le_of_ble_eq_true rfl) fun hcl hbl => ?_
  simp
  refine CALLv.at (v_num1 (n := H.length + 4) (by simp) hk (g := H.length + 2) (a := 0) (b := 0) (c := 0) (B := .lit (.slice none 0 0)) (by simp [CmO])) fun u T hu => ?_
  obtain ⟨rfl, rfl⟩ := hu
  simp
  refine CALLv.at (v_num1 (n := H.length + 6) (by simp) hk (g := H.length) (a := a) (b := b) (c := c) (B := BS kk l) (by simp [CmO])) fun u T hu => ?_
  obtain ⟨rfl, rfl⟩ := hu
  simp
  refine v_once hC ?_
  simp
  refine v_draw (ord := [0, 1, 2, 3, 4, 5, 6, 7, 8, 9, 10, 11]) (m := 10) (by decide +kernel) (by decide +kernel) ?_
  simp
  refine v_once hC ?_
  simp
  refine CondV.on (fun hb => ?_) (fun hb => ?_)
  · rw [hb]
    simp [Tryd.results57]
    first | (refine GV.ans hcl ?_; simp []; done) | (refine GV.ans0 ?_; simp []; done)
  · rw [hb]
    simp [Tryd.results57]
    first | (refine GV.ans hcl ?_; simp []; done) | (refine GV.ans0 ?_; simp []; done)
theorem v_plain9 {a b c : Int} {kk : Bool} {l : List Int} : A 57 [Cv 9 a b c (BS kk l)] (Cv 9 a b c (.lit (.slice none 0 0))) := by
  intro H
  unfold Cv
  refine v_enter hC [] (fun _ _ => kn_none rfl) Tryd.func57 rfl ok57 (Nat.le_of_ble_eq_true rfl) fun hcl hbl => ?_
  simp
  refine CALLv.at (v_num9 (n := H.length + 4) (by simp) (g := H.length + 2) (a := 0) (b := 0) (c := 0) (B := .lit (.slice none 0 0)) (by simp [CmO])) fun u T hu => ?_
  obtain ⟨rfl, rfl⟩ := hu
  simp
  refine CALLv.at (v_num9 (n := H.length + 7) (by simp) (g := H.length) (a := a) (b := b) (c := c) (B := BS kk l) (by simp [CmO])) fun u T hu => ?_
  obtain ⟨rfl, rfl⟩ := hu
  simp
  refine v_once hC ?_
  simp
  refine v_draw (ord := [0, 1, 2, 3, 4, 5, 6, 7, 8, 9, 10, 11]) (m := 10) (by decide +kernel) (by decide +kernel) ?_
  simp
  refine v_once hC ?_
  simp
  refine v_draw (ord := [0, 1, 2, 3, 4, 5, 6, 7, 8, 9, 10, 11]) (m := 10) (by decide +kernel) (by decide +kernel) ?_
  simp
  refine v_once hC ?_
  simp
  refine v_draw (ord := [0, 1, 2, 3, 4, 5, 6, 7, 8, 9, 10, 11]) (m := 10) (by decide +kernel) (by decide +kernel) ?_
  simp
  refine v_once hC ?_
  simp [Tryd.results57]
  first | (refine GV.ans hcl ?_; simp []; done) | (refine GV.ans0 ?_; simp []; done)
/-- Bytes of a command, or none. -/
theorem v_cSame {k a b c k' a' b' c' : Int} {kk kl : Bool} {l m : List Int} (bl : ∀ x ∈ l, 0 ≤ x ∧ x ≤ 255) (bm : ∀ x ∈ m, 0 ≤ x ∧ x ≤ 255) : A 38 [Cv k a b c (BS kk l), Cv k' a' b' c' (BS kl m)] (bo (decide (k = k') && decide (a = a') && decide (b = b') && decide (c = c') && decide (l = m))) := by
  intro H
  unfold Cv
  refine v_enter hC [] (fun _ _ => kn_none rfl) Tryd.func38 rfl ok38 (Nat.le_of_ble_eq_true rfl) fun hcl hbl => ?_
  by_cases h1 : k = k'
  · subst h1
    by_cases h2 : a = a'
    · subst h2
      by_cases h3 : b = b'
      · subst h3
        by_cases h4 : c = c'
        · subst h4
          simp
          refine (v_bEq bl bm).call ?_
          simp [Tryd.results38]
          first | (refine GV.ans hcl ?_; simp []; done) | (refine GV.ans0 ?_; simp []; done)
        · simp [h4, Tryd.results38]
          first | (refine GV.ans hcl ?_; simp [h4]; done) | (refine GV.ans0 ?_; simp [h4]; done)
      · simp [h3, Tryd.results38]
        first | (refine GV.ans hcl ?_; simp [h3]; done) | (refine GV.ans0 ?_; simp [h3]; done)
    · simp [h2, Tryd.results38]
      first | (refine GV.ans hcl ?_; simp [h2]; done) | (refine GV.ans0 ?_; simp [h2]; done)
  · simp [h1, Tryd.results38]
    first | (refine GV.ans hcl ?_; simp [h1]; done) | (refine GV.ans0 ?_; simp [h1]; done)
theorem wordOf_none {k : Int} (h : ¬ (1 ≤ k ∧ k ≤ 11)) : (TW.wordOf k).data.isEmpty = true := by unfold TW.wordOf; rw [if_neg h]; rfl
theorem wordOf_some {k : Int} (h : 1 ≤ k ∧ k ≤ 11) : (TW.wordOf k).data.isEmpty = false := by
  obtain rfl | rfl | rfl | rfl | rfl | rfl | rfl | rfl | rfl | rfl | rfl : k = 1 ∨ k = 2 ∨ k = 3 ∨ k = 4 ∨ k = 5 ∨ k = 6 ∨ k = 7 ∨ k = 8 ∨ k = 9 ∨ k = 10 ∨ k = 11 := by omega
  all_goals decide +kernel
/-- What is wrong with a command. -/
def chkC (k a b c : Int) (l : List Int) : Int :=
  if ¬ (1 ≤ k ∧ k ≤ 11) then 13
  else if k = 9 then (if a < 0 ∨ b < 0 ∨ c < 0 then 10 else if l ≠ [] then 3 else 0)
  else if k ≤ 3 then (if a < 0 then 10 else if ¬ (b = 0 ∧ c = 0 ∧ (hasB k = true ∨ l = [])) then 3 else 0)
  else if ¬ (a = 0 ∧ b = 0 ∧ c = 0 ∧ (hasB k = true ∨ l = [])) then 3 else 0
theorem chk1 {k a b c : Int} {l : List Int} (h : 1 ≤ k ∧ k ≤ 3) : chkC k a b c l = if a < 0 then 10 else if ¬ (b = 0 ∧ c = 0 ∧ (hasB k = true ∨ l = [])) then 3 else 0 := by
  unfold chkC; rw [if_neg (by omega), if_neg (by omega), if_pos (by omega)]
theorem chk0 {k a b c : Int} {l : List Int} (h11 : 1 ≤ k ∧ k ≤ 11) (h : ¬ (1 ≤ k ∧ k ≤ 3 ∨ k = 9)) : chkC k a b c l = if ¬ (a = 0 ∧ b = 0 ∧ c = 0 ∧ (hasB k = true ∨ l = [])) then 3 else 0 := by
  unfold chkC; rw [if_neg (by omega), if_neg (by omega), if_neg (by omega)]
theorem chk13 {k a b c : Int} {l : List Int} (h : ¬ (1 ≤ k ∧ k ≤ 11)) : chkC k a b c l = 13 := by unfold chkC; rw [if_pos h]
theorem v_cCheck {k a b c : Int} {kk : Bool} {l : List Int} (hk : -9223372036854775808 ≤ k ∧ k ≤ 9223372036854775807) (bl : ∀ x ∈ l, 0 ≤ x ∧ x ≤ 255) : A 37 [Cv k a b c (BS kk l)] (i6 (chkC k a b c l)) := by
  intro H
  unfold Cv
  refine v_enter hC [] (fun _ _ => kn_none rfl) Tryd.func37 rfl ok37 (Nat.le_of_ble_eq_true rfl) fun hcl hbl => ?_
  simp
  refine (v_Word hk).call ?_
  simp
  by_cases h11 : 1 ≤ k ∧ k ≤ 11
  · have hw := wordOf_some h11
    simp [hw]
    by_cases h9 : k = 9
    · subst h9
      refine CALLv.at (v_num9 (n := H.length + 2) (by simp) (g := H.length) (a := a) (b := b) (c := c) (B := BS kk l) (by simp [CmO])) fun u T hu => ?_
      obtain ⟨rfl, rfl⟩ := hu
      simp
      refine v_once hC ?_
      simp
      refine CondV.dec (fun ha => ?_) (fun ha => ?_)
      · simp [Tryd.results37]
        first | (refine GV.ans hcl ?_; simp [chkC, ha]; done) | (refine GV.ans0 ?_; simp [chkC, ha]; done)
      · simp
        refine v_once hC ?_
        simp
        refine CondV.dec (fun hb => ?_) (fun hb => ?_)
        · simp [Tryd.results37]
          first | (refine GV.ans hcl ?_; simp [chkC, hb]; done) | (refine GV.ans0 ?_; simp [chkC, hb]; done)
        · simp
          refine v_once hC ?_
          simp
          refine CondV.dec (fun hc => ?_) (fun hc => ?_)
          · simp [Tryd.results37]
            first | (refine GV.ans hcl ?_; simp [chkC, hc]; done) | (refine GV.ans0 ?_; simp [chkC, hc]; done)
          · simp
            refine v_once hC ?_
            simp
            refine v_draw (ord := [0, 1, 2, 3, 4]) (m := 3) (by decide +kernel) (by decide +kernel) ?_
            simp
            refine (v_plain9 (a := a) (b := b) (c := c) (kk := kk) (l := l)).call ?_
            simp
            refine (v_cSame (k := 9) (a := a) (b := b) (c := c) (k' := 9) (a' := a) (b' := b) (c' := c) (kk := kk) (kl := true) (m := []) bl (by simp)).callU [Cv 9 a b c (BS kk l), Cv 9 a b c (BS true [])] (by simp [Cv]) ?_
            simp
            by_cases hl : l = []
            · simp [hl, Tryd.results37]
              first | (refine GV.ans hcl ?_; simp [chkC, ha, hb, hc, hl]; done) | (refine GV.ans0 ?_; simp [chkC, ha, hb, hc, hl]; done)
            · simp [hl, Tryd.results37]
              first | (refine GV.ans hcl ?_; simp [chkC, ha, hb, hc, hl]; done) | (refine GV.ans0 ?_; simp [chkC, ha, hb, hc, hl]; done)
    · by_cases h3 : k ≤ 3
      · have h13 : 1 ≤ k ∧ k ≤ 3 := ⟨h11.1, h3⟩
        refine CALLv.at (v_num1 (n := H.length + 2) (by simp) h13 (g := H.length) (a := a) (b := b) (c := c) (B := BS kk l) (by simp [CmO])) fun u T hu => ?_
        obtain ⟨rfl, rfl⟩ := hu
        simp
        refine v_once hC ?_
        simp
        refine CondV.dec (fun ha => ?_) (fun ha => ?_)
        · simp [Tryd.results37]
          first | (refine GV.ans hcl ?_; simp [chk1 h13, ha]; done) | (refine GV.ans0 ?_; simp [chk1 h13, ha]; done)
        · simp
          refine v_once hC ?_
          simp
          refine v_draw (ord := [0, 1, 2, 3, 4]) (m := 3) (by decide +kernel) (by decide +kernel) ?_
          simp
          refine (v_plain1 (a := a) (b := b) (c := c) (kk := kk) (l := l) h13).call ?_
          cases hh : hasB k
          · simp
            refine (v_cSame (k := k) (a := a) (b := b) (c := c) (k' := k) (a' := a) (b' := 0) (c' := 0) (kk := kk) (kl := true) (m := []) bl (by simp)).callU [Cv k a b c (BS kk l), Cv k a 0 0 (BS true [])] (by simp [Cv]) ?_
            simp
            refine CondV.on (fun h => ?_) (fun h => ?_)
            · have e : chkC k a b c l = 3 := by
                rw [chk1 h13, hh]
                by_cases b0 : b = 0 <;> by_cases c0 : c = 0 <;> by_cases l0 : l = [] <;> simp [h9, ha, b0, c0, l0] at h ⊢
              simp [Tryd.results37]
              first | (refine GV.ans hcl ?_; simp [e]; done) | (refine GV.ans0 ?_; simp [e]; done)
            · have e : chkC k a b c l = 0 := by
                rw [chk1 h13, hh]
                by_cases b0 : b = 0 <;> by_cases c0 : c = 0 <;> by_cases l0 : l = [] <;> simp [h9, ha, b0, c0, l0] at h ⊢
              simp [Tryd.results37]
              first | (refine GV.ans hcl ?_; simp [e]; done) | (refine GV.ans0 ?_; simp [e]; done)
          · simp
            refine (v_cSame (k := k) (a := a) (b := b) (c := c) (k' := k) (a' := a) (b' := 0) (c' := 0) (kk := kk) (kl := kk) (m := l) bl bl).callU [Cv k a b c (BS kk l), Cv k a 0 0 (BS kk l)] (by simp [Cv]) ?_
            simp
            refine CondV.on (fun h => ?_) (fun h => ?_)
            · have e : chkC k a b c l = 3 := by
                rw [chk1 h13, hh]
                by_cases b0 : b = 0 <;> by_cases c0 : c = 0 <;> simp [h9, ha, b0, c0] at h ⊢
              simp [Tryd.results37]
              first | (refine GV.ans hcl ?_; simp [e]; done) | (refine GV.ans0 ?_; simp [e]; done)
            · have e : chkC k a b c l = 0 := by
                rw [chk1 h13, hh]
                by_cases b0 : b = 0 <;> by_cases c0 : c = 0 <;> simp [h9, ha, b0, c0] at h ⊢
              simp [Tryd.results37]
              first | (refine GV.ans hcl ?_; simp [e]; done) | (refine GV.ans0 ?_; simp [e]; done)
      · have h13 : ¬ (1 ≤ k ∧ k ≤ 3 ∨ k = 9) := by omega
        refine CALLv.at (v_num0 h13 (g := H.length) (a := a) (b := b) (c := c) (B := BS kk l) (by simp [CmO])) fun u T hu => ?_
        obtain ⟨rfl, rfl⟩ := hu
        simp
        refine v_once hC ?_
        simp
        refine v_draw (ord := [0, 1, 2, 3, 4]) (m := 3) (by decide +kernel) (by decide +kernel) ?_
        simp
        refine (v_plain0 (a := a) (b := b) (c := c) (kk := kk) (l := l) h13).call ?_
        cases hh : hasB k
        · simp
          refine (v_cSame (k := k) (a := a) (b := b) (c := c) (k' := k) (a' := 0) (b' := 0) (c' := 0) (kk := kk) (kl := true) (m := []) bl (by simp)).callU [Cv k a b c (BS kk l), Cv k 0 0 0 (BS true [])] (by simp [Cv]) ?_
          simp
          refine CondV.on (fun h => ?_) (fun h => ?_)
          · have e : chkC k a b c l = 3 := by
              rw [chk0 h11 h13, hh]
              by_cases a0 : a = 0 <;> by_cases b0 : b = 0 <;> by_cases c0 : c = 0 <;> by_cases l0 : l = [] <;> simp [h9, a0, b0, c0, l0] at h ⊢
            simp [Tryd.results37]
            first | (refine GV.ans hcl ?_; simp [e]; done) | (refine GV.ans0 ?_; simp [e]; done)
          · have e : chkC k a b c l = 0 := by
              rw [chk0 h11 h13, hh]
              by_cases a0 : a = 0 <;> by_cases b0 : b = 0 <;> by_cases c0 : c = 0 <;> by_cases l0 : l = [] <;> simp [h9, a0, b0, c0, l0] at h ⊢
            simp [Tryd.results37]
            first | (refine GV.ans hcl ?_; simp [e]; done) | (refine GV.ans0 ?_; simp [e]; done)
        · simp
          refine (v_cSame (k := k) (a := a) (b := b) (c := c) (k' := k) (a' := 0) (b' := 0) (c' := 0) (kk := kk) (kl := kk) (m := l) bl bl).callU [Cv k a b c (BS kk l), Cv k 0 0 0 (BS kk l)] (by simp [Cv]) ?_
          simp
          refine CondV.on (fun h => ?_) (fun h => ?_)
          · have e : chkC k a b c l = 3 := by
              rw [chk0 h11 h13, hh]
              by_cases a0 : a = 0 <;> by_cases b0 : b = 0 <;> by_cases c0 : c = 0 <;> simp [h9, a0, b0, c0] at h ⊢
            simp [Tryd.results37]
            first | (refine GV.ans hcl ?_; simp [e]; done) | (refine GV.ans0 ?_; simp [e]; done)
          · have e : chkC k a b c l = 0 := by
              rw [chk0 h11 h13, hh]
              by_cases a0 : a = 0 <;> by_cases b0 : b = 0 <;> by_cases c0 : c = 0 <;> simp [h9, a0, b0, c0] at h ⊢
            simp [Tryd.results37]
            first | (refine GV.ans hcl ?_; simp [e]; done) | (refine GV.ans0 ?_; simp [e]; done)
  · have hw := wordOf_none h11
    simp [hw, Tryd.results37]
    first | (refine GV.ans hcl ?_; simp [chk13 h11]; done) | (refine GV.ans0 ?_; simp [chk13 h11]; done)
end Go.Proofs.YtenbclcfhjdcaaaDoor.VM
end
section
set_option maxHeartbeats 8000000
set_option linter.unusedVariables false
set_option linter.unusedSimpArgs false

/- corpus: bytes, the same, Drop. -/
namespace Go.Proofs.YtenbclcfhjdcaaaDoor.VM
open Go Go.Proofs AM B
set_option maxRecDepth 100000
theorem v_PutO {kk : Bool} {l : List Int} (hl : l.length ≤ 10000) (hr : ∀ n ∈ l, n < 9223372036854775808) (hnn0 : ∀ n ∈ l, 0 ≤ n) : AO 54 [IS kk l] 1 ((vencs l).map bc) := by
  intro H
  refine v_enter hC [] (fun _ _ => kn_none rfl) Tryd.func54 rfl ok54 (Nat.le_of_ble_eq_true rfl) fun hcl hbl => ?_
  simp
  have get : ∀ {k : Nat} (h : k < l.length), l[k]? = some l[k] := fun h => List.getElem?_eq_getElem h
  refine v_loopX hC (fun (k : Nat) e T => ∃ w t, T = H ++ [.vec w ((vencs (l.take k)).map bc) 1 true t] ∧ e 3 = .own H.length w ∧ e 6 = IS kk l ∧ e 7 = i6 l.length ∧ e 8 = i6 k ∧ k ≤ l.length ∧ ∀ n ∈ l.take k, 0 ≤ n) (fun k => l.length - k) 0 ?_ ?_
  · refine G.nilT0 (s := 1) 3 hcl (Nat.le_refl _) (by omega) (by simp) ?_
    exact ⟨0, true, by simp [vencs], by simp, by simp, by simp, by simp, by simp, by simp⟩
  · rintro k e T ⟨w, t, rfl, h3, h6, h7, h8, hk, hpos⟩
    simp [h3, h6, h7, h8]
    refine CondV.dec (fun hlt => ?_) (fun hge => ?_)
    · simp [h3, h6, h7, h8, get hlt]
      have hrk := hr l[k] (List.getElem_mem hlt)
      refine CondV.dec (fun hneg => ?_) (fun hnn => ?_)
      · have := hnn0 l[k] (List.getElem_mem hlt); omega
      · obtain ⟨n, hln⟩ : ∃ n : Nat, l[k] = n := ⟨l[k].toNat, by omega⟩
        have hw : IntKind.u64.wrap l[k] = (n : Int) := by simp [IntKind.wrap, IntKind.bits, IntKind.signed]; omega
        have hlen : (vencs (l.take k)).length ≤ 100000 := by
          have := vencs_length (l.take k)
          rw [List.length_take] at this
          omega
        simp [h3, hw]
        refine CALLv.at (v_put (n := n) (rows := (vencs (l.take k)).map bc) (List.getElem?_concat_length ..) (by simp) (by simp; omega) (by omega)) fun u T' hu => ?_
        obtain ⟨w2, e1, e2⟩ := hu
        subst e1; subst e2
        simp [h3, h6, h7, h8, w64 (n := (k : Int) + 1) (by omega)]
        refine GH.refl ⟨k + 1, ⟨w2, t, ?_, ?_, ?_, ?_, ?_, hlt, ?_⟩, by omega⟩ <;> (try simp [h6, h7])
        · rw [List.take_succ_eq_append_getElem hlt, vencs_append]
          simp [vencs, hln]
        · rw [List.take_succ_eq_append_getElem hlt]
          intro n hn
          rcases List.mem_append.1 hn with hn | hn
          · exact hpos n hn
          · simp at hn; subst hn; omega
    · have ht : l.take k = l := List.take_of_length_le (by omega)
      rw [ht]
      simp [h3, Tryd.results54]
      exact GV.own hcl (List.getElem?_concat_length ..) (Nat.le_refl _) (fun r hr => by obtain ⟨x, _, rfl⟩ := List.mem_map.1 hr; exact ⟨rfl, rfl⟩) (PureR_map.2 (by simp)) ⟨_, _, rfl, rfl⟩
/-- A list's bytes. -/
def listB (ids : List Int) : List Int := venc ids.length ++ vencs ids
/-- Texts' bytes. -/
def textB (ls : List (List Int)) : List Int := ls.flatMap fun b => venc b.length ++ b
theorem textB_take (ls : List (List Int)) (k : Nat) (h : k < ls.length) : textB (ls.take (k + 1)) = textB (ls.take k) ++ (venc ls[k].length ++ ls[k]) := by
  unfold textB
  rw [List.take_succ_eq_append_getElem h, List.flatMap_append]; simp
theorem textB_len {ls : List (List Int)} {M : Nat} (h : ∀ b ∈ ls, b.length ≤ M) : (textB ls).length ≤ (M + 10) * ls.length := by
  induction ls with
  | nil => simp [textB]
  | cons a ls ih =>
    have h1 := h a (by simp)
    have h2 := ih fun b hb => h b (by simp [hb])
    have h3 := venc_length a.length
    unfold textB at h2 ⊢
    rw [List.flatMap_cons, List.length_append, List.length_append, List.length_cons, Nat.mul_add]
    omega
theorem v_Text {kk : Bool} {ls : List (List Int)} (hl : ls.length ≤ 100) (hb : ∀ b ∈ ls, b.length ≤ 2000) : A 55 [.fsl kk 1 (ls.map fun b => [BS true b])] (BS true (textB ls)) := by
  intro H
  refine v_enter hC [] (fun _ _ => kn_none rfl) Tryd.func55 rfl ok55 (Nat.le_of_ble_eq_true rfl) fun hcl hbl => ?_
  simp
  have get : ∀ {k : Nat} (h : k < ls.length), ls[k]? = some ls[k] := fun h => List.getElem?_eq_getElem h
  refine v_loopX hC (fun (k : Nat) e T => ∃ w t, T = H ++ [.vec w ((textB (ls.take k)).map bc) 1 true t] ∧ e 3 = .own H.length w ∧ e 6 = .fsl kk 1 (ls.map fun b => [BS true b]) ∧ e 7 = i6 ls.length ∧ e 8 = i6 k ∧ k ≤ ls.length) (fun k => ls.length - k) 0 ?_ ?_
  · refine G.nilT0 (s := 1) 3 hcl (Nat.le_refl _) (by omega) (by simp) ?_
    exact ⟨0, true, by simp [textB], by simp, by simp, by simp, by simp, by simp⟩
  · rintro k e T ⟨w, t, rfl, h3, h6, h7, h8, hk⟩
    simp [h3, h6, h7, h8]
    have hlen := textB_len (ls := ls.take k) (M := 2000) fun b hb' => hb b (List.mem_of_mem_take hb')
    rw [List.length_take] at hlen
    have hlen : (textB (ls.take k)).length ≤ 201000 := by
      have : min k ls.length ≤ 100 := by omega
      calc _ ≤ (2000 + 10) * min k ls.length := hlen
        _ ≤ (2000 + 10) * 100 := Nat.mul_le_mul_left _ this
        _ ≤ _ := by omega
    refine CondV.dec (fun hlt => ?_) (fun hge => ?_)
    · have hlt : k < ls.length := by omega
      have hbk := hb ls[k] (List.getElem_mem hlt)
      have hw : IntKind.u64.wrap (ls[k].length : Int) = (ls[k].length : Int) := by simp [IntKind.wrap, IntKind.bits, IntKind.signed]; omega
      simp [h3, h6, h7, h8, get hlt, hw]
      refine CALLv.at (v_put (n := ls[k].length) (rows := (textB (ls.take k)).map bc) (List.getElem?_concat_length ..) (PureR_map.2 (by simp)) (by simp; omega) (by omega)) fun u T' hu => ?_
      obtain ⟨w2, e1, e2⟩ := hu
      subst e1; subst e2
      have hv := venc_length ls[k].length
      simp [h6, h7, h8, w64 (n := (k : Int) + 1) (by omega)]
      refine ⟨by omega, GH.refl ⟨k + 1, ⟨w2 + 1, t, ?_, ?_, ?_, ?_, ?_, hlt⟩, by omega⟩⟩
      · rw [textB_take ls k hlt]; simp
      · simp
      · simp [h6]
      · simp [h7]
      · simp
    · have ht : ls.take k = ls := List.take_of_length_le (by omega)
      rw [ht]
      simp [h3, Tryd.results55]
      first | (refine GV.ans hcl ?_; simp []; done) | (refine GV.ans0 ?_; simp []; done)
end Go.Proofs.YtenbclcfhjdcaaaDoor.VM
end
section
set_option maxHeartbeats 8000000
set_option linter.unusedVariables false
set_option linter.unusedSimpArgs false

/- command: Encode; the document's Parts, Check, Encode. -/
namespace Go.Proofs.YtenbclcfhjdcaaaDoor.VM
open Go Go.Proofs AM B
set_option maxRecDepth 100000
set_option maxHeartbeats 4000000
theorem putB1 {n : Int} (h : 0 ≤ n) : putB [n] = venc n.toNat := by simp [putB, vencs, h]
theorem textB1 (l : List Int) : textB [l] = venc l.length ++ l := by simp [textB]
/-- A right command's bytes. -/
def encC (k a b c : Int) (l : List Int) : List Int := k :: ((if k = 9 then venc a.toNat ++ (venc b.toNat ++ venc c.toNat) else if k ≤ 3 then venc a.toNat else []) ++ (if hasB k = true then venc l.length ++ l else []))
def encE' (k a b c : Int) (l : List Int) : List Int := if chkC k a b c l = 0 then encC k a b c l else []
theorem chk_nine {a b c : Int} {l : List Int} (h : chkC 9 a b c l = 0) : 0 ≤ a ∧ 0 ≤ b ∧ 0 ≤ c ∧ l = [] := by
  unfold chkC at h
  rw [if_neg (by omega), if_pos rfl] at h
  by_cases h1 : a < 0 ∨ b < 0 ∨ c < 0
  · rw [if_pos h1] at h; cases h
  · rw [if_neg h1] at h
    by_cases h2 : l = []
    · exact ⟨by omega, by omega, by omega, h2⟩
    · rw [if_pos h2] at h; cases h
theorem chk_one {k a b c : Int} {l : List Int} (hk : 1 ≤ k ∧ k ≤ 3) (h : chkC k a b c l = 0) : 0 ≤ a ∧ b = 0 ∧ c = 0 ∧ (hasB k = true ∨ l = []) := by
  rw [chk1 hk] at h
  by_cases h1 : a < 0
  · rw [if_pos h1] at h; cases h
  · rw [if_neg h1] at h
    by_cases h2 : b = 0 ∧ c = 0 ∧ (hasB k = true ∨ l = [])
    · exact ⟨by omega, h2⟩
    · rw [if_pos h2] at h; cases h
theorem chk_zero' {k a b c : Int} {l : List Int} (h11 : 1 ≤ k ∧ k ≤ 11) (hk : ¬ (1 ≤ k ∧ k ≤ 3 ∨ k = 9)) (h : chkC k a b c l = 0) : a = 0 ∧ b = 0 ∧ c = 0 ∧ (hasB k = true ∨ l = []) := by
  rw [chk0 h11 hk] at h
  by_cases h2 : a = 0 ∧ b = 0 ∧ c = 0 ∧ (hasB k = true ∨ l = [])
  · exact h2
  · rw [if_pos h2] at h; cases h
theorem chk_kind {k a b c : Int} {l : List Int} (h : chkC k a b c l = 0) : 1 ≤ k ∧ k ≤ 11 := by
  by_cases h1 : 1 ≤ k ∧ k ≤ 11
  · exact h1
  · rw [chk13 h1] at h; cases h
theorem encC9 {a b c : Int} {l : List Int} : encC 9 a b c l = 9 :: (venc a.toNat ++ (venc b.toNat ++ venc c.toNat)) := by
  unfold encC; rw [if_pos rfl, if_neg (by decide), List.append_nil]
theorem encC1 {k a b c : Int} {l : List Int} (hk : 1 ≤ k ∧ k ≤ 3) : encC k a b c l = k :: (venc a.toNat ++ (if hasB k = true then venc l.length ++ l else [])) := by
  unfold encC; rw [if_neg (by omega), if_pos (by omega)]
theorem encC0 {k a b c : Int} {l : List Int} (h11 : 1 ≤ k ∧ k ≤ 11) (hk : ¬ (1 ≤ k ∧ k ≤ 3 ∨ k = 9)) : encC k a b c l = k :: (if hasB k = true then venc l.length ++ l else []) := by
  unfold encC; rw [if_neg (by omega), if_neg (by omega), List.nil_append]
theorem v_cEncode {k a b c : Int} {l : List Int} (hk : -9223372036854775808 ≤ k ∧ k ≤ 9223372036854775807) (ha9 : a < 9223372036854775808) (hb9 : b < 9223372036854775808) (hc9 : c < 9223372036854775808) (bl : ∀ x ∈ l, 0 ≤ x ∧ x ≤ 255) (hl : l.length ≤ 1100) : A 35 [Cv k a b c (BS true l)] (.tup [BS true (encE' k a b c l), i6 (chkC k a b c l)]) := by
  intro H
  unfold Cv
  refine v_enter hC [18] (fun _ _ => kn_none rfl) Tryd.func35 rfl ok35 (Nat.le_of_ble_eq_true rfl) fun hcl hbl => ?_
  simp
  refine (v_cCheck (k := k) (a := a) (b := b) (c := c) (kk := true) (l := l) hk bl).callU [Cv k a b c (BS true l)] (by simp [Cv]) ?_
  simp
  by_cases he : chkC k a b c l = 0
  · have hE : encE' k a b c l = encC k a b c l := by unfold encE'; rw [if_pos he]
    rw [hE, he]
    have h11 := chk_kind he
    have hw : IntKind.u8.wrap k = k := by simp [IntKind.wrap, IntKind.bits, IntKind.signed]; omega
    have va := venc_length a.toNat
    have vb := venc_length b.toNat
    have vc := venc_length c.toNat
    have vl := venc_length l.length
    simp [hw]
    by_cases h9 : k = 9
    · subst h9
      obtain ⟨p1, p2, p3, rfl⟩ := chk_nine he
      refine CALLv.at (v_num9 (n := H.length + 3) (by simp) (g := H.length) (a := a) (b := b) (c := c) (B := BS true []) (by simp [CmO])) fun u T hu => ?_
      obtain ⟨rfl, rfl⟩ := hu
      simp
      refine v_once hC ?_
      simp
      refine (v_Put (kk := true) (l := [a]) (by simp) (by simp; omega)).callU [IS true [a]] (by simp) ?_
      rw [putB1 (by omega)]
      simp
      refine ⟨by omega, ?_⟩
      refine v_once hC ?_
      simp
      refine (v_Put (kk := true) (l := [b]) (by simp) (by simp; omega)).callU [IS true [b]] (by simp) ?_
      rw [putB1 (by omega)]
      simp
      refine ⟨by omega, ?_⟩
      refine v_once hC ?_
      simp
      refine (v_Put (kk := true) (l := [c]) (by simp) (by simp; omega)).callU [IS true [c]] (by simp) ?_
      rw [putB1 (by omega)]
      simp
      refine ⟨by omega, ?_⟩
      refine v_once hC ?_
      simp [Tryd.results35]
      first | (refine GV.ans hcl ?_; simp [encC9, bc]; done) | (refine GV.ans0 ?_; simp [encC9, bc]; done)
    · by_cases h3 : k ≤ 3
      · have h13 : 1 ≤ k ∧ k ≤ 3 := ⟨h11.1, h3⟩
        obtain ⟨p1, rfl, rfl, p4⟩ := chk_one h13 he
        refine CALLv.at (v_num1 (n := H.length + 3) (by simp) h13 (g := H.length) (a := a) (b := 0) (c := 0) (B := BS true l) (by simp [CmO])) fun u T hu => ?_
        obtain ⟨rfl, rfl⟩ := hu
        simp
        refine v_once hC ?_
        simp
        refine (v_Put (kk := true) (l := [a]) (by simp) (by simp; omega)).callU [IS true [a]] (by simp) ?_
        rw [putB1 (by omega)]
        simp
        refine ⟨by omega, ?_⟩
        refine v_once hC ?_
        simp
        cases hh : hasB k
        · simp [Tryd.results35]
          first | (refine GV.ans hcl ?_; simp [encC1 h13, hh, bc]; done) | (refine GV.ans0 ?_; simp [encC1 h13, hh, bc]; done)
        · simp
          refine (v_Text (kk := true) (ls := [l]) (by simp) (by simp; omega)).callU [.fsl true 1 [[BS true l]]] (by simp) ?_
          rw [textB1]
          simp [Tryd.results35]
          refine ⟨by omega, ?_⟩
          first | (refine GV.ans hcl ?_; simp [encC1 h13, hh, bc]; done) | (refine GV.ans0 ?_; simp [encC1 h13, hh, bc]; done)
      · have h13 : ¬ (1 ≤ k ∧ k ≤ 3 ∨ k = 9) := by omega
        obtain ⟨rfl, rfl, rfl, p4⟩ := chk_zero' h11 h13 he
        refine CALLv.at (v_num0 h13 (g := H.length) (a := 0) (b := 0) (c := 0) (B := BS true l) (by simp [CmO])) fun u T hu => ?_
        obtain ⟨rfl, rfl⟩ := hu
        simp
        refine v_once hC ?_
        simp
        cases hh : hasB k
        · simp [Tryd.results35]
          first | (refine GV.ans hcl ?_; simp [encC0 h11 h13, hh, bc]; done) | (refine GV.ans0 ?_; simp [encC0 h11 h13, hh, bc]; done)
        · simp
          refine (v_Text (kk := true) (ls := [l]) (by simp) (by simp; omega)).callU [.fsl true 1 [[BS true l]]] (by simp) ?_
          rw [textB1]
          simp [Tryd.results35]
          refine ⟨by omega, ?_⟩
          first | (refine GV.ans hcl ?_; simp [encC0 h11 h13, hh, bc]; done) | (refine GV.ans0 ?_; simp [encC0 h11 h13, hh, bc]; done)
  · have hE : encE' k a b c l = [] := by unfold encE'; rw [if_neg he]
    simp [he, hE, Tryd.results35]
    first | (refine GV.ans hcl ?_; simp [hE]; done) | (refine GV.ans0 ?_; simp [hE]; done)
/-- How many numbers a kind has. -/
def nNum (k : Int) : Int := if k = 9 then 3 else if 1 ≤ k ∧ k ≤ 3 then 1 else 0
theorem v_Parts {k : Int} : A 56 [i6 k] (.tup [i6 (nNum k), bo (hasB k)]) := by
  intro H
  refine v_enter hC [] (fun _ _ => kn_none rfl) Tryd.func56 rfl ok56 (Nat.le_of_ble_eq_true rfl) fun hcl hbl => ?_
  simp
  by_cases h1 : k = 1
  · subst h1
    simp [Tryd.results56]
    first | (refine GV.ans hcl ?_; simp [nNum, hasB]; done) | (refine GV.ans0 ?_; simp [nNum, hasB]; done)
  by_cases h2 : k = 2
  · subst h2
    simp [Tryd.results56]
    first | (refine GV.ans hcl ?_; simp [nNum, hasB]; done) | (refine GV.ans0 ?_; simp [nNum, hasB]; done)
  by_cases h3 : k = 3
  · subst h3
    simp [Tryd.results56]
    first | (refine GV.ans hcl ?_; simp [nNum, hasB]; done) | (refine GV.ans0 ?_; simp [nNum, hasB]; done)
  by_cases h7 : k = 7
  · subst h7
    simp [Tryd.results56]
    first | (refine GV.ans hcl ?_; simp [nNum, hasB]; done) | (refine GV.ans0 ?_; simp [nNum, hasB]; done)
  by_cases h8 : k = 8
  · subst h8
    simp [Tryd.results56]
    first | (refine GV.ans hcl ?_; simp [nNum, hasB]; done) | (refine GV.ans0 ?_; simp [nNum, hasB]; done)
  by_cases h9 : k = 9
  · subst h9
    simp [Tryd.results56]
    first | (refine GV.ans hcl ?_; simp [nNum, hasB]; done) | (refine GV.ans0 ?_; simp [nNum, hasB]; done)
  have hn : nNum k = 0 := by unfold nNum; rw [if_neg h9, if_neg (by omega)]
  have hb : hasB k = false := by simp [hasB, h1, h7, h8]
  simp [h1, h2, h3, h7, h8, h9, Tryd.results56]
  first | (refine GV.ans hcl ?_; simp [hn, hb]; done) | (refine GV.ans0 ?_; simp [hn, hb]; done)
theorem v_r30Check {k a b c : Int} {kk : Bool} {l : List Int} : A 36 [Cv k a b c (BS kk l)] (i6 (chkC k a b c l)) := by
  intro H
  unfold Cv
  refine v_enter hC [] (fun _ _ => kn_none rfl) Tryd.func36 rfl ok36 (Nat.le_of_ble_eq_true rfl) fun hcl hbl => ?_
  simp
  by_cases h11 : 1 ≤ k ∧ k ≤ 11
  · have g1 : ¬ k < 1 := by omega
    have g2 : ¬ 11 < k := by omega
    simp [g1, g2]
    refine (v_Parts (k := k)).call ?_
    simp
    by_cases h9 : k = 9
    · subst h9
      rw [show nNum 9 = 3 from rfl, show hasB 9 = false from rfl]
      refine v_once hC ?_
      simp
      refine CondV.dec (fun ha => ?_) (fun ha => ?_)
      · simp [Tryd.results36]
        first | (refine GV.ans hcl ?_; simp [chkC, ha]; done) | (refine GV.ans0 ?_; simp [chkC, ha]; done)
      simp
      refine v_once hC ?_
      simp
      refine CondV.dec (fun hb => ?_) (fun hb => ?_)
      · simp [Tryd.results36]
        first | (refine GV.ans hcl ?_; simp [chkC, ha, hb]; done) | (refine GV.ans0 ?_; simp [chkC, ha, hb]; done)
      simp
      refine v_once hC ?_
      simp
      refine CondV.dec (fun hc => ?_) (fun hc => ?_)
      · simp [Tryd.results36]
        first | (refine GV.ans hcl ?_; simp [chkC, ha, hb, hc]; done) | (refine GV.ans0 ?_; simp [chkC, ha, hb, hc]; done)
      simp
      refine v_once hC ?_
      simp
      refine v_once hC ?_
      simp
      by_cases hl : l = []
      · subst hl
        simp [Tryd.results36]
        first | (refine GV.ans hcl ?_; simp [chkC, ha, hb, hc]; done) | (refine GV.ans0 ?_; simp [chkC, ha, hb, hc]; done)
      · have hp : ¬ l.length = 0 := fun h => hl (List.eq_nil_of_length_eq_zero h)
        have hp' : 0 < l.length := by omega
        simp [hl, hp', Tryd.results36]
        first | (refine GV.ans hcl ?_; simp [chkC, ha, hb, hc, hl]; done) | (refine GV.ans0 ?_; simp [chkC, ha, hb, hc, hl]; done)
    by_cases h3 : k ≤ 3
    · have h13 : 1 ≤ k ∧ k ≤ 3 := ⟨h11.1, h3⟩
      rw [show nNum k = 1 by unfold nNum; rw [if_neg h9, if_pos h13]]
      refine v_once hC ?_
      simp
      refine CondV.dec (fun ha => ?_) (fun ha => ?_)
      · simp [Tryd.results36]
        first | (refine GV.ans hcl ?_; simp [chk1 h13, ha]; done) | (refine GV.ans0 ?_; simp [chk1 h13, ha]; done)
      simp
      refine v_once hC ?_
      simp
      refine v_once hC ?_
      simp
      by_cases qb : b = 0
      case neg =>
        simp [qb, Tryd.results36]
        first | (refine GV.ans hcl ?_; simp [chk1 h13, ha, qb]; done) | (refine GV.ans0 ?_; simp [chk1 h13, ha, qb]; done)
      subst qb
      simp
      refine v_once hC ?_
      simp
      by_cases qc : c = 0
      case neg =>
        simp [qc, Tryd.results36]
        first | (refine GV.ans hcl ?_; simp [chk1 h13, ha, qc]; done) | (refine GV.ans0 ?_; simp [chk1 h13, ha, qc]; done)
      subst qc
      simp
      refine v_once hC ?_
      simp
      cases hh : hasB k
      · simp
        by_cases hl : l = []
        · subst hl
          simp [Tryd.results36]
          first | (refine GV.ans hcl ?_; simp [chk1 h13, ha, hh]; done) | (refine GV.ans0 ?_; simp [chk1 h13, ha, hh]; done)
        · have hp : ¬ l.length = 0 := fun h => hl (List.eq_nil_of_length_eq_zero h)
          have hp' : 0 < l.length := by omega
          simp [hl, hp', Tryd.results36]
          first | (refine GV.ans hcl ?_; simp [chk1 h13, ha, hh, hl]; done) | (refine GV.ans0 ?_; simp [chk1 h13, ha, hh, hl]; done)
      · simp [Tryd.results36]
        first | (refine GV.ans hcl ?_; simp [chk1 h13, ha, hh]; done) | (refine GV.ans0 ?_; simp [chk1 h13, ha, hh]; done)
    · have h13 : ¬ (1 ≤ k ∧ k ≤ 3 ∨ k = 9) := by omega
      rw [show nNum k = 0 by unfold nNum; rw [if_neg h9, if_neg (by omega)]]
      refine v_once hC ?_
      simp
      refine v_once hC ?_
      simp
      by_cases qa : a = 0
      case neg =>
        simp [qa, Tryd.results36]
        first | (refine GV.ans hcl ?_; simp [chk0 h11 h13, qa]; done) | (refine GV.ans0 ?_; simp [chk0 h11 h13, qa]; done)
      subst qa
      simp
      refine v_once hC ?_
      simp
      by_cases qb : b = 0
      case neg =>
        simp [qb, Tryd.results36]
        first | (refine GV.ans hcl ?_; simp [chk0 h11 h13, qb]; done) | (refine GV.ans0 ?_; simp [chk0 h11 h13, qb]; done)
      subst qb
      simp
      refine v_once hC ?_
      simp
      by_cases qc : c = 0
      case neg =>
        simp [qc, Tryd.results36]
        first | (refine GV.ans hcl ?_; simp [chk0 h11 h13, qc]; done) | (refine GV.ans0 ?_; simp [chk0 h11 h13, qc]; done)
      subst qc
      simp
      refine v_once hC ?_
      simp
      cases hh : hasB k
      · simp
        by_cases hl : l = []
        · subst hl
          simp [Tryd.results36]
          first | (refine GV.ans hcl ?_; simp [chk0 h11 h13, hh]; done) | (refine GV.ans0 ?_; simp [chk0 h11 h13, hh]; done)
        · have hp : ¬ l.length = 0 := fun h => hl (List.eq_nil_of_length_eq_zero h)
          have hp' : 0 < l.length := by omega
          simp [hl, hp', Tryd.results36]
          first | (refine GV.ans hcl ?_; simp [chk0 h11 h13, hh, hl]; done) | (refine GV.ans0 ?_; simp [chk0 h11 h13, hh, hl]; done)
      · simp [Tryd.results36]
        first | (refine GV.ans hcl ?_; simp [chk0 h11 h13, hh]; done) | (refine GV.ans0 ?_; simp [chk0 h11 h13, hh]; done)
  · by_cases g1 : k < 1
    · simp [g1, Tryd.results36]
      first | (refine GV.ans hcl ?_; simp [chk13 h11]; done) | (refine GV.ans0 ?_; simp [chk13 h11]; done)
    · have g2 : 11 < k := by omega
      simp [g1, g2, Tryd.results36]
      first | (refine GV.ans hcl ?_; simp [chk13 h11]; done) | (refine GV.ans0 ?_; simp [chk13 h11]; done)
end Go.Proofs.YtenbclcfhjdcaaaDoor.VM
end
section
set_option maxHeartbeats 8000000
set_option linter.unusedVariables false
set_option linter.unusedSimpArgs false

/- The document's Encode. -/
namespace Go.Proofs.YtenbclcfhjdcaaaDoor.VM
open Go Go.Proofs AM B
set_option maxRecDepth 100000
set_option maxHeartbeats 4000000
theorem u64w {n : Int} (h : 0 ≤ n ∧ n < 9223372036854775808) : IntKind.u64.wrap n = n := by simp [IntKind.wrap, IntKind.bits, IntKind.signed]; omega
theorem v_r30Encode {k a b c : Int} {kk : Bool} {l : List Int} (he : chkC k a b c l = 0) (ha9 : a < 9223372036854775808) (hb9 : b < 9223372036854775808) (hc9 : c < 9223372036854775808) (hl : l.length ≤ 1100) : A 43 [Cv k a b c (BS kk l)] (BS true (encC k a b c l)) := by
  intro H
  unfold Cv
  refine v_enter hC [11] (fun _ _ => kn_none rfl) Tryd.func43 rfl ok43 (Nat.le_of_ble_eq_true rfl) fun hcl hbl => ?_
  have h11 := chk_kind he
  have hw : IntKind.u8.wrap k = k := by simp [IntKind.wrap, IntKind.bits, IntKind.signed]; omega
  have va := venc_length a.toNat
  have vb := venc_length b.toNat
  have vc := venc_length c.toNat
  have vl := venc_length l.length
  have ul := u64w (n := (l.length : Int)) (by omega)
  simp [hw]
  refine (v_Parts (k := k)).call ?_
  simp
  by_cases h9 : k = 9
  · subst h9
    obtain ⟨p1, p2, p3, rfl⟩ := chk_nine he
    have ua := u64w (n := a) (by omega)
    have ub := u64w (n := b) (by omega)
    have uc := u64w (n := c) (by omega)
    have ea : (a.toNat : Int) = a := by omega
    have eb : (b.toNat : Int) = b := by omega
    have ec : (c.toNat : Int) = c := by omega
    rw [show nNum 9 = 3 from rfl, show hasB 9 = false from rfl]
    refine v_once hC ?_
    simp [ua]
    refine (v_rPut (n := a.toNat) (by omega)).callU [.lit (.int .u64 (a.toNat : Int))] (by simp [ea]) ?_
    simp
    refine ⟨by omega, ?_⟩
    refine v_once hC ?_
    simp [ub]
    refine (v_rPut (n := b.toNat) (by omega)).callU [.lit (.int .u64 (b.toNat : Int))] (by simp [eb]) ?_
    simp
    refine ⟨by omega, ?_⟩
    refine v_once hC ?_
    simp [uc]
    refine (v_rPut (n := c.toNat) (by omega)).callU [.lit (.int .u64 (c.toNat : Int))] (by simp [ec]) ?_
    simp
    refine ⟨by omega, ?_⟩
    refine v_once hC ?_
    simp [Tryd.results43]
    first | (refine GV.ans hcl ?_; simp [encC9, bc]; done) | (refine GV.ans0 ?_; simp [encC9, bc]; done)
  by_cases h3 : k ≤ 3
  · have h13 : 1 ≤ k ∧ k ≤ 3 := ⟨h11.1, h3⟩
    obtain ⟨p1, rfl, rfl, p4⟩ := chk_one h13 he
    have ua := u64w (n := a) (by omega)
    have ea : (a.toNat : Int) = a := by omega
    rw [show nNum k = 1 by unfold nNum; rw [if_neg h9, if_pos h13]]
    refine v_once hC ?_
    simp [ua]
    refine (v_rPut (n := a.toNat) (by omega)).callU [.lit (.int .u64 (a.toNat : Int))] (by simp [ea]) ?_
    simp
    refine ⟨by omega, ?_⟩
    refine v_once hC ?_
    simp
    cases hh : hasB k
    · simp [Tryd.results43]
      first | (refine GV.ans hcl ?_; simp [encC1 h13, hh, bc]; done) | (refine GV.ans0 ?_; simp [encC1 h13, hh, bc]; done)
    · simp
      refine v_draw (ord := [0, 1, 2, 3, 4, 5, 6, 7, 8, 9, 10]) (m := 9) (by decide +kernel) (by decide +kernel) ?_
      simp [ul]
      refine (v_rPut (n := l.length) (by omega)).call ?_
      simp [Tryd.results43]
      refine ⟨by omega, by omega, ?_⟩
      first | (refine GV.ans hcl ?_; simp [encC1 h13, hh, bc]; done) | (refine GV.ans0 ?_; simp [encC1 h13, hh, bc]; done)
  · have h13 : ¬ (1 ≤ k ∧ k ≤ 3 ∨ k = 9) := by omega
    obtain ⟨rfl, rfl, rfl, p4⟩ := chk_zero' h11 h13 he
    rw [show nNum k = 0 by unfold nNum; rw [if_neg h9, if_neg (by omega)]]
    refine v_once hC ?_
    simp
    cases hh : hasB k
    · simp [Tryd.results43]
      first | (refine GV.ans hcl ?_; simp [encC0 h11 h13, hh, bc]; done) | (refine GV.ans0 ?_; simp [encC0 h11 h13, hh, bc]; done)
    · simp
      refine v_draw (ord := [0, 1, 2, 3, 4, 5, 6, 7, 8, 9, 10]) (m := 9) (by decide +kernel) (by decide +kernel) ?_
      simp [ul]
      refine (v_rPut (n := l.length) (by omega)).call ?_
      simp [Tryd.results43]
      refine ⟨by omega, by omega, ?_⟩
      first | (refine GV.ans hcl ?_; simp [encC0 h11 h13, hh, bc]; done) | (refine GV.ans0 ?_; simp [encC0 h11 h13, hh, bc]; done)
end Go.Proofs.YtenbclcfhjdcaaaDoor.VM
end
section
set_option maxHeartbeats 8000000
set_option linter.unusedVariables false
set_option linter.unusedSimpArgs false

/- The document's Get. -/
namespace Go.Proofs.YtenbclcfhjdcaaaDoor.VM
open Go Go.Proofs AM B
set_option maxRecDepth 100000
/-- The document's reading of a number: the number, how many bytes, what is wrong. -/
def refF (gr : Nat) : Nat → Nat → List Int → Nat × Nat × Int
  | i, _, [] => (0, i, 4)
  | i, n, c :: cs =>
    if 9 < i then (0, i, 3)
    else if 0 < (c % 128).toNat ∧ (gr - n) / 2 ^ (7 * i) < (c % 128).toNat then (0, i, 3)
    else if c = 0 ∧ 0 < i then (0, i, 3)
    else if c < 128 then (n + (c % 128).toNat * 2 ^ (7 * i), i + 1, 0)
    else refF gr (i + 1) (n + (c % 128).toNat * 2 ^ (7 * i)) cs
theorem v_rGet {kk : Bool} {l : List Int} {a gr : Nat} (hl : l.length ≤ 100000) (ha : a ≤ l.length) (hb : ∀ x ∈ l, 0 ≤ x ∧ x ≤ 255) (hgr : gr < 18446744073709551616) : A 64 [BS kk l, i6 a, .lit (.int .u64 gr)]
    (.tup [.lit (.int .u64 (refF gr 0 0 (l.drop a)).1), i6 ((a + (refF gr 0 0 (l.drop a)).2.1 : Nat) : Int), i6 (refF gr 0 0 (l.drop a)).2.2]) := by
  intro H
  refine v_enter hC [] (fun _ _ => kn_none rfl) Tryd.func64 rfl ok64 (Nat.le_of_ble_eq_true rfl) fun hcl hbl => ?_
  simp
  refine v_loopX hC (fun (X : Nat × Nat) e T => T = H ∧ e 0 = BS kk l ∧ e 1 = i6 ((a + X.1 : Nat) : Int) ∧ e 2 = .lit (.int .u64 gr) ∧ e 9 = .lit (.int .u64 X.2) ∧ e 10 = i6 a ∧ a + X.1 ≤ l.length ∧ X.2 ≤ gr ∧ refF gr 0 0 (l.drop a) = refF gr X.1 X.2 (l.drop (a + X.1))) (fun X => l.length - a - X.1) (0, 0) (G.refl ?_) ?_
  · simp [ha]
  · rintro ⟨i, n⟩ e T ⟨rfl, h0, h1, h2, h9, h10, hi, hn, hv⟩
    simp only at h1 h9 hi hn hv
    simp [h0, h1]
    refine CondV.dec (fun hlt => ?_) (fun hge => ?_)
    · have hlt : a + i < l.length := by omega
      have hc := hb l[a + i] (List.getElem_mem hlt)
      rw [List.drop_eq_getElem_cons hlt] at hv
      generalize hcv : l[a + i] = c at hv hc
      obtain ⟨p, hp⟩ : ∃ p : Nat, (c % 128).toNat = p := ⟨_, rfl⟩
      have hp1 : IntKind.u8.wrap (c % 128) = (p : Int) := by simp [IntKind.wrap, IntKind.bits, IntKind.signed]; omega
      have hp2 : IntKind.u8.wrap (c.tmod 128) = (p : Int) := by rw [Int.tmod_eq_emod_of_nonneg hc.1]; exact hp1
      have hp3 : IntKind.u64.wrap (p : Int) = (p : Int) := by simp [IntKind.wrap, IntKind.bits, IntKind.signed]; omega
      have hsub : (a : Int) + i - a = i := by omega
      have hpos : ¬ (a : Int) + i < 0 := by omega
      have hnat : ((a : Int) + i).toNat = a + i := by omega
      simp only [refF, hp] at hv
      simp [h0, h1, h2, h9, h10, hsub, hp1, hp2, hp3, hpos, hnat, getL hlt, hcv, w64 (n := (i : Int)) (by omega)]
      refine ⟨by omega, CondV.dec (fun h => ?_) (fun h => ?_)⟩
      · rw [if_pos (by omega)] at hv
        simp [h0, h1, h2, h9, h10, hv, Tryd.results64]
        first | (refine GV.ans hcl ?_; simp [hv]; done) | (refine GV.ans0 ?_; simp [hv]; done)
      · rw [if_neg (by omega)] at hv
        have hi9 : i ≤ 9 := by omega
        have hpow : ∀ j, j ≤ 9 → (2 ^ (7 * j) : Nat) ≤ 9223372036854775808 := fun j hj => Nat.le_trans (Nat.pow_le_pow_right (by decide) (show 7 * j ≤ 63 by omega)) (by decide)
        simp [h0, h1, h2, h9, h10, hsub, w64 (n := (i : Int)) (by omega)]
        refine v_loopX hC (fun (j : Nat) f U => U = T ∧ f 0 = BS kk l ∧ f 1 = i6 ((a + i : Nat) : Int) ∧ f 2 = .lit (.int .u64 gr) ∧ f 9 = .lit (.int .u64 n) ∧ f 10 = i6 a ∧ f 11 = i6 i ∧ f 12 = .lit (.int .u64 p) ∧ f 13 = .lit (.int .u64 ((2 ^ (7 * j) : Nat) : Int)) ∧ f 14 = i6 j ∧ j ≤ i) (fun j => i - j) 0 (G.refl ?_) ?_
        · have hp4 : IntKind.u64.wrap (c.tmod 128) = (p : Int) := by rw [Int.tmod_eq_emod_of_nonneg hc.1, show c % 128 = (p : Int) by omega]; exact hp3
          simp [hp4, h0, h1, h2, h9, h10, hsub, hp1, hp2, hp3, hpos, hnat, getL hlt, hcv, w64 (n := (i : Int)) (by omega)]
        · rintro j f U ⟨rfl, g0, g1, g2, g9, g10, g11, g12, g13, g14, hj⟩
          simp [g11, g14]
          refine CondV.dec (fun hji => ?_) (fun hji => ?_)
          · have hw : IntKind.u64.wrap (((2 ^ (7 * j) : Nat) : Int) * 128) = ((2 ^ (7 * (j + 1)) : Nat) : Int) := by
              have h1 := hpow (j + 1) (by omega)
              rw [Nat.mul_add, Nat.pow_add] at h1 ⊢
              generalize 2 ^ (7 * j) = D at h1 ⊢
              simp only [Nat.mul_one, Nat.reducePow] at h1 ⊢
              rw [show (D : Int) * 128 = ((D * 128 : Nat) : Int) by omega]
              simp only [IntKind.wrap, IntKind.bits, IntKind.signed]
              simp
              omega
            generalize hD : (2 ^ (7 * j) : Nat) = D at g13 hw
            simp [g13, g14, hw, w64 (n := (j : Int) + 1) (by omega)]
            refine GH.refl ⟨j + 1, ⟨rfl, ?_, ?_, ?_, ?_, ?_, ?_, ?_, ?_, ?_, hji⟩, by omega⟩ <;> simp [g0, g1, g2, g9, g10, g11, g12]
          · have hji : j = i := by omega
            subst hji
            have hD0 : 0 < (2 ^ (7 * j) : Nat) := Nat.pow_pos (by decide)
            have hD1 := hpow j hi9
            generalize hD : (2 ^ (7 * j) : Nat) = D at g13 hv hD0 hD1
            have hgn : IntKind.u64.wrap ((gr : Int) - n) = ((gr - n : Nat) : Int) := by simp [IntKind.wrap, IntKind.bits, IntKind.signed]; omega
            simp [g0, g1, g2, g9, g10, g11, g12, g13]
            have hgl : U.length = U.length := rfl
            have hdz : ¬ (D : Int) = 0 := by omega
            by_cases p0 : 0 < p
            · have dz : ¬ D = 0 := by omega
              have hquo : IntKind.u64.wrap (((gr - n : Nat) : Int) / (D : Int)) = (((gr - n) / D : Nat) : Int) := by
                rw [show ((gr - n : Nat) : Int) / (D : Int) = (((gr - n) / D : Nat) : Int) by simp]
                have : (gr - n) / D ≤ gr - n := Nat.div_le_self _ _
                generalize (gr - n) / D = Q at this ⊢
                simp [IntKind.wrap, IntKind.bits, IntKind.signed]; omega
              generalize hQ : (gr - n) / D = Q at hquo hv
              simp [g0, g1, g2, g9, g10, g11, g12, g13, p0, hgn, hdz, dz, hquo]
              refine CondV.dec (fun hq => ?_) (fun hq => ?_)
              · rw [if_pos ⟨p0, by omega⟩] at hv
                simp [g0, g1, hv, Tryd.results64]
                first | (refine GV.ans hcl ?_; simp [hv]; done) | (refine GV.ans0 ?_; simp [hv]; done)
              · rw [if_neg (fun h => by omega)] at hv
                simp [g0, g1, g2, g9, g10, g11, g12, g13, p0, hgn, hdz, dz, hquo, hpos, hnat, getL hlt, hcv]
                have hpd : n + p * D ≤ gr := by
                  have : p * D ≤ gr - n := (Nat.le_div_iff_mul_le hD0).1 (by omega)
                  omega
                refine ⟨by omega, ?_⟩
                by_cases hz : c = 0 ∧ 0 < j
                · obtain ⟨c0, j0⟩ := hz
                  rw [if_pos ⟨c0, j0⟩] at hv
                  simp [g0, g1, g11, c0, j0, hv, Tryd.results64]
                  first | (refine GV.ans hcl ?_; simp [hv]; done) | (refine GV.ans0 ?_; simp [hv]; done)
                · rw [if_neg hz] at hv
                  have hmul : IntKind.u64.wrap ((p : Int) * (D : Int)) = ((p * D : Nat) : Int) := by
                    rw [show (p : Int) * (D : Int) = ((p * D : Nat) : Int) by simp]
                    generalize p * D = W at hpd ⊢
                    simp [IntKind.wrap, IntKind.bits, IntKind.signed]; omega
                  have hadd : IntKind.u64.wrap ((n : Int) + ((p * D : Nat) : Int)) = ((n + p * D : Nat) : Int) := by
                    generalize p * D = W at hpd ⊢
                    simp [IntKind.wrap, IntKind.bits, IntKind.signed]; omega
                  generalize p * D = W at hmul hadd hv hpd
                  have hx1 : IntKind.i64.wrap ((a : Int) + j + 1) = (a : Int) + j + 1 := w64 (by omega)
                  have hx2 : IntKind.i64.wrap ((a : Int) + j) = (a : Int) + j := w64 (by omega)
                  have hx3 : 0 ≤ (a : Int) + j := by omega
                  by_cases c0 : c = 0
                  · have nj : ¬ 0 < j := fun h => hz ⟨c0, h⟩
                    rw [if_pos (by omega)] at hv
                    simp [g0, g1, g9, g11, g12, g13, hcv, c0, nj, hmul, hadd, hpos, hnat, getL hlt, hx1, hx2, hx3, hv, Tryd.results64]
                    have hz2 : (a : Int) + j + 1 = ((a + (j + 1) : Nat) : Int) := by omega
                    first | (refine GV.ans hcl ?_; simp [hv, hz2]; done) | (refine GV.ans0 ?_; simp [hv, hz2]; done)
                  · simp [g0, g1, g9, g11, g12, g13, c0, hmul, hadd, hpos, hnat, getL hlt, hcv, hx1, hx2, hx3]
                    refine CondV.dec (fun hs => ?_) (fun hs => ?_)
                    · rw [if_pos hs] at hv
                      simp [g0, g1, g9, hv, Tryd.results64]
                      have hz2 : (a : Int) + j + 1 = ((a + (j + 1) : Nat) : Int) := by omega
                      first | (refine GV.ans hcl ?_; simp [hv, hz2]; done) | (refine GV.ans0 ?_; simp [hv, hz2]; done)
                    · rw [if_neg hs] at hv
                      simp
                      refine GH.refl ⟨(j + 1, n + W), ⟨rfl, ?_, ?_, ?_, ?_, ?_, hlt, hpd, ?_⟩, ?_⟩
                      · simp [g0]
                      · simp; omega
                      · simp [g2]
                      · simp
                      · simp [g10]
                      · simpa [Nat.add_assoc] using hv
                      · simp only; omega
            · · rw [if_neg (fun h => p0 h.1)] at hv
                have hpd : n + p * D ≤ gr := by rw [show p = 0 by omega, Nat.zero_mul]; exact hn
                simp [g0, g1, g2, g9, g10, g11, g12, g13, p0, hpos, hnat, getL hlt, hcv]
                refine ⟨by omega, ?_⟩
                by_cases hz : c = 0 ∧ 0 < j
                · obtain ⟨c0, j0⟩ := hz
                  rw [if_pos ⟨c0, j0⟩] at hv
                  simp [g0, g1, g11, c0, j0, hv, Tryd.results64]
                  first | (refine GV.ans hcl ?_; simp [hv]; done) | (refine GV.ans0 ?_; simp [hv]; done)
                · rw [if_neg hz] at hv
                  have hmul : IntKind.u64.wrap ((p : Int) * (D : Int)) = ((p * D : Nat) : Int) := by
                    rw [show (p : Int) * (D : Int) = ((p * D : Nat) : Int) by simp]
                    generalize p * D = W at hpd ⊢
                    simp [IntKind.wrap, IntKind.bits, IntKind.signed]; omega
                  have hadd : IntKind.u64.wrap ((n : Int) + ((p * D : Nat) : Int)) = ((n + p * D : Nat) : Int) := by
                    generalize p * D = W at hpd ⊢
                    simp [IntKind.wrap, IntKind.bits, IntKind.signed]; omega
                  generalize p * D = W at hmul hadd hv hpd
                  have hx1 : IntKind.i64.wrap ((a : Int) + j + 1) = (a : Int) + j + 1 := w64 (by omega)
                  have hx2 : IntKind.i64.wrap ((a : Int) + j) = (a : Int) + j := w64 (by omega)
                  have hx3 : 0 ≤ (a : Int) + j := by omega
                  by_cases c0 : c = 0
                  · have nj : ¬ 0 < j := fun h => hz ⟨c0, h⟩
                    rw [if_pos (by omega)] at hv
                    simp [g0, g1, g9, g11, g12, g13, hcv, c0, nj, hmul, hadd, hpos, hnat, getL hlt, hx1, hx2, hx3, hv, Tryd.results64]
                    have hz2 : (a : Int) + j + 1 = ((a + (j + 1) : Nat) : Int) := by omega
                    first | (refine GV.ans hcl ?_; simp [hv, hz2]; done) | (refine GV.ans0 ?_; simp [hv, hz2]; done)
                  · simp [g0, g1, g9, g11, g12, g13, c0, hmul, hadd, hpos, hnat, getL hlt, hcv, hx1, hx2, hx3]
                    refine CondV.dec (fun hs => ?_) (fun hs => ?_)
                    · rw [if_pos hs] at hv
                      simp [g0, g1, g9, hv, Tryd.results64]
                      have hz2 : (a : Int) + j + 1 = ((a + (j + 1) : Nat) : Int) := by omega
                      first | (refine GV.ans hcl ?_; simp [hv, hz2]; done) | (refine GV.ans0 ?_; simp [hv, hz2]; done)
                    · rw [if_neg hs] at hv
                      simp
                      refine GH.refl ⟨(j + 1, n + W), ⟨rfl, ?_, ?_, ?_, ?_, ?_, hlt, hpd, ?_⟩, ?_⟩
                      · simp [g0]
                      · simp; omega
                      · simp [g2]
                      · simp
                      · simp [g10]
                      · simpa [Nat.add_assoc] using hv
                      · simp only; omega
    · have hd : l.drop (a + i) = [] := List.drop_of_length_le (by omega)
      rw [hd] at hv
      simp [h1, Tryd.results64]
      first | (refine GV.ans hcl ?_; simp [hv, refF]; done) | (refine GV.ans0 ?_; simp [hv, refF]; done)
end Go.Proofs.YtenbclcfhjdcaaaDoor.VM
end
section
set_option maxHeartbeats 8000000
set_option linter.unusedVariables false
set_option linter.unusedSimpArgs false

/- Plain facts on commands: their bytes. -/
namespace Go.Proofs.YtenbclcfhjdcaaaDoor.VM
open Go Go.Proofs AM B
set_option maxRecDepth 100000
theorem numF_ref {gr : Nat} (hgr : gr < 18446744073709551616) : ∀ (l : List Int) (i n : Nat), n ≤ gr → (refF gr i n l).2.2 = (numF gr i n l).2.2 ∧ ((numF gr i n l).2.2 = 0 → refF gr i n l = numF gr i n l)
  | [], i, n, _ => by simp [refF, numF]
  | c :: cs, i, n, hn => by
    have hD : 0 < 2 ^ (7 * i) := Nat.pos_of_ne_zero (by simp)
    have e1 : (gr - n) / 2 ^ (7 * i) < (c % 128).toNat ↔ gr - n < (c % 128).toNat * 2 ^ (7 * i) := Nat.div_lt_iff_lt_mul hD
    have e2 : 18446744073709551615 / 2 ^ (7 * i) < (c % 128).toNat ↔ 18446744073709551615 < (c % 128).toNat * 2 ^ (7 * i) := Nat.div_lt_iff_lt_mul hD
    have e3 : (0 < (c % 128).toNat ∧ (gr - n) / 2 ^ (7 * i) < (c % 128).toNat) ↔ (18446744073709551615 / 2 ^ (7 * i) < (c % 128).toNat ∨ gr < n + (c % 128).toNat * 2 ^ (7 * i)) := by
      rw [e1, e2]
      by_cases h0 : (c % 128).toNat = 0
      · rw [h0]; simp; omega
      · generalize (c % 128).toNat * 2 ^ (7 * i) = z
        omega
    unfold refF numF
    by_cases h9 : 9 < i
    · simp [h9]
    by_cases hb : 18446744073709551615 / 2 ^ (7 * i) < (c % 128).toNat ∨ gr < n + (c % 128).toNat * 2 ^ (7 * i)
    · rw [if_neg h9, if_pos (e3.2 hb), if_pos (.inr hb)]; simp
    · have ha : ¬ (0 < (c % 128).toNat ∧ (gr - n) / 2 ^ (7 * i) < (c % 128).toNat) := fun h => hb (e3.1 h)
      have hb9 : ¬ (9 < i ∨ 18446744073709551615 / 2 ^ (7 * i) < (c % 128).toNat ∨ gr < n + (c % 128).toNat * 2 ^ (7 * i)) := fun h => h.elim h9 hb
      rw [if_neg h9, if_neg ha, if_neg hb9]
      by_cases hz : c = 0 ∧ 0 < i
      · rw [if_pos hz, if_pos hz]; simp
      · rw [if_neg hz, if_neg hz]
        by_cases hs : c < 128
        · rw [if_pos hs, if_pos hs]; simp
        · rw [if_neg hs, if_neg hs]
          exact numF_ref hgr cs (i + 1) _ (by omega)
/-- A number at the beginning: its error, it, what is behind. -/
def gE (r : List Int) : Int := (getN r).2.2
def gV_ (r : List Int) : Int := (getN r).1
def gR (r : List Int) : List Int := r.drop (getN r).2.1
abbrev Dr := (Int × Int × Int) × List Int × List Int × Int
def bad (e : Int) : Dr := ((0, 0, 0), [], [], e)
def dec9 (r : List Int) : Dr := if gE r ≠ 0 then bad (gE r) else if gE (gR r) ≠ 0 then bad (gE (gR r)) else if gE (gR (gR r)) ≠ 0 then bad (gE (gR (gR r))) else ((gV_ r, gV_ (gR r), gV_ (gR (gR r))), [], gR (gR (gR r)), 0)
def decT (a : Int) (r : List Int) : Dr := if (getT r).2.2 ≠ 0 then bad (getT r).2.2 else ((a, 0, 0), (getT r).1, (getT r).2.1, 0)
def dec1 (h : Bool) (r : List Int) : Dr := if gE r ≠ 0 then bad (gE r) else if h then decT (gV_ r) (gR r) else ((gV_ r, 0, 0), [], gR r, 0)
def dec0 (h : Bool) (r : List Int) : Dr := if h then decT 0 r else ((0, 0, 0), [], r, 0)
def decK (k : Int) (r : List Int) : Dr := if k = 9 then dec9 r else if 1 ≤ k ∧ k ≤ 3 then dec1 (hasB k) r else dec0 (hasB k) r
def decC : List Int → Int × Dr
  | [] => (0, bad 4)
  | k :: r => if 1 ≤ k ∧ k ≤ 11 then (k, decK k r) else (0, bad 13)
end Go.Proofs.YtenbclcfhjdcaaaDoor.VM
end
section
set_option maxHeartbeats 8000000
set_option linter.unusedVariables false
set_option linter.unusedSimpArgs false

/- command.Decode. -/
namespace Go.Proofs.YtenbclcfhjdcaaaDoor.VM
open Go Go.Proofs AM B
set_option maxRecDepth 100000
set_option maxHeartbeats 4000000
/-- What Decode answers. -/
def vD (q : Int × Dr) : V := .tup [if q.2.2.2.2 = 0 then Cv q.1 q.2.1.1 q.2.1.2.1 q.2.1.2.2 (if hasB q.1 then BS true q.2.2.1 else .lit (.slice none 0 0)) else Cv 0 0 0 0 (.lit (.slice none 0 0)),
  if q.2.2.2.2 = 0 then BS true q.2.2.2.1 else .lit (.slice none 0 0), i6 q.2.2.2.2]
theorem vD_bad {k e : Int} (h : e ≠ 0) : vD (k, bad e) = .tup [Cv 0 0 0 0 (.lit (.slice none 0 0)), .lit (.slice none 0 0), i6 e] := by
  simp [vD, bad, h]
theorem v_cDecode0 {kk : Bool} : A 42 [BS kk []] (vD (decC [])) := by
  intro H
  refine v_enter hC [] (fun _ _ => kn_none rfl) Tryd.func42 rfl ok42 (Nat.le_of_ble_eq_true rfl) fun hcl hbl => ?_
  rw [show vD (decC []) = vD (0, bad 4) from rfl, vD_bad (by decide)]
  simp [Tryd.results42]
  first | (refine GV.ans hcl ?_; simp [Cv]; done) | (refine GV.ans0 ?_; simp [Cv]; done)
theorem v_cDecode13 {kk : Bool} {k : Int} {r : List Int} (hk : 0 ≤ k ∧ k ≤ 255) (h11 : ¬ (1 ≤ k ∧ k ≤ 11)) : A 42 [BS kk (k :: r)] (vD (decC (k :: r))) := by
  intro H
  refine v_enter hC [] (fun _ _ => kn_none rfl) Tryd.func42 rfl ok42 (Nat.le_of_ble_eq_true rfl) fun hcl hbl => ?_
  rw [show decC (k :: r) = (0, bad 13) by show (if 1 ≤ k ∧ k ≤ 11 then (k, decK k r) else (0, bad 13)) = _; rw [if_neg h11], vD_bad (by decide)]
  have hw : IntKind.i64.wrap k = k := w64 (by omega)
  have hl0 : ¬ ((r.length : Int) + 1 = 0) := by omega
  have hn := wordOf_none h11
  simp [hw, hl0]
  refine (v_Word (k := k) (by omega)).call ?_
  simp [hn, Tryd.results42]
  first | (refine GV.ans hcl ?_; simp [Cv]; done) | (refine GV.ans0 ?_; simp [Cv]; done)
theorem v_Get' {kk : Bool} {l : List Int} (hl : l.length ≤ 100000) (hb : ∀ x ∈ l, 0 ≤ x ∧ x ≤ 255) : A 61 [BS kk l] (.tup [i6 (gV_ l), BS true (if gE l = 0 then gR l else []), i6 (gE l)]) := v_Get hl hb
theorem gR_len (l : List Int) : (gR l).length ≤ l.length := by unfold gR; rw [List.length_drop]; omega
theorem gR_mem {l : List Int} {x : Int} (h : x ∈ gR l) : x ∈ l := List.mem_of_mem_drop h
theorem wr9 : IntKind.i64.wrap 9 = 9 := by decide +kernel
attribute [simp] wr9
theorem v_cDecode9 {kk : Bool} {r : List Int} (hr : r.length ≤ 5000) (hb : ∀ x ∈ r, 0 ≤ x ∧ x ≤ 255) : A 42 [BS kk (9 :: r)] (vD (decC (9 :: r))) := by
  intro H
  refine v_enter hC [] (fun _ _ => kn_none rfl) Tryd.func42 rfl ok42 (Nat.le_of_ble_eq_true rfl) fun hcl hbl => ?_
  rw [show decC (9 :: r) = (9, dec9 r) from rfl]
  have hl0 : ¬ ((r.length : Int) + 1 = 0) := by omega
  have hn := wordOf_some (k := 9) (by omega)
  simp [hl0]
  refine (v_Word (k := 9) (by omega)).call ?_
  simp [hn]
  have hbd : bounds (r.length + 1) (r.length + 1) (some 1) none none = some (1, r.length + 1, r.length + 1) := bounds_lo (n := 1) (L := r.length + 1) (by omega)
  have htk : ∀ x : List V, List.take (r.length + 1) (x :: List.map bc r) = x :: List.map bc r := fun x => List.take_of_length_le (by simp)
  refine v_draw (ord := [0, 1, 2, 3, 4, 5, 6, 7, 8, 9, 10, 11]) (m := 9) (by decide +kernel) (by decide +kernel) ?_
  simp [hbd, htk]
  refine (v_bClone (kk := false) (l := r) (by omega)).call ?_
  simp
  refine CALLv.at (v_num9 (n := H.length + 3) (by simp) (g := H.length + 1) (a := 0) (b := 0) (c := 0) (B := .lit (.slice none 0 0)) (by simp [CmO])) fun u T hu => ?_
  obtain ⟨rfl, rfl⟩ := hu
  simp
  refine v_once hC ?_
  simp
  refine (v_Get' (kk := true) (l := r) (by omega) hb).call ?_
  by_cases h1 : gE (r) = 0
  case neg =>
    have e : dec9 r = bad (gE (r)) := by unfold dec9; rw [if_pos h1]
    rw [e, vD_bad h1]
    simp [h1, Tryd.results42]
    first | (refine GV.ans hcl ?_; simp [Cv]; done) | (refine GV.ans0 ?_; simp [Cv]; done)
  simp [h1]
  have l1 := gR_len r
  refine v_once hC ?_
  simp
  refine (v_Get' (kk := true) (l := gR r) (by omega) (fun x h => hb x (gR_mem h))).call ?_
  by_cases h2 : gE (gR r) = 0
  case neg =>
    have e : dec9 r = bad (gE (gR r)) := by unfold dec9; rw [if_neg (not_not_intro h1), if_pos h2]
    rw [e, vD_bad h2]
    simp [h2, Tryd.results42]
    first | (refine GV.ans hcl ?_; simp [Cv]; done) | (refine GV.ans0 ?_; simp [Cv]; done)
  simp [h2]
  have l2 := gR_len (gR r)
  refine v_once hC ?_
  simp
  refine (v_Get' (kk := true) (l := gR (gR r)) (by omega) (fun x h => hb x (gR_mem (gR_mem h)))).call ?_
  by_cases h3 : gE (gR (gR r)) = 0
  case neg =>
    have e : dec9 r = bad (gE (gR (gR r))) := by unfold dec9; rw [if_neg (not_not_intro h1), if_neg (not_not_intro h2), if_pos h3]
    rw [e, vD_bad h3]
    simp [h3, Tryd.results42]
    first | (refine GV.ans hcl ?_; simp [Cv]; done) | (refine GV.ans0 ?_; simp [Cv]; done)
  simp [h3]
  have e : dec9 r = ((gV_ r, gV_ (gR r), gV_ (gR (gR r))), [], gR (gR (gR r)), 0) := by unfold dec9; rw [if_neg (not_not_intro h1), if_neg (not_not_intro h2), if_neg (not_not_intro h3)]
  rw [e]
  refine v_once hC ?_
  simp [Tryd.results42]
  first | (refine GV.ans hcl ?_; simp [vD, Cv, show hasB 9 = false from rfl]; done) | (refine GV.ans0 ?_; simp [vD, Cv, show hasB 9 = false from rfl]; done)
theorem v_cDecode1 {kk : Bool} {k : Int} {r : List Int} (hk : 1 ≤ k ∧ k ≤ 3) (hr : r.length ≤ 5000) (hb : ∀ x ∈ r, 0 ≤ x ∧ x ≤ 255) : A 42 [BS kk (k :: r)] (vD (decC (k :: r))) := by
  intro H
  refine v_enter hC [] (fun _ _ => kn_none rfl) Tryd.func42 rfl ok42 (Nat.le_of_ble_eq_true rfl) fun hcl hbl => ?_
  rw [show decC (k :: r) = (k, dec1 (hasB k) r) by
    show (if 1 ≤ k ∧ k ≤ 11 then (k, decK k r) else (0, bad 13)) = _
    rw [if_pos (by omega)]
    unfold decK
    rw [if_neg (by omega), if_pos hk]]
  have hl0 : ¬ ((r.length : Int) + 1 = 0) := by omega
  have hn := wordOf_some (k := k) (by omega)
  have hw : IntKind.i64.wrap k = k := w64 (by omega)
  simp [hl0, hw]
  refine (v_Word (k := k) (by omega)).call ?_
  simp [hn]
  have hbd : bounds (r.length + 1) (r.length + 1) (some 1) none none = some (1, r.length + 1, r.length + 1) := bounds_lo (n := 1) (L := r.length + 1) (by omega)
  have htk : ∀ x : List V, List.take (r.length + 1) (x :: List.map bc r) = x :: List.map bc r := fun x => List.take_of_length_le (by simp)
  refine v_draw (ord := [0, 1, 2, 3, 4, 5, 6, 7, 8, 9, 10, 11]) (m := 9) (by decide +kernel) (by decide +kernel) ?_
  simp [hbd, htk, hw]
  refine (v_bClone (kk := false) (l := r) (by omega)).call ?_
  simp
  refine CALLv.at (v_num1 (n := H.length + 3) (by simp) hk (g := H.length + 1) (a := 0) (b := 0) (c := 0) (B := .lit (.slice none 0 0)) (by simp [CmO])) fun u T hu => ?_
  obtain ⟨rfl, rfl⟩ := hu
  simp
  refine v_once hC ?_
  simp
  refine (v_Get' (kk := true) (l := r) (by omega) hb).call ?_
  by_cases h1 : gE r = 0
  case neg =>
    have e : dec1 (hasB k) r = bad (gE r) := by unfold dec1; rw [if_pos h1]
    rw [e, vD_bad h1]
    simp [h1, Tryd.results42]
    first | (refine GV.ans hcl ?_; simp [Cv]; done) | (refine GV.ans0 ?_; simp [Cv]; done)
  simp [h1]
  have l1 := gR_len r
  refine v_once hC ?_
  simp
  cases hh : hasB k
  · have e : dec1 false r = ((gV_ r, 0, 0), [], gR r, 0) := by unfold dec1; rw [if_neg (not_not_intro h1), if_neg (by decide)]
    rw [e]
    simp [Tryd.results42]
    first | (refine GV.ans hcl ?_; simp [vD, Cv, hh]; done) | (refine GV.ans0 ?_; simp [vD, Cv, hh]; done)
  · simp
    refine (v_GetText (kk := true) (l := gR r) (by omega) (fun x h => hb x (gR_mem h))).call ?_
    by_cases ht : (getT (gR r)).2.2 = 0
    case neg =>
      have e : dec1 true r = bad (getT (gR r)).2.2 := by unfold dec1; rw [if_neg (not_not_intro h1), if_pos rfl]; unfold decT; rw [if_pos ht]
      rw [e, vD_bad ht]
      simp [ht, Tryd.results42]
      first | (refine GV.ans hcl ?_; simp [Cv]; done) | (refine GV.ans0 ?_; simp [Cv]; done)
    have e : dec1 true r = ((gV_ r, 0, 0), (getT (gR r)).1, (getT (gR r)).2.1, 0) := by unfold dec1; rw [if_neg (not_not_intro h1), if_pos rfl]; unfold decT; rw [if_neg (not_not_intro ht)]
    rw [e]
    simp [ht, Tryd.results42]
    first | (refine GV.ans hcl ?_; simp [vD, Cv, hh]; done) | (refine GV.ans0 ?_; simp [vD, Cv, hh]; done)
theorem v_cDecodeK {kk : Bool} {k : Int} {r : List Int} (h11 : 1 ≤ k ∧ k ≤ 11) (hk : ¬ (1 ≤ k ∧ k ≤ 3 ∨ k = 9)) (hr : r.length ≤ 5000) (hb : ∀ x ∈ r, 0 ≤ x ∧ x ≤ 255) : A 42 [BS kk (k :: r)] (vD (decC (k :: r))) := by
  intro H
  refine v_enter hC [] (fun _ _ => kn_none rfl) Tryd.func42 rfl ok42 (Nat.le_of_ble_eq_true rfl) fun hcl hbl => ?_
  rw [show decC (k :: r) = (k, dec0 (hasB k) r) by
    show (if 1 ≤ k ∧ k ≤ 11 then (k, decK k r) else (0, bad 13)) = _
    rw [if_pos (by omega)]
    unfold decK
    rw [if_neg (by omega), if_neg (by omega)]]
  have hl0 : ¬ ((r.length : Int) + 1 = 0) := by omega
  have hn := wordOf_some (k := k) (by omega)
  have hw : IntKind.i64.wrap k = k := w64 (by omega)
  simp [hl0, hw]
  refine (v_Word (k := k) (by omega)).call ?_
  simp [hn]
  have hbd : bounds (r.length + 1) (r.length + 1) (some 1) none none = some (1, r.length + 1, r.length + 1) := bounds_lo (n := 1) (L := r.length + 1) (by omega)
  have htk : ∀ x : List V, List.take (r.length + 1) (x :: List.map bc r) = x :: List.map bc r := fun x => List.take_of_length_le (by simp)
  refine v_draw (ord := [0, 1, 2, 3, 4, 5, 6, 7, 8, 9, 10, 11]) (m := 9) (by decide +kernel) (by decide +kernel) ?_
  simp [hbd, htk, hw]
  refine (v_bClone (kk := false) (l := r) (by omega)).call ?_
  simp
  refine CALLv.at (v_num0 hk (g := H.length + 1) (a := 0) (b := 0) (c := 0) (B := .lit (.slice none 0 0)) (by simp [CmO])) fun u T hu => ?_
  obtain ⟨rfl, rfl⟩ := hu
  simp
  refine v_once hC ?_
  simp
  cases hh : hasB k
  · have e : dec0 false r = ((0, 0, 0), [], r, 0) := by unfold dec0; rw [if_neg (by decide)]
    rw [e]
    simp [Tryd.results42]
    first | (refine GV.ans hcl ?_; simp [vD, Cv, hh]; done) | (refine GV.ans0 ?_; simp [vD, Cv, hh]; done)
  · simp
    refine (v_GetText (kk := true) (l := r) (by omega) hb).call ?_
    by_cases ht : (getT (r)).2.2 = 0
    case neg =>
      have e : dec0 true r = bad (getT (r)).2.2 := by unfold dec0; rw [if_pos rfl]; unfold decT; rw [if_pos ht]
      rw [e, vD_bad ht]
      simp [ht, Tryd.results42]
      first | (refine GV.ans hcl ?_; simp [Cv]; done) | (refine GV.ans0 ?_; simp [Cv]; done)
    have e : dec0 true r = ((0, 0, 0), (getT r).1, (getT r).2.1, 0) := by unfold dec0; rw [if_pos rfl]; unfold decT; rw [if_neg (not_not_intro ht)]
    rw [e]
    simp [ht, Tryd.results42]
    first | (refine GV.ans hcl ?_; simp [vD, Cv, hh]; done) | (refine GV.ans0 ?_; simp [vD, Cv, hh]; done)
theorem v_cDecode {kk : Bool} {l : List Int} (hl : l.length ≤ 5000) (hb : ∀ x ∈ l, 0 ≤ x ∧ x ≤ 255) : A 42 [BS kk l] (vD (decC l)) := by
  cases l with
  | nil => exact v_cDecode0
  | cons k r =>
    have hk := hb k (by simp)
    have hr : r.length ≤ 5000 := by simp at hl; omega
    have hbr : ∀ x ∈ r, 0 ≤ x ∧ x ≤ 255 := fun x h => hb x (by simp [h])
    by_cases h11 : 1 ≤ k ∧ k ≤ 11
    · by_cases h9 : k = 9
      · subst h9; exact v_cDecode9 hr hbr
      · by_cases h3 : k ≤ 3
        · exact v_cDecode1 ⟨h11.1, h3⟩ hr hbr
        · exact v_cDecodeK h11 (by omega) hr hbr
    · exact v_cDecode13 hk h11
end Go.Proofs.YtenbclcfhjdcaaaDoor.VM
end
section
set_option maxHeartbeats 8000000
set_option linter.unusedVariables false
set_option linter.unusedSimpArgs false

/- The document's Decode. -/
namespace Go.Proofs.YtenbclcfhjdcaaaDoor.VM
open Go Go.Proofs AM B
set_option maxRecDepth 100000
set_option maxHeartbeats 4000000
/-- What the document's Decode answers. -/
def vR (L : Nat) (q : Int × Dr) : V := .tup [if q.2.2.2.2 = 0 then Cv q.1 q.2.1.1 q.2.1.2.1 q.2.1.2.2 (if hasB q.1 then BS false q.2.2.1 else .lit (.slice none 0 0)) else Cv 0 0 0 0 (.lit (.slice none 0 0)),
  i6 (if q.2.2.2.2 = 0 then ((L - q.2.2.2.1.length : Nat) : Int) else 0), i6 q.2.2.2.2]
theorem vR_bad {L : Nat} {k e : Int} (h : e ≠ 0) : vR L (k, bad e) = .tup [Cv 0 0 0 0 (.lit (.slice none 0 0)), i6 0, i6 e] := by
  simp [vR, bad, h]
theorem vR_ok {L p : Nat} {k a b c : Int} {bs rest : List Int} (hp : L - rest.length = p) : vR L (k, (a, b, c), bs, rest, 0) = .tup [Cv k a b c (if hasB k then BS false bs else .lit (.slice none 0 0)), i6 p, i6 0] := by
  subst hp; simp [vR]
theorem bounds_lh {n m L : Nat} (h1 : n ≤ m) (h2 : m ≤ L) : bounds L L (some (n : Int)) (some (m : Int)) none = some (n, m, L) := by
  simp [bounds]; omega
theorem refN {l : List Int} : (refF 9223372036854775807 0 0 l).2.2 = gE l ∧ (gE l = 0 → refF 9223372036854775807 0 0 l = getN l) := numF_ref (by decide) l 0 0 (by decide)
/-- The document's reading of a number, at a place. -/
theorem v_rGetE {kk : Bool} {l : List Int} {a : Nat} (hl : l.length ≤ 100000) (ha : a ≤ l.length) (hb : ∀ x ∈ l, 0 ≤ x ∧ x ≤ 255) : ∃ x y, A 64 [BS kk l, i6 a, .lit (.int .u64 9223372036854775807)] (.tup [x, y, i6 (gE (l.drop a))]) := by
  have h := v_rGet (kk := kk) (gr := 9223372036854775807) hl ha hb (by decide)
  rw [refN.1] at h
  exact ⟨_, _, h⟩
theorem v_rGetV {kk : Bool} {l : List Int} {a : Nat} (hl : l.length ≤ 100000) (ha : a ≤ l.length) (hb : ∀ x ∈ l, 0 ≤ x ∧ x ≤ 255) (h0 : gE (l.drop a) = 0) : A 64 [BS kk l, i6 a, .lit (.int .u64 9223372036854775807)] (.tup [.lit (.int .u64 (gV_ (l.drop a))), i6 ((a + (getN (l.drop a)).2.1 : Nat) : Int), i6 0]) := by
  have h := v_rGet (kk := kk) (gr := 9223372036854775807) hl ha hb (by decide)
  rw [refN.1, refN.2 h0, h0] at h
  exact h
theorem gV_le (l : List Int) : 0 ≤ gV_ l ∧ gV_ l ≤ 9223372036854775807 := by
  have := (numF_le (gr := 9223372036854775807) l 0 0).1
  unfold gV_ getN; omega
theorem gR_drop {l r : List Int} {a : Nat} (h : l.drop a = r) : l.drop (a + (getN r).2.1) = gR r := by
  rw [← List.drop_drop, h]; rfl
theorem drop_place {l r : List Int} {a : Nat} (h : l.drop a = r) (ha : a ≤ l.length) : a + (getN r).2.1 ≤ l.length ∧ (gR r).length = l.length - (a + (getN r).2.1) := by
  have h1 := getN_le r
  have h2 : r.length = l.length - a := by rw [← h, List.length_drop]
  constructor
  · omega
  · unfold gR; rw [List.length_drop, h2]; omega
theorem decT_get {a : Int} {X : List Int} (h : gE X ≠ 0) : decT a X = bad (gE X) := by
  have ht : (getT X).2.2 = gE X := by unfold getT; rw [if_pos (show (getN X).2.2 ≠ 0 from h)]; rfl
  unfold decT; rw [ht, if_pos h]
theorem decT_short {a : Int} {X : List Int} (h : gE X = 0) (h2 : (gR X).length < (getN X).1) : decT a X = bad 4 := by
  have ht : getT X = ([], [], 4) := by unfold getT; rw [if_neg (not_not_intro (show (getN X).2.2 = 0 from h)), if_pos (show (X.drop (getN X).2.1).length < _ from h2)]
  unfold decT; rw [ht, if_pos (by decide)]
theorem decT_ok {a : Int} {X : List Int} (h : gE X = 0) (h2 : (getN X).1 ≤ (gR X).length) : decT a X = ((a, 0, 0), (gR X).take (getN X).1, (gR X).drop (getN X).1, 0) := by
  have ht : getT X = ((gR X).take (getN X).1, (gR X).drop (getN X).1, 0) := by unfold getT; rw [if_neg (not_not_intro (show (getN X).2.2 = 0 from h)), if_neg (by show ¬ (gR X).length < _; omega)]; rfl
  unfold decT; rw [ht, if_neg (fun h => h rfl)]
theorem v_r30Decode0 {kk : Bool} : A 45 [BS kk []] (vR 0 (decC [])) := by
  intro H
  refine v_enter hC [] (fun _ _ => kn_none rfl) Tryd.func45 rfl ok45 (Nat.le_of_ble_eq_true rfl) fun hcl hbl => ?_
  rw [show vR 0 (decC []) = vR 0 (0, bad 4) from rfl, vR_bad (by decide)]
  simp [Tryd.results45]
  first | (refine GV.ans hcl ?_; simp [Cv]; done) | (refine GV.ans0 ?_; simp [Cv]; done)
theorem v_r30Decode13 {kk : Bool} {k : Int} {r : List Int} (hk : 0 ≤ k ∧ k ≤ 255) (h11 : ¬ (1 ≤ k ∧ k ≤ 11)) : A 45 [BS kk (k :: r)] (vR (k :: r).length (decC (k :: r))) := by
  intro H
  refine v_enter hC [] (fun _ _ => kn_none rfl) Tryd.func45 rfl ok45 (Nat.le_of_ble_eq_true rfl) fun hcl hbl => ?_
  rw [show decC (k :: r) = (0, bad 13) by show (if 1 ≤ k ∧ k ≤ 11 then (k, decK k r) else (0, bad 13)) = _; rw [if_neg h11], vR_bad (by decide)]
  have hw : IntKind.i64.wrap k = k := w64 (by omega)
  have hl0 : ¬ ((r.length : Int) + 1 = 0) := by omega
  by_cases g1 : k < 1
  · simp [hw, hl0, g1, Tryd.results45]
    first | (refine GV.ans hcl ?_; simp [Cv]; done) | (refine GV.ans0 ?_; simp [Cv]; done)
  · have g2 : 11 < k := by omega
    simp [hw, hl0, g1, g2, Tryd.results45]
    first | (refine GV.ans hcl ?_; simp [Cv]; done) | (refine GV.ans0 ?_; simp [Cv]; done)
theorem v_r30Decode9 {kk : Bool} {r : List Int}  (hr : r.length ≤ 5000) (hb : ∀ x ∈ 9 :: r, 0 ≤ x ∧ x ≤ 255) : A 45 [BS kk (9 :: r)] (vR (9 :: r).length (decC (9 :: r))) := by
  intro H
  refine v_enter hC [] (fun _ _ => kn_none rfl) Tryd.func45 rfl ok45 (Nat.le_of_ble_eq_true rfl) fun hcl hbl => ?_
  have hL : (9 :: r).length ≤ 100000 := by simp; omega
  have hd1 : (9 :: r).drop 1 = r := rfl
  have hl0 : ¬ ((r.length : Int) + 1 = 0) := by omega
  rw [show decC (9 :: r) = (9, dec9 r) from rfl]
  simp [hl0]
  refine (v_Parts (k := 9)).call ?_
  rw [show nNum 9 = 3 from rfl, show hasB 9 = false from rfl]
  simp
  refine v_once hC ?_
  simp
  have ha1 : 1 ≤ (9 :: r).length := by simp
  by_cases h1 : gE (r) = 0
  case neg =>
    obtain ⟨x, y, hc⟩ := v_rGetE (kk := kk) (l := 9 :: r) (a := 1) hL ha1 hb
    rw [hd1] at hc
    refine hc.callU [BS kk (9 :: r), i6 1, .lit (.int .u64 9223372036854775807)] (by simp) ?_
    have e : dec9 r = bad (gE (r)) := by unfold dec9; rw [ if_pos h1]
    rw [e, vR_bad h1]
    simp [h1, Tryd.results45]
    first | (refine GV.ans hcl ?_; simp [Cv]; done) | (refine GV.ans0 ?_; simp [Cv]; done)
  have hc := v_rGetV (kk := kk) (l := 9 :: r) (a := 1) hL ha1 hb (by rw [hd1]; exact h1)
  have hd2 := gR_drop hd1
  have hq1 := drop_place hd1 ha1
  rw [hd1] at hc
  obtain ⟨p1, hp1⟩ : ∃ p, 1 + (getN (r)).2.1 = p := ⟨_, rfl⟩
  rw [hp1] at hc hd2 hq1
  refine hc.callU [BS kk (9 :: r), i6 1, .lit (.int .u64 9223372036854775807)] (by simp) ?_
  have hw1 : IntKind.i64.wrap (gV_ (r)) = gV_ (r) := w64 (by have := gV_le (r); omega)
  simp [hw1]
  refine v_once hC ?_
  simp
  have ha2 := hq1.1
  by_cases h2 : gE (gR r) = 0
  case neg =>
    obtain ⟨x, y, hc⟩ := v_rGetE (kk := kk) (l := 9 :: r) (a := p1) hL ha2 hb
    rw [hd2] at hc
    refine hc.callU [BS kk (9 :: r), i6 p1, .lit (.int .u64 9223372036854775807)] (by simp) ?_
    have e : dec9 r = bad (gE (gR r)) := by unfold dec9; rw [if_neg (not_not_intro h1),  if_pos h2]
    rw [e, vR_bad h2]
    simp [h2, Tryd.results45]
    first | (refine GV.ans hcl ?_; simp [Cv]; done) | (refine GV.ans0 ?_; simp [Cv]; done)
  have hc := v_rGetV (kk := kk) (l := 9 :: r) (a := p1) hL ha2 hb (by rw [hd2]; exact h2)
  have hd3 := gR_drop hd2
  have hq2 := drop_place hd2 ha2
  rw [hd2] at hc
  obtain ⟨p2, hp2⟩ : ∃ p, p1 + (getN (gR r)).2.1 = p := ⟨_, rfl⟩
  rw [hp2] at hc hd3 hq2
  refine hc.callU [BS kk (9 :: r), i6 p1, .lit (.int .u64 9223372036854775807)] (by simp) ?_
  have hw2 : IntKind.i64.wrap (gV_ (gR r)) = gV_ (gR r) := w64 (by have := gV_le (gR r); omega)
  simp [hw2]
  refine v_once hC ?_
  simp
  have ha3 := hq2.1
  by_cases h3 : gE (gR (gR r)) = 0
  case neg =>
    obtain ⟨x, y, hc⟩ := v_rGetE (kk := kk) (l := 9 :: r) (a := p2) hL ha3 hb
    rw [hd3] at hc
    refine hc.callU [BS kk (9 :: r), i6 p2, .lit (.int .u64 9223372036854775807)] (by simp) ?_
    have e : dec9 r = bad (gE (gR (gR r))) := by unfold dec9; rw [if_neg (not_not_intro h1), if_neg (not_not_intro h2),  if_pos h3]
    rw [e, vR_bad h3]
    simp [h3, Tryd.results45]
    first | (refine GV.ans hcl ?_; simp [Cv]; done) | (refine GV.ans0 ?_; simp [Cv]; done)
  have hc := v_rGetV (kk := kk) (l := 9 :: r) (a := p2) hL ha3 hb (by rw [hd3]; exact h3)
  have hd4 := gR_drop hd3
  have hq3 := drop_place hd3 ha3
  rw [hd3] at hc
  obtain ⟨p3, hp3⟩ : ∃ p, p2 + (getN (gR (gR r))).2.1 = p := ⟨_, rfl⟩
  rw [hp3] at hc hd4 hq3
  refine hc.callU [BS kk (9 :: r), i6 p2, .lit (.int .u64 9223372036854775807)] (by simp) ?_
  have hw3 : IntKind.i64.wrap (gV_ (gR (gR r))) = gV_ (gR (gR r)) := w64 (by have := gV_le (gR (gR r)); omega)
  simp [hw3]
  have e : dec9 r = ((gV_ r, gV_ (gR r), gV_ (gR (gR r))), [], gR (gR (gR r)), 0) := by unfold dec9; rw [if_neg (not_not_intro h1), if_neg (not_not_intro h2), if_neg (not_not_intro h3)]
  rw [e, vR_ok (p := p3) (by omega)]
  refine v_once hC ?_
  simp [Tryd.results45]
  first | (refine GV.ans hcl ?_; simp [Cv, show hasB 9 = false from rfl]; done) | (refine GV.ans0 ?_; simp [Cv, show hasB 9 = false from rfl]; done)
theorem v_r30Decode1 {kk : Bool} {k : Int} {r : List Int} (hk : 1 ≤ k ∧ k ≤ 3) (hr : r.length ≤ 5000) (hb : ∀ x ∈ k :: r, 0 ≤ x ∧ x ≤ 255) : A 45 [BS kk (k :: r)] (vR (k :: r).length (decC (k :: r))) := by
  intro H
  refine v_enter hC [] (fun _ _ => kn_none rfl) Tryd.func45 rfl ok45 (Nat.le_of_ble_eq_true rfl) fun hcl hbl => ?_
  have hL : (k :: r).length ≤ 100000 := by simp; omega
  have hd1 : (k :: r).drop 1 = r := rfl
  have hl0 : ¬ ((r.length : Int) + 1 = 0) := by omega
  rw [show decC (k :: r) = (k, dec1 (hasB k) r) by
    show (if 1 ≤ k ∧ k ≤ 11 then (k, decK k r) else (0, bad 13)) = _
    rw [if_pos (by omega)]
    unfold decK
    rw [if_neg (by omega), if_pos hk]]
  have hw : IntKind.i64.wrap k = k := w64 (by omega)
  have g1 : ¬ k < 1 := by omega
  have g2 : ¬ 11 < k := by omega
  have h9 : ¬ k = 9 := by omega
  simp [hl0, hw, g1, g2]
  refine (v_Parts (k := k)).call ?_
  rw [show nNum k = 1 by unfold nNum; rw [if_neg h9, if_pos hk]]
  simp
  refine v_once hC ?_
  simp
  have ha1 : 1 ≤ (k :: r).length := by simp
  by_cases h1 : gE (r) = 0
  case neg =>
    obtain ⟨x, y, hc⟩ := v_rGetE (kk := kk) (l := k :: r) (a := 1) hL ha1 hb
    rw [hd1] at hc
    refine hc.callU [BS kk (k :: r), i6 1, .lit (.int .u64 9223372036854775807)] (by simp) ?_
    have e : dec1 (hasB k) r = bad (gE (r)) := by unfold dec1; rw [if_pos h1]
    rw [e, vR_bad h1]
    simp [h1, Tryd.results45]
    first | (refine GV.ans hcl ?_; simp [Cv]; done) | (refine GV.ans0 ?_; simp [Cv]; done)
  have hc := v_rGetV (kk := kk) (l := k :: r) (a := 1) hL ha1 hb (by rw [hd1]; exact h1)
  have hd2 := gR_drop hd1
  have hq1 := drop_place hd1 ha1
  rw [hd1] at hc
  obtain ⟨p1, hp1⟩ : ∃ p, 1 + (getN (r)).2.1 = p := ⟨_, rfl⟩
  rw [hp1] at hc hd2 hq1
  refine hc.callU [BS kk (k :: r), i6 1, .lit (.int .u64 9223372036854775807)] (by simp) ?_
  have hw1 : IntKind.i64.wrap (gV_ (r)) = gV_ (r) := w64 (by have := gV_le (r); omega)
  simp [hw1]
  refine v_once hC ?_
  simp
  cases hh : hasB k
  · have e : dec1 false r = ((gV_ r, 0, 0), [], gR r, 0) := by unfold dec1; rw [if_neg (not_not_intro h1), if_neg (by decide)]
    rw [e, vR_ok (p := p1) (by omega)]
    simp [Tryd.results45]
    first | (refine GV.ans hcl ?_; simp [Cv, hh]; done) | (refine GV.ans0 ?_; simp [Cv, hh]; done)
  · simp
    have ha2 : p1 ≤ (k :: r).length := hq1.1
    by_cases h2 : gE (gR r) = 0
    case neg =>
      obtain ⟨x, y, hc⟩ := v_rGetE (kk := kk) (l := k :: r) (a := p1) hL ha2 hb
      rw [hd2] at hc
      refine hc.callU [BS kk (k :: r), i6 p1, .lit (.int .u64 9223372036854775807)] (by simp) ?_
      have e : dec1 true r = bad (gE (gR r)) := by unfold dec1; rw [if_neg (not_not_intro h1), if_pos rfl, decT_get h2]
      rw [e, vR_bad h2]
      simp [h2, Tryd.results45]
      first | (refine GV.ans hcl ?_; simp [Cv]; done) | (refine GV.ans0 ?_; simp [Cv]; done)
    have hc := v_rGetV (kk := kk) (l := k :: r) (a := p1) hL ha2 hb (by rw [hd2]; exact h2)
    have hd3 := gR_drop hd2
    have hq2 := drop_place hd2 ha2
    rw [hd2] at hc
    obtain ⟨q, hp2⟩ : ∃ p, p1 + (getN (gR r)).2.1 = p := ⟨_, rfl⟩
    rw [hp2] at hc hd3 hq2
    refine hc.callU [BS kk (k :: r), i6 p1, .lit (.int .u64 9223372036854775807)] (by simp) ?_
    have hw2 : IntKind.i64.wrap (gV_ (gR r)) = gV_ (gR r) := w64 (by have := gV_le (gR r); omega)
    simp [hw2]
    have hgv : gV_ (gR r) = ((getN (gR r)).1 : Int) := rfl
    obtain ⟨v, hv⟩ : ∃ v, (getN (gR r)).1 = v := ⟨_, rfl⟩
    rw [hv] at hgv
    have hv2 := gV_le (gR r)
    rw [hgv] at hv2
    have hLl : (k :: r).length = r.length + 1 := rfl
    have ux : IntKind.u64.wrap (IntKind.i64.wrap ((r.length : Int) + 1 - (q : Int))) = (r.length : Int) + 1 - q := by rw [w64 (by omega), u64w (by omega)]
    rw [ux, hgv]
    refine CondV.dec (fun hs => ?_) (fun hs => ?_)
    · have e : dec1 true r = bad 4 := by unfold dec1; rw [if_neg (not_not_intro h1), if_pos rfl, decT_short h2 (by omega)]
      rw [e, vR_bad (by decide)]
      simp [Tryd.results45]
      first | (refine GV.ans hcl ?_; simp [Cv]; done) | (refine GV.ans0 ?_; simp [Cv]; done)
    · have hs' : (getN (gR r)).1 ≤ (gR (gR r)).length := by omega
      have e : dec1 true r = ((gV_ r, 0, 0), (gR (gR r)).take v, (gR (gR r)).drop v, 0) := by unfold dec1; rw [if_neg (not_not_intro h1), if_pos rfl, decT_ok h2 hs', hv]
      have hbd : bounds (r.length + 1) (r.length + 1) (some (q : Int)) (some ((q : Int) + (v : Int))) none = some (q, q + v, r.length + 1) := bounds_lh (n := q) (m := q + v) (L := r.length + 1) (by omega) (by omega)
      have wv : IntKind.i64.wrap (v : Int) = v := w64 (by omega)
      have wq : IntKind.i64.wrap ((q : Int) + (v : Int)) = (q : Int) + v := w64 (by omega)
      have hbs : List.drop q (List.take (q + v) ([V.lit (.int .u8 k)] :: List.map bc r)) = List.map bc ((gR (gR r)).take v) := by
        rw [← hd3, List.map_take, List.map_drop, List.take_drop]; rfl
      rw [e, vR_ok (p := q + v) (by rw [List.length_drop]; omega)]
      simp [wv, wq, hbd, hbs, Tryd.results45]
      first | (refine GV.ans hcl ?_; simp [Cv, hh]; done) | (refine GV.ans0 ?_; simp [Cv, hh]; done)
theorem v_r30DecodeK {kk : Bool} {k : Int} {r : List Int} (h11 : 1 ≤ k ∧ k ≤ 11) (hk : ¬ (1 ≤ k ∧ k ≤ 3 ∨ k = 9)) (hr : r.length ≤ 5000) (hb : ∀ x ∈ k :: r, 0 ≤ x ∧ x ≤ 255) : A 45 [BS kk (k :: r)] (vR (k :: r).length (decC (k :: r))) := by
  intro H
  refine v_enter hC [] (fun _ _ => kn_none rfl) Tryd.func45 rfl ok45 (Nat.le_of_ble_eq_true rfl) fun hcl hbl => ?_
  have hL : (k :: r).length ≤ 100000 := by simp; omega
  have hd1 : (k :: r).drop 1 = r := rfl
  have hl0 : ¬ ((r.length : Int) + 1 = 0) := by omega
  rw [show decC (k :: r) = (k, dec0 (hasB k) r) by
    show (if 1 ≤ k ∧ k ≤ 11 then (k, decK k r) else (0, bad 13)) = _
    rw [if_pos (by omega)]
    unfold decK
    rw [if_neg (by omega), if_neg (by omega)]]
  have hw : IntKind.i64.wrap k = k := w64 (by omega)
  have g1 : ¬ k < 1 := by omega
  have g2 : ¬ 11 < k := by omega
  have h9 : ¬ k = 9 := by omega
  simp [hl0, hw, g1, g2]
  refine (v_Parts (k := k)).call ?_
  rw [show nNum k = 0 by unfold nNum; rw [if_neg h9, if_neg (by omega)]]
  simp
  refine v_once hC ?_
  simp
  cases hh : hasB k
  · have e : dec0 false r = ((0, 0, 0), [], r, 0) := by unfold dec0; rw [if_neg (by decide)]
    rw [e, vR_ok (p := 1) (by simp)]
    simp [Tryd.results45]
    first | (refine GV.ans hcl ?_; simp [Cv, hh]; done) | (refine GV.ans0 ?_; simp [Cv, hh]; done)
  · simp
    have ha1 : 1 ≤ (k :: r).length := (by simp)
    by_cases h1 : gE (r) = 0
    case neg =>
      obtain ⟨x, y, hc⟩ := v_rGetE (kk := kk) (l := k :: r) (a := 1) hL ha1 hb
      rw [hd1] at hc
      refine hc.callU [BS kk (k :: r), i6 1, .lit (.int .u64 9223372036854775807)] (by simp) ?_
      have e : dec0 true r = bad (gE (r)) := by unfold dec0; rw [if_pos rfl, decT_get h1]
      rw [e, vR_bad h1]
      simp [h1, Tryd.results45]
      first | (refine GV.ans hcl ?_; simp [Cv]; done) | (refine GV.ans0 ?_; simp [Cv]; done)
    have hc := v_rGetV (kk := kk) (l := k :: r) (a := 1) hL ha1 hb (by rw [hd1]; exact h1)
    have hd2 := gR_drop hd1
    have hqx := drop_place hd1 ha1
    rw [hd1] at hc
    obtain ⟨q, hp2⟩ : ∃ p, 1 + (getN (r)).2.1 = p := ⟨_, rfl⟩
    rw [hp2] at hc hd2 hqx
    refine hc.callU [BS kk (k :: r), i6 1, .lit (.int .u64 9223372036854775807)] (by simp) ?_
    have hw2 : IntKind.i64.wrap (gV_ (r)) = gV_ (r) := w64 (by have := gV_le (r); omega)
    simp [hw2]
    have hgv : gV_ (r) = ((getN (r)).1 : Int) := rfl
    obtain ⟨v, hv⟩ : ∃ v, (getN (r)).1 = v := ⟨_, rfl⟩
    rw [hv] at hgv
    have hv2 := gV_le (r)
    rw [hgv] at hv2
    have hLl : (k :: r).length = r.length + 1 := rfl
    have ux : IntKind.u64.wrap (IntKind.i64.wrap ((r.length : Int) + 1 - (q : Int))) = (r.length : Int) + 1 - q := by rw [w64 (by omega), u64w (by omega)]
    rw [ux, hgv]
    refine CondV.dec (fun hs => ?_) (fun hs => ?_)
    · have e : dec0 true r = bad 4 := by unfold dec0; rw [if_pos rfl, decT_short h1 (by omega)]
      rw [e, vR_bad (by decide)]
      simp [Tryd.results45]
      first | (refine GV.ans hcl ?_; simp [Cv]; done) | (refine GV.ans0 ?_; simp [Cv]; done)
    · have hs' : (getN (r)).1 ≤ (gR (r)).length := by omega
      have e : dec0 true r = ((0, 0, 0), (gR (r)).take v, (gR (r)).drop v, 0) := by unfold dec0; rw [if_pos rfl, decT_ok h1 hs', hv]
      have hbd : bounds (r.length + 1) (r.length + 1) (some (q : Int)) (some ((q : Int) + (v : Int))) none = some (q, q + v, r.length + 1) := bounds_lh (n := q) (m := q + v) (L := r.length + 1) (by omega) (by omega)
      have wv : IntKind.i64.wrap (v : Int) = v := w64 (by omega)
      have wq : IntKind.i64.wrap ((q : Int) + (v : Int)) = (q : Int) + v := w64 (by omega)
      have hbs : List.drop q (List.take (q + v) ([V.lit (.int .u8 k)] :: List.map bc r)) = List.map bc ((gR (r)).take v) := by
        rw [← hd2, List.map_take, List.map_drop, List.take_drop]; rfl
      rw [e, vR_ok (p := q + v) (by rw [List.length_drop]; omega)]
      simp [wv, wq, hbd, hbs, Tryd.results45]
      first | (refine GV.ans hcl ?_; simp [Cv, hh]; done) | (refine GV.ans0 ?_; simp [Cv, hh]; done)
theorem v_r30Decode {kk : Bool} {l : List Int} (hl : l.length ≤ 5000) (hb : ∀ x ∈ l, 0 ≤ x ∧ x ≤ 255) : A 45 [BS kk l] (vR l.length (decC l)) := by
  cases l with
  | nil => exact v_r30Decode0
  | cons k r =>
    have hk := hb k (by simp)
    have hr : r.length ≤ 5000 := by simp at hl; omega
    by_cases h11 : 1 ≤ k ∧ k ≤ 11
    · by_cases h9 : k = 9
      · subst h9; exact v_r30Decode9 hr hb
      · by_cases h3 : k ≤ 3
        · exact v_r30Decode1 ⟨h11.1, h3⟩ hr hb
        · exact v_r30DecodeK h11 (by omega) hr hb
    · exact v_r30Decode13 hk h11
end Go.Proofs.YtenbclcfhjdcaaaDoor.VM
end
section
set_option maxHeartbeats 8000000
set_option linter.unusedVariables false
set_option linter.unusedSimpArgs false

/- The law's To, Of, known; All. -/
namespace Go.Proofs.YtenbclcfhjdcaaaDoor.VM
open Go Go.Proofs AM B
set_option maxRecDepth 100000
set_option maxHeartbeats 4000000
theorem v_To {k a b c : Int} {kk : Bool} {l : List Int} (hl : l.length < 2 ^ 63) : A 33 [Cv k a b c (BS kk l)] (Cv k a b c (BS true (l.take 1100))) := by
  intro H
  unfold Cv
  refine v_enter hC [11] (fun _ _ => kn_none rfl) Tryd.func33 rfl ok33 (Nat.le_of_ble_eq_true rfl) fun hcl hbl => ?_
  simp
  have hbd : bounds l.length l.length none (some (if 1100 < (l.length : Int) then 1100 else (l.length : Int))) none = some (0, min l.length 1100, l.length) := by
    rw [show (if 1100 < (l.length : Int) then 1100 else (l.length : Int)) = ((min l.length 1100 : Nat) : Int) by split <;> omega]
    exact bounds_hi (by omega)
  have htk : l.take 1100 = l.take (min l.length 1100) := by
    by_cases h : l.length ≤ 1100
    · rw [List.take_of_length_le h, List.take_of_length_le (by omega)]
    · rw [show min l.length 1100 = 1100 by omega]
  rw [htk]
  refine v_draw (ord := [8, 9, 10, 11, 12, 13, 14, 15, 16, 0, 1, 2, 3, 4, 5, 6, 7, 17, 18]) (m := 17) (by decide +kernel) (by decide +kernel) ?_
  simp [hbd]
  refine ⟨⟨?_, by omega⟩, ?_⟩
  · intro r hr
    obtain ⟨x, _, rfl⟩ := List.mem_map.1 (List.mem_of_mem_take hr)
    exact ⟨rfl, rfl⟩
  first | (refine GV.ans hcl ?_; simp []; done) | (refine GV.ans0 ?_; simp []; done)
theorem v_Of {k a b c : Int} {kk : Bool} {l : List Int} : A 34 [Cv k a b c (BS kk l)] (Cv k a b c (BS kk l)) := by
  intro H
  unfold Cv
  refine v_enter hC [] (fun _ _ => kn_none rfl) Tryd.func34 rfl ok34 (Nat.le_of_ble_eq_true rfl) fun hcl hbl => ?_
  simp [Tryd.results34]
  first | (refine GV.ans hcl ?_; simp []; done) | (refine GV.ans0 ?_; simp []; done)
theorem v_known : A 41 [] (bo true) := by
  intro H K φ σ us hR ha
  have e : us = #[] := by
    cases us with | mk l => cases l with
    | nil => rfl
    | cons a l => simp [VRs] at ha
  subst e
  have hK := hR.gk (1, tab256) (by rw [gcells_tab]; exact List.mem_singleton.2 rfl)
  obtain ⟨p, hp1, hp2⟩ := hR.kn 1 tab256 hK
  have hr : readN σ ⟨1, 0, none⟩ 256 = some tab256 := by
    unfold readN
    simp only [hp1]
    rw [if_pos ⟨hp2, by rw [tab256_length]; omega⟩, List.drop_zero, List.take_of_length_le (by rw [tab256_length]; omega)]
  refine ac_prim (v := .bool true) (σ' := σ) ?_ ⟨K, φ, bo true, H, .refl _ _ _, hR, ⟨rfl, rfl⟩, rfl, rfl⟩
  rw [prims_known]
  unfold knownA
  rw [if_pos rfl, if_pos ⟨rfl, hasTab_eq.2 hr⟩]
end Go.Proofs.YtenbclcfhjdcaaaDoor.VM
end
