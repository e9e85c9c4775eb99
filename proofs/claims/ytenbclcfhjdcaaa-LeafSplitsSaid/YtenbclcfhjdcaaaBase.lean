/- Words of this seat: a slice that reads as a list of cells; what stays readable when memory grows. No program is named here. -/
import Derived.WalkKit
import Derived.Deep.Draws
import Derived.Deep.LoopGhost
import Derived.Deep.QuietTactic
import Derived.BigQuiet
import Derived.Shelf.Abstract
import Derived.Deep.AppendLies
import Derived.Maps.AppendAt
import Derived.Deep.RegionHeld3
import Derived.WalkSpells
import Derived.Deep.DeepFit
import Derived.Lib.Hide
import Derived.KernelRfl
import Derived.RowKit3
namespace Go.Proofs.Ytenbclcfhjdcaaa.B
open Go.RowKit

/-- A fact that the walk's simp does not look into. -/
structure Keep (p : Prop) : Prop where
  out : p

/-- The slice v has n elements; its cells are xs (as many as the element's size a piece). -/
def Row (w : World) (v : Value) (n : Nat) (xs : List Value) : Prop :=
  ∃ A c, v = .slice A n c ∧ n ≤ c ∧ c ≤ maxLen ∧ (0 < n → ∃ g o, A = some ⟨g, o, none⟩ ∧ ∀ j u, xs[j]? = some u → w.cell? ⟨g, o + j, none⟩ = some u)

def ints (l : List Int) : List Value := l.map (Value.int .i64)
def u8s (l : List Int) : List Value := l.map (Value.int .u8)
@[simp] theorem ints_length (l : List Int) : (ints l).length = l.length := by simp [ints]
@[simp] theorem u8s_length (l : List Int) : (u8s l).length = l.length := by simp [u8s]
/-- Element j of a list (closed to simp). -/
def el (l : List Int) (j : Nat) : Int := l.getD j 0
theorem el_eq (l : List Int) (j : Nat) (h : j < l.length) : el l j = l[j] := by simp [el, h]
theorem ints_get (l : List Int) (j : Nat) (h : j < l.length) : (ints l)[j]? = some (.int .i64 (el l j)) := by simp [ints, el, h]
theorem u8s_get (l : List Int) (j : Nat) (h : j < l.length) : (u8s l)[j]? = some (.int .u8 (el l j)) := by simp [u8s, el, h]
theorem ints_append (a b : List Int) : ints (a ++ b) = ints a ++ ints b := by simp [ints]
theorem u8s_append (a b : List Int) : u8s (a ++ b) = u8s a ++ u8s b := by simp [u8s]

theorem Row.below {w w' : World} {v : Value} {n : Nat} {xs : List Value} (h : Row w v n xs) (hb : Below w.heap.size w w') : Row w' v n xs := by
  obtain ⟨A, c, rfl, h1, h2, h3⟩ := h
  refine ⟨A, c, rfl, h1, h2, fun hn => ?_⟩
  obtain ⟨g, o, e, hc⟩ := h3 hn
  refine ⟨g, o, e, fun j u hu => ?_⟩
  have hc := hc j u hu
  rw [hb.cell (World.block_lt_of_cell? w _ hc)]
  exact hc
theorem Row.of_own {w : World} {base n : Nat} {e : TypeId} {size : Nat} {v : Value} {xs : List Value} (h : w.ownsRow base e size v n xs) : Row w v n xs := by
  rcases h.2 with ⟨rfl, rfl⟩ | ⟨g, cap, cur, rfl, hb, hh, h1, h2, h3, h4⟩
  · exact ⟨none, 0, rfl, Nat.le_refl _, Nat.zero_le _, fun h => absurd h (Nat.lt_irrefl 0)⟩
  · refine ⟨_, cap, rfl, h1, h2, fun _ => ⟨g, 0, rfl, fun j u hu => ?_⟩⟩
    rw [cell_of_row w g (0 + j) cur e (0, 0) hh, Nat.zero_add]
    rw [← h4, List.getElem?_take] at hu
    split at hu
    · simpa using hu
    · cases hu
/-- A slice that reads has no element, or lies somewhere. -/
theorem Row.open_ {w : World} {v : Value} {n : Nat} {xs : List Value} (h : Row w v n xs) :
    (n = 0 ∧ ∃ A c, v = .slice A 0 c ∧ c ≤ maxLen) ∨ ∃ g o c, v = .slice (some ⟨g, o, none⟩) n c ∧ n ≤ c ∧ c ≤ maxLen ∧ ∀ j u, xs[j]? = some u → w.cell? ⟨g, o + j, none⟩ = some u := by
  obtain ⟨A, c, rfl, h1, h2, h3⟩ := h
  rcases Nat.eq_zero_or_pos n with h0 | h0
  · subst h0; exact .inl ⟨rfl, A, c, rfl, h2⟩
  · obtain ⟨g, o, rfl, hc⟩ := h3 h0
    exact .inr ⟨g, o, c, rfl, h1, h2, hc⟩
theorem bcell {W w1 : World} (hb : Below W.heap.size W w1) :
    (∀ b o, b < W.heap.size → w1.cell? ⟨b, o, none⟩ = W.cell? ⟨b, o, none⟩) ∧ (∀ b o, b < W.heap.size → w1.frozen? ⟨b, o, none⟩ = W.frozen? ⟨b, o, none⟩) :=
  ⟨fun b o h => hb.cell (p := ⟨b, o, none⟩) h, fun b o h => hb.frozen (p := ⟨b, o, none⟩) h⟩
theorem grown_set (w : World) (a : Addr) (u : Value) : w.grownBy (w.setCell a u) (some a.block) :=
  ⟨rfl, rfl, rfl, by simp [World.setCell], fun k _ hk => Below.heap_setCell _ _ _ _ (fun e => hk (by rw [e]))⟩
theorem own_set {w : World} {base n : Nat} {e : TypeId} {size : Nat} {v : Value} {xs : List Value} (h : w.ownsRow base e size v n xs) (a : Addr) (u : Value) (hne : v.ownBlock ≠ some a.block) : (w.setCell a u).ownsRow base e size v n xs :=
  h.kept (grown_set w a u) (.inr hne)
theorem heap_set_same {w : World} {b o : Nat} {cs : Array Value} {t : TypeId} {fr : Nat × Nat} (h : w.heap[b]? = some (.cells cs t fr)) (u : Value) :
    (w.setCell ⟨b, o, none⟩ u).heap[b]? = some (.cells (cs.setIfInBounds o u) t fr) := by
  simp [World.setCell, Array.getElem?_modify, h]
theorem heap_lt {w : World} {b : Nat} {o : Obj} (h : w.heap[b]? = some o) : b < w.heap.size := (Array.getElem?_eq_some_iff.1 h).1
theorem own_lt {w : World} {base n : Nat} {e : TypeId} {size : Nat} {v : Value} {xs : List Value} (h : w.ownsRow base e size v n xs) {k : Nat} (hk : v.ownBlock = some k) : k < w.heap.size := (h.lt k hk).2
theorem own_not {w : World} {base n : Nat} {e : TypeId} {size : Nat} {v : Value} {xs : List Value} (h : w.ownsRow base e size v n xs) {k : Nat} (hk : w.heap.size ≤ k) : v.ownBlock ≠ some k := fun e => by
  have := own_lt h e; omega
theorem new_blk {W : World} {o : Obj} {s : Nat} (h : W.heap.size = s) : (W.alloc o).heap[s]? = some o := by subst h; exact heap_alloc_new _ _
theorem retI {k : IntKind} {a b : Int} (h : a = b) : Ending.returned (.int k a) = .returned (.int k b) := by rw [h]
theorem retT {k : IntKind} {a b : Int} {x : Value} (h : a = b) : Ending.returned (.tuple #[.int k a, x]) = .returned (.tuple #[.int k b, x]) := by rw [h]
theorem retB {a b : Bool} (h : a = b) : Ending.returned (.bool a) = .returned (.bool b) := by rw [h]
theorem bdraw {B : Nat} {w W : World} (h : Below B w W) (n : Nat) : Below B w (W.drewN n) := ⟨h.os, h.tape, h.output, h.size, h.block⟩
theorem balloc {w W : World} (h : Below w.heap.size w W) (o : Obj) : Below w.heap.size w (W.alloc o) := h.alloc h.size o
theorem kc {w w1 : World} (h : Below w.heap.size w w1) {a : Addr} {v : Value} (hc : w.cell? a = some v) : w1.cell? a = some v := (h.cell (World.block_lt_of_cell? w a hc)).trans hc
theorem balloc' {w W : World} {B : Nat} (h : Below B w W) (o : Obj) (hB : B ≤ W.heap.size := by omega) : Below B w (W.alloc o) := h.alloc hB o
theorem own_nil' (W : World) (base : Nat) (e : TypeId) (size : Nat) : W.ownsRow base e size (.slice none 0 0) 0 [] := ⟨by simp, .inl ⟨rfl, rfl⟩⟩
theorem bnext {B : Nat} {w w1 w2 : World} (h : Below B w w1) (hB : B ≤ w1.heap.size) (k : Below w1.heap.size w1 w2) : Below B w w2 :=
  h.trans (k.mono hB)
/-- append of one element that was just laid into a block of its own. -/
theorem app1 {P : Program} {ops : Array Oper} {rest : List Oper} {o : Oper} {a : Act} {Q : Exit → Act → World → Prop} {W : World} (hgd : o.guard = none) (s x : Operand) (t : TypeId)
    (ho : o.op = .call { callee := .builtin .append, args := #[s, x], argTypes := #[t, t] })
    (base : Nat) (e te : TypeId) (i : TypeInfo) (z : Value) (size bytes : Nat) (ht : P.underlying t = some (.slice e)) (hi : P.info? e = some i) (hz : i.zero = some z)
    (hsize : i.size = size) (hby : i.bytes = bytes) (hzs : z.cells.size = size) (hsz : 0 < size)
    (v : Value) (n : Nat) (xs : List Value) (hs : a.eval s = v) (hown : W.ownsRow base e size v n xs)
    (cs : List Value) (hx : a.eval x = .slice (some ⟨W.heap.size, 0, none⟩) 1 1) (hl : cs.length = size) (h1 : ∀ u ∈ cs, u.oneCell' = true)
    (h63 : n + 1 ≤ 1000000000) (hb : bytes ≤ 100) (hbase : base ≤ W.heap.size)
    (h : ∀ g cap w', w'.ownsRow base e size (.slice (some ⟨g, 0, none⟩) (n + 1) cap) (n + 1) (xs ++ cs) → (W.alloc (.cells cs.toArray te)).grownBy w' v.ownBlock → (v.ownBlock = some g ∨ g = W.heap.size + 1) → wpList P ops Q rest (a.put o.dst (.slice (some ⟨g, 0, none⟩) (n + 1) cap)) w') :
    wpList P ops Q (o :: rest) a (W.alloc (.cells cs.toArray te)) := by
  refine wpList_append_lies _ hgd s x t ho base e i z size bytes ht hi hz hsize hby hzs hsz v n xs hs (hown.alloc _) ⟨W.heap.size, 0, none⟩ 1 1 cs hx (by simp [hl]) (fun j u hj => ?_) h1 (by omega) (by simp only [maxLen]; omega) ?_ (by simp; omega) (W.heap.size + 1) (by simp) ?_
  · rw [show (⟨W.heap.size, 0, none⟩ : Addr).add j = ⟨W.heap.size, j, none⟩ by unfold Addr.add; split <;> simp_all]
    rw [World.cell?_alloc_new]; simpa using hj
  · calc (n + 1) * bytes ≤ 1000000000 * 100 := Nat.mul_le_mul h63 hb
      _ ≤ _ := by omega
  · intro g cap w' g1 g2 g3 _
    exact h g cap w' g1 g2 g3
/-- append of the m elements of another slice. -/
theorem appN {P : Program} {ops : Array Oper} {rest : List Oper} {o : Oper} {a : Act} {Q : Exit → Act → World → Prop} {W : World} (hgd : o.guard = none) (s x : Operand) (t : TypeId)
    (ho : o.op = .call { callee := .builtin .append, args := #[s, x], argTypes := #[t, t] })
    (base : Nat) (e : TypeId) (i : TypeInfo) (z : Value) (size bytes : Nat) (ht : P.underlying t = some (.slice e)) (hi : P.info? e = some i) (hz : i.zero = some z)
    (hsize : i.size = size) (hby : i.bytes = bytes) (hzs : z.cells.size = size) (hsz : 0 < size)
    (v : Value) (n : Nat) (xs : List Value) (hs : a.eval s = v) (hown : W.ownsRow base e size v n xs)
    (xv : Value) (m : Nat) (us : List Value) (hx : a.eval x = xv) (hrow : Row W xv m us) (hl : us.length = m * size) (h1 : ∀ u ∈ us, u.oneCell' = true)
    (hm : 0 < m) (h63 : n + m ≤ 1000000000) (hb : bytes ≤ 100) (hbase : base ≤ W.heap.size)
    (h : ∀ g cap w', w'.ownsRow base e size (.slice (some ⟨g, 0, none⟩) (n + m) cap) (n + m) (xs ++ us) → W.grownBy w' v.ownBlock → (v.ownBlock = some g ∨ g = W.heap.size) → wpList P ops Q rest (a.put o.dst (.slice (some ⟨g, 0, none⟩) (n + m) cap)) w') :
    wpList P ops Q (o :: rest) a W := by
  rcases hrow.open_ with ⟨h0, _⟩ | ⟨g0, o0, c0, rfl, _, _, hc⟩
  · omega
  refine wpList_append_lies _ hgd s x t ho base e i z size bytes ht hi hz hsize hby hzs hsz v n xs hs hown ⟨g0, o0, none⟩ m c0 us hx hl (fun j u hj => ?_) h1 hm (by simp only [maxLen]; omega) ?_ hbase W.heap.size rfl ?_
  · rw [show (⟨g0, o0, none⟩ : Addr).add j = ⟨g0, o0 + j, none⟩ by unfold Addr.add; split <;> simp_all]
    exact hc j u hj
  · calc (n + m) * bytes ≤ 1000000000 * 100 := Nat.mul_le_mul h63 hb
      _ ≤ _ := by omega
  · intro g cap w' g1 g2 g3 _
    exact h g cap w' g1 g2 g3
theorem u8s_one {l : List Int} : ∀ u ∈ u8s l, u.oneCell' = true := by
  intro u hu
  simp [u8s] at hu
  obtain ⟨x, _, rfl⟩ := hu
  rfl
/-- A block laid just now, as a row. -/
theorem own_blk {w : World} {b : Nat} {cs : Array Value} {e : TypeId} {size n : Nat} (base : Nat) (h : w.heap[b]? = some (.cells cs e (0, 0))) (hb : base ≤ b) (hn : cs.size = n * size) (hm : n ≤ maxLen) :
    w.ownsRow base e size (.slice (some ⟨b, 0, none⟩) n n) n cs.toList :=
  ⟨by simpa using hn, .inr ⟨b, n, cs, rfl, hb, h, Nat.le_refl _, hm, hn, by rw [List.take_of_length_le (by simp [hn])]⟩⟩
/-- The same at a step of a region that draws its order. -/
theorem step1 {P : Program} {ops : Array Oper} {o : Oper} {a : Act} {K : Act → World → Prop} {Q : Exit → Act → World → Prop} {E : Prop} {W : World} (hgd : o.guard = none) (s x : Operand) (t : TypeId)
    (ho : o.op = .call { callee := .builtin .append, args := #[s, x], argTypes := #[t, t] })
    (base : Nat) (e te : TypeId) (i : TypeInfo) (z : Value) (size bytes : Nat) (ht : P.underlying t = some (.slice e)) (hi : P.info? e = some i) (hz : i.zero = some z)
    (hsize : i.size = size) (hby : i.bytes = bytes) (hzs : z.cells.size = size) (hsz : 0 < size)
    (v : Value) (n : Nat) (xs : List Value) (hs : a.eval s = v) (hown : W.ownsRow base e size v n xs)
    (cs : List Value) (hx : a.eval x = .slice (some ⟨W.heap.size, 0, none⟩) 1 1) (hl : cs.length = size) (h1 : ∀ u ∈ cs, u.oneCell' = true)
    (h63 : n + 1 ≤ 1000000000) (hb : bytes ≤ 100) (hbase : base ≤ W.heap.size)
    (h : ∀ g cap w', w'.ownsRow base e size (.slice (some ⟨g, 0, none⟩) (n + 1) cap) (n + 1) (xs ++ cs) → (W.alloc (.cells cs.toArray te)).grownBy w' v.ownBlock → (v.ownBlock = some g ∨ g = W.heap.size + 1) → K (a.put o.dst (.slice (some ⟨g, 0, none⟩) (n + 1) cap)) w') :
    if Region.wanted o (yielded ops a.tmps) = true then Oper.wp P o a (W.alloc (.cells cs.toArray te)).drew K Q else E := by
  refine step_append_lies _ hgd s x t ho base e i z size bytes ht hi hz hsize hby hzs hsz v n xs hs ((hown.alloc _).kept (w' := (W.alloc (.cells cs.toArray te)).drew) (row := none) ⟨rfl, rfl, rfl, Nat.le_refl _, fun _ _ _ => rfl⟩ (by cases v.ownBlock <;> simp)) ⟨W.heap.size, 0, none⟩ 1 1 cs hx (by simp [hl]) (fun j u hj => ?_) h1 (by omega) (by simp only [maxLen]; omega) ?_ (by simp; omega) (W.heap.size + 1) (by simp) ?_
  · rw [show (⟨W.heap.size, 0, none⟩ : Addr).add j = ⟨W.heap.size, j, none⟩ by unfold Addr.add; split <;> simp_all]
    rw [World.cell?_drew, World.cell?_alloc_new]; simpa using hj
  · calc (n + 1) * bytes ≤ 1000000000 * 100 := Nat.mul_le_mul h63 hb
      _ ≤ _ := by omega
  · intro g cap w' g1 g2 g3 _
    exact h g cap w' g1 ⟨g2.os, g2.tape, g2.output, g2.size, g2.block⟩ g3
/-- The same, behind a call that made memory. -/
theorem step1n {P : Program} {ops : Array Oper} {o : Oper} {a : Act} {K : Act → World → Prop} {Q : Exit → Act → World → Prop} {E : Prop} {W : World} (hgd : o.guard = none) (s x : Operand) (t : TypeId)
    (ho : o.op = .call { callee := .builtin .append, args := #[s, x], argTypes := #[t, t] })
    (base : Nat) (e te : TypeId) (i : TypeInfo) (z : Value) (size bytes : Nat) (ht : P.underlying t = some (.slice e)) (hi : P.info? e = some i) (hz : i.zero = some z)
    (hsize : i.size = size) (hby : i.bytes = bytes) (hzs : z.cells.size = size) (hsz : 0 < size)
    (v : Value) (n : Nat) (xs : List Value) (hs : a.eval s = v) (hown : W.ownsRow base e size v n xs)
    (cs : List Value) (hx : a.eval x = .slice (some ⟨W.heap.size, 0, none⟩) 1 1) (hl : cs.length = size) (h1 : ∀ u ∈ cs, u.oneCell' = true)
    (h63 : n + 1 ≤ 1000000000) (hb : bytes ≤ 100) (hbase : base ≤ W.heap.size)
    (h : ∀ g cap w', w'.ownsRow base e size (.slice (some ⟨g, 0, none⟩) (n + 1) cap) (n + 1) (xs ++ cs) → (W.alloc (.cells cs.toArray te)).grownBy w' v.ownBlock → (v.ownBlock = some g ∨ g = W.heap.size + 1) → K (a.put o.dst (.slice (some ⟨g, 0, none⟩) (n + 1) cap)) w') :
    if Region.wanted o (yielded ops a.tmps) = true then Oper.wp P o a (W.alloc (.cells cs.toArray te)) K Q else E := by
  refine step_append_lies _ hgd s x t ho base e i z size bytes ht hi hz hsize hby hzs hsz v n xs hs (hown.alloc _) ⟨W.heap.size, 0, none⟩ 1 1 cs hx (by simp [hl]) (fun j u hj => ?_) h1 (by omega) (by simp only [maxLen]; omega) ?_ (by simp; omega) (W.heap.size + 1) (by simp) ?_
  · rw [show (⟨W.heap.size, 0, none⟩ : Addr).add j = ⟨W.heap.size, j, none⟩ by unfold Addr.add; split <;> simp_all]
    rw [World.cell?_alloc_new]; simpa using hj
  · calc (n + 1) * bytes ≤ 1000000000 * 100 := Nat.mul_le_mul h63 hb
      _ ≤ _ := by omega
  · intro g cap w' g1 g2 g3 _
    exact h g cap w' g1 g2 g3
theorem ne_swap {a b : Option Nat} (h : a = none ∨ a ≠ b) : b = none ∨ b ≠ a := by
  rcases h with e | e
  · rw [e]; cases b <;> simp
  · exact .inr (Ne.symm e)
theorem own_slice {w : World} {base n : Nat} {e : TypeId} {size : Nat} {v : Value} {xs : List Value} (h : w.ownsRow base e size v n xs) : ∃ A c, v = .slice A n c := by
  rcases h.2 with ⟨rfl, rfl⟩ | ⟨g, cap, cur, rfl, _⟩
  · exact ⟨none, 0, rfl⟩
  · exact ⟨_, cap, rfl⟩
theorem addr_add0 (A : Option Addr) (c : Nat) : (if c = 0 then A else A.map (fun x => x.add 0)) = A := by cases A <;> simp [Addr.add]
/-- s[:k], whatever s is. -/
theorem run_cut {P : Program} {t e : TypeId} {i : TypeInfo} (ht : P.underlying t = some (.slice e)) (hi : P.info? e = some i) (A : Option Addr) (n c k : Nat) (h : k ≤ c) (w : World) :
    (Instr.slice t (.slice A n c) none (some (.int .i64 (k : Int))) none).run P w = .ok (.slice A k c) w := by
  have hs : (P.elem t) = e := by simp [Program.elem, ht]
  rw [run_slice_h (P := P) (t := t) (ht := by rw [hs]; exact ht) (h0 := by omega) (h2 := by omega)]
  simp [hs, sizeOf, typeInfo, hi, Result.andThen, sliced, Int.toNat_natCast]
  cases A <;> simp [Addr.add]
theorem own_below {w w1 : World} {base : Nat} {e : TypeId} {size n : Nat} {v : Value} {xs : List Value} (h : w.ownsRow base e size v n xs) (hb : Below w.heap.size w w1) : w1.ownsRow base e size v n xs :=
  h.kept (row := none) ⟨hb.os, hb.tape, hb.output, hb.size, fun k hk _ => hb.block k hk⟩ (by cases v.ownBlock <;> simp)
theorem row_blk {w : World} {b n : Nat} {cs : Array Value} {e : TypeId} {fr : Nat × Nat} (h : w.heap[b]? = some (.cells cs e fr)) (hm : n ≤ maxLen) : Row w (.slice (some ⟨b, 0, none⟩) n n) n cs.toList :=
  ⟨_, n, rfl, Nat.le_refl _, hm, fun _ => ⟨b, 0, rfl, fun j u hu => by rw [cell_of_row w b _ cs e fr h, Nat.zero_add]; simpa using hu⟩⟩
theorem grown_trans {w w1 w2 : World} {r r1 : Option Nat} (h1 : w.grownBy w1 r) (h2 : w1.grownBy w2 r1) (hr : r1 = r ∨ ∀ k, r1 = some k → w.heap.size ≤ k) : w.grownBy w2 r := by
  refine ⟨h2.os.trans h1.os, h2.tape.trans h1.tape, h2.output.trans h1.output, Nat.le_trans h1.size h2.size, fun k hk hne => ?_⟩
  rw [h2.block k (Nat.lt_of_lt_of_le hk h1.size) ?_, h1.block k hk hne]
  intro e
  rcases hr with h | h
  · exact hne (e.trans h)
  · have := h k e.symm; omega
theorem grown_alloc {w w1 : World} {r : Option Nat} (h1 : w.grownBy w1 r) (o : Obj) : w.grownBy (w1.alloc o) r :=
  ⟨h1.os, h1.tape, h1.output, by have := h1.size; simp; omega, fun k hk hne => (heap_alloc_old _ _ (Nat.lt_of_lt_of_le hk h1.size)).trans (h1.block k hk hne)⟩
theorem grown_below {w w1 : World} (h : Below w.heap.size w w1) (r : Option Nat) : w.grownBy w1 r := ⟨h.os, h.tape, h.output, h.size, fun k hk _ => h.block k hk⟩
theorem below_grown {w w0 w1 : World} {B bb : Nat} (h : Below B w w0) (hg : w0.grownBy w1 (some bb)) (hB : B ≤ w0.heap.size) (hb : B ≤ bb) : Below B w w1 := h.grown hg hB (fun k hk => by cases hk; exact hb)
theorem gcell {w0 wr : World} {bb : Nat} (hg : w0.grownBy wr (some bb)) {a : Addr} {v : Value} (h : w0.cell? a = some v) (hne : a.block ≠ bb) : wr.cell? a = some v := hg.cell h (by simpa using hne)
theorem unfrozen {w : World} {b o : Nat} {cs : Array Value} {t : TypeId} (h : w.heap[b]? = some (.cells cs t (0, 0))) : w.frozen? ⟨b, o, none⟩ = false := by simp [World.frozen?, h]
/-- A block that is not the row that was appended to. -/
theorem blk_far {wr w1 : World} {o ob : Obj} {b : Nat} {row : Option Nat} (h : wr.heap[b]? = some ob) (hg : (wr.alloc o).grownBy w1 row) (hne : row ≠ some b) : w1.heap[b]? = some ob := by
  have hlt := heap_lt h
  rw [hg.block b (by simp; omega) (fun e => hne e.symm), heap_alloc_old _ _ hlt]; exact h
end Go.Proofs.Ytenbclcfhjdcaaa.B
