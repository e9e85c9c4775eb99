/- The abstract machine's memory and the model's: what they have to do with each other. -/
import Derived.Test.YtenbclcfhjdcaaaAMa
namespace Go.Proofs.Ytenbclcfhjdcaaa.AM
open Go

/-- Which block of the model's an abstract one is, and how many cells that has. -/
abbrev Mu := Nat → Option (Nat × Nat)
/-- An abstract value, and what stands for it. -/
inductive Val (μ : Mu) : Value → Value → Prop
  | junk (r : Nat) (v : Value) : Val μ (.chan (some r)) v
  | scal {v : Value} (h : scalarB v = true) : Val μ v v
  | ptr {l b o N : Nat} (h : μ l = some (b, N)) : Val μ (.pointer (some ⟨l, o, none⟩)) (.pointer (some ⟨b, o, none⟩))
  | sl {l b o n c N : Nat} (h : μ l = some (b, N)) (hc : c < top) : Val μ (.slice (some ⟨l, o, none⟩) n c) (.slice (some ⟨b, o, none⟩) n c)
  | slu {l b o n s lb c' N : Nat} (h : μ l = some (b, N)) (h0 : lb ≤ maxLen) (h1 : lb ≤ c') (h2 : n ≤ c') (h3 : c' ≤ maxLen) (h4 : o + c' * s ≤ N) (hs : s ≤ 1048576) : Val μ (.slice (some ⟨l, o, none⟩) n (unk s lb)) (.slice (some ⟨b, o, none⟩) n c')
  | sld {a a' : Addr} {c c' : Nat} (hc : dng ≤ c) : Val μ (.slice (some a) 0 c) (.slice (some a') 0 c')
  | func {f : FuncId} {a a' b b' : Array Value} (ha : a'.size = a.size) (hb : b'.size = b.size) (h1 : ∀ (i : Nat) (v v' : Value), a[i]? = some v → a'[i]? = some v' → Val μ v v')
      (h2 : ∀ (i : Nat) (v v' : Value), b[i]? = some v → b'[i]? = some v' → Val μ v v') : Val μ (.func (.func f) a b) (.func (.func f) a' b')
  | iface {t : TypeId} {v v' : Value} (h : Val μ v v') : Val μ (.iface t v) (.iface t v')
  | agg {a a' : Array Value} (ha : a'.size = a.size) (h1 : ∀ (i : Nat) (v v' : Value), a[i]? = some v → a'[i]? = some v' → Val μ v v') : Val μ (.agg a) (.agg a')
  | tup {a a' : Array Value} (ha : a'.size = a.size) (h1 : ∀ (i : Nat) (v v' : Value), a[i]? = some v → a'[i]? = some v' → Val μ v v') : Val μ (.tuple a) (.tuple a')

theorem Val.mono {μ μ' : Mu} (h : ∀ l b, μ l = some b → μ' l = some b) {v v' : Value} (hv : Val μ v v') : Val μ' v v' := by
  induction hv with
  | junk r v => exact .junk r v
  | scal h => exact .scal h
  | ptr h1 => exact .ptr (h _ _ h1)
  | sl h1 h2 => exact .sl (h _ _ h1) h2
  | slu h1 h2 h3 h4 h5 h6 h7 => exact .slu (h _ _ h1) h2 h3 h4 h5 h6 h7
  | sld h => exact .sld h
  | func h1 h2 _ _ i1 i2 => exact .func h1 h2 i1 i2
  | iface _ i => exact .iface i
  | agg h1 _ i => exact .agg h1 i
  | tup h1 _ i => exact .tup h1 i
theorem Val.undef {μ : Mu} : Val μ Go.undef Go.undef := .tup rfl (fun i v v' h => by simp at h)

/-- Two lists of values. -/
def ValL (μ : Mu) (l l' : List Value) : Prop := l'.length = l.length ∧ ∀ (i : Nat) (v v' : Value), l[i]? = some v → l'[i]? = some v' → Val μ v v'
theorem ValL.mono {μ μ' : Mu} (h : ∀ l b, μ l = some b → μ' l = some b) {l l' : List Value} (hv : ValL μ l l') : ValL μ' l l' :=
  ⟨hv.1, fun i v v' h1 h2 => (hv.2 i v v' h1 h2).mono h⟩
theorem ValL.nil {μ : Mu} : ValL μ [] [] := ⟨rfl, fun i v v' h => by simp at h⟩
theorem ValL.one {μ : Mu} {v v' : Value} (h : Val μ v v') : ValL μ [v] [v'] := ⟨rfl, fun i u u' h1 h2 => by
  cases i with
  | zero => simp at h1 h2; subst h1; subst h2; exact h
  | succ i => simp at h1⟩
theorem ValL.append {μ : Mu} {a a' b b' : List Value} (h1 : ValL μ a a') (h2 : ValL μ b b') : ValL μ (a ++ b) (a' ++ b') := by
  refine ⟨by simp [h1.1, h2.1], fun i v v' e1 e2 => ?_⟩
  rcases Nat.lt_or_ge i a.length with h | h
  · rw [List.getElem?_append_left h] at e1
    rw [List.getElem?_append_left (by rw [h1.1]; exact h)] at e2
    exact h1.2 _ _ _ e1 e2
  · rw [List.getElem?_append_right h] at e1
    rw [List.getElem?_append_right (by rw [h1.1]; exact h), h1.1] at e2
    exact h2.2 _ _ _ e1 e2
theorem ValL.take {μ : Mu} {a a' : List Value} (h1 : ValL μ a a') (n : Nat) : ValL μ (a.take n) (a'.take n) := by
  refine ⟨by simp [h1.1], fun i v v' e1 e2 => ?_⟩
  rw [List.getElem?_take] at e1 e2
  split at e1
  · rename_i hlt; rw [if_pos hlt] at e2; exact h1.2 _ _ _ e1 e2
  · cases e1
theorem ValL.drop {μ : Mu} {a a' : List Value} (h1 : ValL μ a a') (n : Nat) : ValL μ (a.drop n) (a'.drop n) := by
  refine ⟨by simp [h1.1], fun i v v' e1 e2 => ?_⟩
  rw [List.getElem?_drop] at e1 e2
  exact h1.2 _ _ _ e1 e2
theorem ValL.get {μ : Mu} {a a' : List Value} (h1 : ValL μ a a') {i : Nat} {v : Value} (h : a[i]? = some v) : ∃ v', a'[i]? = some v' ∧ Val μ v v' := by
  have hlt : i < a'.length := by rw [h1.1]; exact (List.getElem?_eq_some_iff.1 h).1
  exact ⟨_, List.getElem?_eq_getElem hlt, h1.2 _ _ _ h (List.getElem?_eq_getElem hlt)⟩
theorem ValL.get' {μ : Mu} {a a' : List Value} (h1 : ValL μ a a') {i : Nat} {v' : Value} (h : a'[i]? = some v') : ∃ v, a[i]? = some v ∧ Val μ v v' := by
  have hlt : i < a.length := by rw [← h1.1]; exact (List.getElem?_eq_some_iff.1 h).1
  exact ⟨_, List.getElem?_eq_getElem hlt, h1.2 _ _ _ (List.getElem?_eq_getElem hlt) h⟩
theorem Val.aggL {μ : Mu} {a a' : Array Value} (h : ValL μ a.toList a'.toList) : Val μ (.agg a) (.agg a') :=
  .agg (by simpa using h.1) (fun i v v' e1 e2 => h.2 i v v' (by simpa using e1) (by simpa using e2))
theorem ValL.ofA {μ : Mu} {a a' : Array Value} (ha : a'.size = a.size) (h1 : ∀ (i : Nat) (v v' : Value), a[i]? = some v → a'[i]? = some v' → Val μ v v') : ValL μ a.toList a'.toList :=
  ⟨by simpa using ha, fun i v v' e1 e2 => h1 i v v' (by simpa using e1) (by simpa using e2)⟩

theorem scalar_val {μ : Mu} {v v' : Value} (h : scalarB v = true) (hv : Val μ v v') : v' = v := by
  cases hv <;> first | rfl | simp [scalarB] at h
theorem allScalar_val {μ : Mu} {a a' : Array Value} (h : a.all scalarB = true) (ha : a'.size = a.size) (h1 : ∀ (i : Nat) (v v' : Value), a[i]? = some v → a'[i]? = some v' → Val μ v v') : a' = a := by
  apply Array.ext ha
  intro i hi1 hi2
  have hs : scalarB a[i] = true := by
    rw [Array.all_eq_true] at h; exact h i hi2
  exact scalar_val hs (h1 i _ _ (by simp [hi2]) (by simp [hi1]))
theorem flat_val {μ : Mu} {v v' : Value} (h : flatB v = true) (hv : Val μ v v') : v' = v := by
  cases hv with
  | scal _ => rfl
  | agg ha h1 => rw [allScalar_val h ha h1]
  | tup ha h1 => rw [allScalar_val h ha h1]
  | iface h1 => rw [scalar_val h h1]
  | _ => simp [flatB, scalarB] at h
theorem val_flat {μ : Mu} {v : Value} (h : flatB v = true) : Val μ v v := by
  have key : ∀ a : Array Value, a.all scalarB = true → ∀ (i : Nat) (v v' : Value), a[i]? = some v → a[i]? = some v' → Val μ v v' := by
    intro a ha i v v' e1 e2
    rw [e1] at e2; cases e2
    obtain ⟨hi, rfl⟩ := Array.getElem?_eq_some_iff.1 e1
    rw [Array.all_eq_true] at ha
    exact .scal (ha i hi)
  cases v with
  | agg a => exact .agg rfl (key a h)
  | tuple a => exact .tup rfl (key a h)
  | iface t v => exact .iface (.scal h)
  | _ => exact .scal h

/-- May no cell of the block be written over? -/
def frOk (c : Array Value) (fr : Nat × Nat) : Prop := fr.1 = fr.2 ∨ c.size ≤ fr.1
/-- The cells of an abstract block stand at the head of a block of the model's. -/
def Holds (μ : Mu) (x : Blk) (N : Nat) (o : Option Obj) : Prop :=
  ∃ c elem fr, o = some (.cells c elem fr) ∧ c.size = N ∧ (x.perm = .full → frOk c fr) ∧ ∀ (j : Nat) v, x.cells[j]? = some v → ∃ v', c[j]? = some v' ∧ Val μ v v'
def alive (σ : Heap) (l : Nat) : Prop := ∃ x : Blk, σ[l]? = some x ∧ x.perm ≠ .dead
def isFull (σ : Heap) (l : Nat) : Prop := ∃ x : Blk, σ[l]? = some x ∧ x.perm = .full
theorem isFull.alive {σ : Heap} {l : Nat} (h : isFull σ l) : alive σ l := by
  obtain ⟨x, h1, h2⟩ := h; exact ⟨x, h1, by rw [h2]; simp⟩
structure Sim (μ : Mu) (σ : Heap) (h : Array Obj) : Prop where
  lt : ∀ l b N, μ l = some (b, N) → b < h.size
  inj : ∀ l1 l2 b N1 N2, l1 ≠ l2 → μ l1 = some (b, N1) → μ l2 = some (b, N2) → isFull σ l1 → (alive σ l2 ∨ σ.length ≤ l2) → False
  blk : ∀ (l b N : Nat) (x : Blk), μ l = some (b, N) → σ[l]? = some x → x.perm ≠ .dead → Holds μ x N h[b]?
/-- The model's block b bears the same cells. -/
def SameB (h h' : Array Obj) (b : Nat) : Prop := ∀ c elem fr, h[b]? = some (.cells c elem fr) → ∃ fr', h'[b]? = some (.cells c elem fr') ∧ (frOk c fr → frOk c fr')
theorem SameB.of_eq {h h' : Array Obj} {b : Nat} (e : h'[b]? = h[b]?) : SameB h h' b := fun c elem fr hc => ⟨fr, e.trans hc, id⟩
/-- Abstract memory grows, permissions are lost, what may only be read stays. -/
structure Le (σ σ' : Heap) : Prop where
  len : σ.length ≤ σ'.length
  blk : ∀ (l : Nat) (x : Blk), σ[l]? = some x → ∃ x' : Blk, σ'[l]? = some x' ∧ (x'.perm = .full → x.perm = .full) ∧ (x.perm = .ro → x' = x) ∧ (x.perm = .dead → x'.perm = .dead)
theorem Le.refl (σ : Heap) : Le σ σ := ⟨Nat.le_refl _, fun l x h => ⟨x, h, id, fun _ => rfl, id⟩⟩
theorem Le.trans {a b c : Heap} (h1 : Le a b) (h2 : Le b c) : Le a c := by
  refine ⟨Nat.le_trans h1.len h2.len, fun l x h => ?_⟩
  obtain ⟨y, hy, y1, y2, y3⟩ := h1.blk l x h
  obtain ⟨z, hz, z1, z2, z3⟩ := h2.blk l y hy
  refine ⟨z, hz, fun e => y1 (z1 e), fun e => ?_, fun e => z3 (y3 e)⟩
  rw [y2 e] at z2
  exact z2 e
theorem get_lt {α : Type} {l : List α} {i : Nat} {x : α} (h : l[i]? = some x) : i < l.length := (List.getElem?_eq_some_iff.1 h).1
theorem Le.full {σ σ' : Heap} (h : Le σ σ') {l : Nat} (hl : l < σ.length) (hf : isFull σ' l) : isFull σ l := by
  obtain ⟨x, h1, h2⟩ := hf
  obtain ⟨y, hy, y1, _⟩ := h.blk l _ (List.getElem?_eq_getElem hl)
  rw [h1] at hy; cases hy
  exact ⟨_, List.getElem?_eq_getElem hl, y1 h2⟩
theorem Le.alive {σ σ' : Heap} (h : Le σ σ') {l : Nat} (hl : l < σ.length) (hf : alive σ' l) : alive σ l := by
  obtain ⟨x, h1, h2⟩ := hf
  obtain ⟨y, hy, _, _, y3⟩ := h.blk l _ (List.getElem?_eq_getElem hl)
  rw [h1] at hy; cases hy
  exact ⟨_, List.getElem?_eq_getElem hl, fun e => h2 (y3 e)⟩
/-- What becomes of the model's world. q: nothing that stands is written over. -/
structure Fr (q : Bool) (μ : Mu) (σ : Heap) (w : World) (μ' : Mu) (σ' : Heap) (w' : World) : Prop where
  ext : ∀ l b, μ l = some b → μ' l = some b
  new : ∀ l b N, μ' l = some (b, N) → μ l = some (b, N) ∨ (σ.length ≤ l ∧ l < σ'.length ∧ (w.heap.size ≤ b ∨ ∃ l0, μ l0 = some (b, N) ∧ isFull σ l0 ∧ ¬ alive σ' l0))
  keep : ∀ b, b < w.heap.size → (∀ l N, μ l = some (b, N) → isFull σ l → False) → w'.heap[b]? = w.heap[b]?
  keepQ : q = true → ∀ l b N, μ l = some (b, N) → alive σ' l → SameB w.heap w'.heap b
  size : w.heap.size ≤ w'.heap.size
  os : w'.os = w.os
  tape : w'.tape = w.tape
  output : w'.output = w.output
theorem Fr.refl (q : Bool) (μ : Mu) (σ : Heap) (w : World) : Fr q μ σ w μ σ w :=
  ⟨fun _ _ h => h, fun _ _ _ h => .inl h, fun _ _ _ => rfl, fun _ _ _ _ _ _ => .of_eq rfl, Nat.le_refl _, rfl, rfl, rfl⟩
theorem Fr.trans {μ μ1 μ2 : Mu} {σ σ1 σ2 : Heap} {w w1 w2 : World} (hU : ∀ l, σ.length ≤ l → l < σ1.length → μ l = none) (l1 : Le σ σ1) (l2 : Le σ1 σ2) (h1 : Fr false μ σ w μ1 σ1 w1) (h2 : Fr false μ1 σ1 w1 μ2 σ2 w2) : Fr false μ σ w μ2 σ2 w2 := by
  have old : ∀ l b, μ l = some b → isFull σ1 l → l < σ.length := fun l b h hf => by
    obtain ⟨x, hx, _⟩ := hf
    rcases Nat.lt_or_ge l σ.length with h1 | h1
    · exact h1
    · rw [hU l h1 (get_lt hx)] at h; cases h
  have dead : ∀ l, isFull σ l → ¬ alive σ1 l → ¬ alive σ2 l := fun l hf hn ha => by
    obtain ⟨x, hx, _⟩ := hf
    exact hn (l2.alive (Nat.lt_of_lt_of_le (get_lt hx) l1.len) ha)
  refine ⟨fun l b h => h2.ext l b (h1.ext l b h), fun l b N h => ?_, fun b hb hn => ?_, fun h => (by cases h), Nat.le_trans h1.size h2.size, h2.os.trans h1.os, h2.tape.trans h1.tape, h2.output.trans h1.output⟩
  · rcases h2.new l b N h with h | ⟨a1, a2, h⟩
    · rcases h1.new l b N h with h | ⟨b1, b2, h⟩
      · exact .inl h
      · refine .inr ⟨b1, Nat.lt_of_lt_of_le b2 l2.len, ?_⟩
        rcases h with h | ⟨l0, c1, c2, c3⟩
        · exact .inl h
        · exact .inr ⟨l0, c1, c2, dead l0 c2 c3⟩
    · refine .inr ⟨Nat.le_trans l1.len a1, a2, ?_⟩
      rcases h with h | ⟨l0, c1, c2, c3⟩
      · exact .inl (Nat.le_trans h1.size h)
      · rcases h1.new l0 b N c1 with h | ⟨b1, b2, h⟩
        · exact .inr ⟨l0, h, l1.full (old l0 _ h c2) c2, c3⟩
        · rcases h with h | ⟨l00, d1, d2, d3⟩
          · exact .inl h
          · exact .inr ⟨l00, d1, d2, dead l00 d2 d3⟩
  · rw [h2.keep b (Nat.lt_of_lt_of_le hb h1.size) ?_, h1.keep b hb hn]
    intro l N hl hf
    rcases h1.new l b N hl with h | ⟨b1, b2, h⟩
    · exact hn l N h (l1.full (old l _ h hf) hf)
    · rcases h with h | ⟨l0, c1, c2, _⟩
      · omega
      · exact hn l0 N c1 c2
end Go.Proofs.Ytenbclcfhjdcaaa.AM
