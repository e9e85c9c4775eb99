/- Reading and writing for simp; slices that read as lists. -/
import Derived.Test.YtenbclcfhjdcaaaAMx
namespace Go.Proofs.Ytenbclcfhjdcaaa.AM
open Go
section
variable {P : Program} {prim : CallF} {σ σ' τ : Heap} {v v' : Value}

def placesOf (P : Program) (t : TypeId) : Option (List (Nat × Nat)) := match P.underlying t with
  | some (.struct fields) => List.mapM (fun f => Option.map (fun i => (f.offset, i.size)) (P.info? f.type)) fields.toList
  | _ => none
theorem buildV_struct {t : TypeId} {zs : Array Value} {pl : List (Nat × Nat)} {ps : Array (Nat × Value)} (hz : zeroOf P t = some (.agg zs)) (hf : flatB (.agg zs) = true) (hp : placesOf P t = some pl) :
    buildV P t ps = if (ps.all fun (_, x) => !junkB x) = true then (Instr.fill (fun x => pl.toArray[x]?) zs ps.toList).map fun cs => .agg cs else none := by
  unfold buildV
  rw [hz]
  unfold placesOf at hp
  split at hp
  · rename_i fs hu
    unfold zeroOf at hz
    cases hi : P.info? t with
    | none => rw [hi] at hz; cases hz
    | some it =>
      rw [hi] at hz
      simp only [Option.bind_some] at hz
      simp only [hf, true_and, Program.built, hi, hu, hz, hp, Value.cells]
  · cases hp

/-- n cells of a block from place o on. -/
def readB (b : Option Blk) (o n : Nat) : Option (List Value) := match b with
  | some b => if b.perm ≠ .dead ∧ o + n ≤ b.cells.length then some ((b.cells.drop o).take n) else none
  | none => none
@[simp] theorem readN_eq {l o n : Nat} : readN σ ⟨l, o, none⟩ n = readB σ[l]? o n := by
  unfold readN readB
  cases σ[l]? <;> rfl
@[simp] theorem readB_full {cs : List Value} {o n : Nat} : readB (some ⟨cs, .full⟩) o n = if o + n ≤ cs.length then some ((cs.drop o).take n) else none := by simp [readB]
def writeB (b : Option Blk) (o : Nat) (vs : List Value) : Option Blk := match b with
  | some b => if b.perm = .full ∧ o + vs.length ≤ b.cells.length ∧ vs.all cellB = true then some ⟨splice b.cells o vs, .full⟩ else none
  | none => none
@[simp] theorem writeN_eq {l o : Nat} {vs : List Value} : writeN σ ⟨l, o, none⟩ vs = (writeB σ[l]? o vs).map fun b => σ.set l b := by
  unfold writeN writeB
  cases σ[l]? with
  | none => rfl
  | some b => dsimp only; split <;> rfl
@[simp] theorem writeB_full {cs : List Value} {o : Nat} {vs : List Value} : writeB (some ⟨cs, .full⟩) o vs = if o + vs.length ≤ cs.length ∧ vs.all cellB = true then some ⟨splice cs o vs, .full⟩ else none := by simp [writeB]
@[simp] theorem readB_lock {l o n : Nat} : readB (lock σ)[l]? o n = readB σ[l]? o n := by
  rw [lock_get]
  cases σ[l]? with
  | none => rfl
  | some b =>
    obtain ⟨cs, p⟩ := b
    cases p <;> simp [readB]
theorem readB_app {l o n : Nat} {vs : List Value} (h : readB σ[l]? o n = some vs) : readB (σ ++ τ)[l]? o n = some vs := by
  cases hl : σ[l]? with
  | none => rw [hl] at h; cases h
  | some b => rw [List.getElem?_append_left (get_lt hl)]; exact h
theorem readB_part {b : Option Blk} {o n : Nat} {vs : List Value} (h : readB b o n = some vs) {i m : Nat} (hm : i + m ≤ n) : readB b (o + i) m = some ((vs.drop i).take m) := by
  unfold readB at h ⊢
  cases b with
  | none => cases h
  | some b =>
    dsimp only at h ⊢
    split at h
    · rename_i hc
      cases h
      rw [if_pos ⟨hc.1, by omega⟩]
      congr 1
      rw [List.drop_take, List.drop_drop, List.take_take]
      congr 1
      omega
    · cases h
theorem readB_len {b : Option Blk} {o n : Nat} {vs : List Value} (h : readB b o n = some vs) : vs.length = n := by
  unfold readB at h
  cases b with
  | none => cases h
  | some b =>
    dsimp only at h
    split at h
    · cases h; simp; omega
    · cases h

/-- The value is a slice that reads as the list; each element is s cells. -/
structure Rows (σ : Heap) (v : Value) (s : Nat) (l : List (List Value)) : Prop where
  val : ∃ A c, v = .slice A l.length c ∧ (A = none → c = 0) ∧ (l ≠ [] → c < dng)
  cell : ∀ x ∈ l, x.length = s
  at_ : l ≠ [] → ∃ g o c, v = .slice (some ⟨g, o, none⟩) l.length c ∧ readB σ[g]? o (l.length * s) = some l.flatten
theorem Rows.app {s : Nat} {l : List (List Value)} (h : Rows σ v s l) (τ : Heap) : Rows (σ ++ τ) v s l :=
  ⟨h.val, h.cell, fun hn => by obtain ⟨g, o, c, h1, h2⟩ := h.at_ hn; exact ⟨g, o, c, h1, readB_app h2⟩⟩
theorem Rows.lock {s : Nat} {l : List (List Value)} (h : Rows σ v s l) : Rows (lock σ) v s l :=
  ⟨h.val, h.cell, fun hn => by obtain ⟨g, o, c, h1, h2⟩ := h.at_ hn; exact ⟨g, o, c, h1, by rw [readB_lock]; exact h2⟩⟩
theorem flatten_len {s : Nat} : ∀ {l : List (List Value)}, (∀ x ∈ l, x.length = s) → l.flatten.length = l.length * s
  | [], _ => by simp
  | x :: l, h => by
    rw [List.flatten_cons, List.length_append, flatten_len fun y hy => h y (by simp [hy]), h x (by simp), List.length_cons, Nat.add_mul]; omega
theorem flatten_at {s : Nat} : ∀ {l : List (List Value)}, (∀ x ∈ l, x.length = s) → ∀ {k : Nat} {x : List Value}, l[k]? = some x → (l.flatten.drop (k * s)).take s = x
  | [], _, k, x, hx => by simp at hx
  | y :: l, h, 0, x, hx => by
    simp at hx
    subst hx
    have := h y (by simp)
    simp [List.take_append, ← this]
  | y :: l, h, k + 1, x, hx => by
    have hy := h y (by simp)
    have ih := flatten_at (l := l) (fun z hz => h z (by simp [hz])) (k := k) (x := x) (by simpa using hx)
    rw [List.flatten_cons, Nat.add_mul, Nat.one_mul, Nat.add_comm, ← List.drop_drop, ← hy, List.drop_left, hy]
    exact ih
/-- Element k, cells from j on. -/
theorem Rows.read {s : Nat} {l : List (List Value)} (h : Rows σ v s l) {g o n c : Nat} (hv : v = .slice (some ⟨g, o, none⟩) n c) {k : Nat} {x : List Value} (hx : l[k]? = some x) {j m : Nat} (hj : j + m ≤ s) :
    readB σ[g]? (o + k * s + j) m = some ((x.drop j).take m) := by
  have hk := get_lt hx
  obtain ⟨g', o', c', h1, h2⟩ := h.at_ (by intro e; rw [e] at hk; simp at hk)
  rw [h1] at hv
  cases hv
  have hks : k * s + s ≤ l.length * s := by
    rw [← Nat.succ_mul]; exact Nat.mul_le_mul_right _ hk
  have := readB_part h2 (i := k * s + j) (m := m) (by omega)
  rw [Nat.add_assoc, this]
  congr 1
  have hf := flatten_at h.cell hx
  rw [← List.drop_drop, ← hf]
  rw [List.drop_take, List.take_take]
  congr 1
  omega
theorem Rows.nil {s : Nat} : Rows σ (.slice none 0 0) s [] := ⟨⟨none, 0, rfl, fun _ => rfl, fun h => absurd rfl h⟩, by simp, fun h => absurd rfl h⟩
/-- A block of its own, just told. -/
theorem Rows.of {s : Nat} {l : List (List Value)} {g c : Nat} {x : Blk} (hg : σ[g]? = some x) (hp : x.perm ≠ .dead) (hx : x.cells.take (l.length * s) = l.flatten) (hc : ∀ y ∈ l, y.length = s) (hcap : c < dng) : Rows σ (.slice (some ⟨g, 0, none⟩) l.length c) s l := by
  refine ⟨⟨_, _, rfl, fun h => (by cases h), fun _ => hcap⟩, hc, fun _ => ⟨g, 0, c, rfl, ?_⟩⟩
  have hl := flatten_len hc
  rw [hg]
  unfold readB
  have : l.length * s ≤ x.cells.length := by
    rw [← hl, ← hx]; simp; omega
  simp [hp, this, hx]
end
end Go.Proofs.Ytenbclcfhjdcaaa.AM
