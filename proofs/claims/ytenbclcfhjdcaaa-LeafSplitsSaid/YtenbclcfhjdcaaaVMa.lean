/- A machine of values beside the abstract machine: frozen slices are lists, memory is what may still change. Definitions and the relation. -/
import Derived.Test.YtenbclcfhjdcaaaAMz
namespace Go.Proofs.Ytenbclcfhjdcaaa.VM
open Go AM

/-- Values: plain ones; frozen slices (rows of cells) and pointers into frozen memory; pointers to objects, slices of one's own (object, version), pointers to their elements. -/
inductive V where
  | lit (v : Value)
  | fsl (k : Bool) (s : Nat) (rows : List (List V))
  | fptr (cells : List V)
  | ptr (g o : Nat)
  | own (g w : Nat)
  | elt (g w k o : Nat)
  | fn (f : FuncId) (fi cp : List V)
  | ifc (t : TypeId) (v : V)
  | agg (cs : List V)
  | tup (vs : List V)
  | junk
/-- Objects: cells; rows that are one's own; rows that were frozen. -/
inductive Ob where
  | mem (cells : List V) (rw : Bool)
  | vec (w : Nat) (rows : List (List V)) (s : Nat) (rw t : Bool)
  | fro (w : Nat) (rows : List (List V)) (s : Nat)
abbrev Hp := List Ob
abbrev Ev := Nat → V
/-- What is frozen. -/
abbrev Kn := Nat → Option (List Value)
/-- What an object is in the abstract machine. -/
inductive Rz where
  | mem (b : Nat)
  | vec (val : Value) (w s : Nat)
  | fro (val : Value) (w s : Nat)
def Rz.at_ : Rz → Option (Value × Nat × Nat)
  | .mem _ => none
  | .vec v w s => some (v, w, s)
  | .fro v w s => some (v, w, s)
def capOK (c s n : Nat) : Prop := match capOf c with
  | .exact C => n ≤ C
  | .unk es lb => es = s ∧ n ≤ lb
  | .dng => n = 0

mutual
/-- A value here, one there. -/
def VR (K : Kn) : V → List Rz → Value → Prop
  | .lit v, _, a => a = v ∧ scalarB v = true
  | .fsl k s rows, _, a => ∃ A c, a = .slice A rows.length c ∧ (A = none → c = 0) ∧ (k = true → c < AM.dng) ∧ capOK c s rows.length ∧ s < 4294967296 ∧
      (rows.length = 0 ∧ A = none ∨ ∃ b o cells, A = some ⟨b, o, none⟩ ∧ K b = some cells ∧ o + rows.length * s ≤ cells.length ∧ RowsR K s rows [] ((cells.drop o).take (rows.length * s)))
  | .fptr cs, _, a => ∃ b o cells, a = .pointer (some ⟨b, o, none⟩) ∧ K b = some cells ∧ o + cs.length ≤ cells.length ∧ VRs K cs [] ((cells.drop o).take cs.length)
  | .ptr g o, φ, a => ∃ b, φ[g]? = some (.mem b) ∧ a = .pointer (some ⟨b, o, none⟩)
  | .own g w, φ, a => ∃ r val w' s, φ[g]? = some r ∧ r.at_ = some (val, w', s) ∧ w ≤ w' ∧ (w' = w → a = val) ∧ ∃ A n c, a = .slice A n c
  | .elt g w k o, φ, a => ∃ r val w' s, φ[g]? = some r ∧ r.at_ = some (val, w', s) ∧ w ≤ w' ∧ (w' = w → ∃ b oo n c, val = .slice (some ⟨b, oo, none⟩) n c ∧ a = .pointer (some ⟨b, oo + k * s + o, none⟩)) ∧ ∃ x, a = .pointer (some x)
  | .fn f fi cp, φ, a => ∃ fa ca, a = .func (.func f) fa ca ∧ VRs K fi φ fa.toList ∧ VRs K cp φ ca.toList
  | .ifc t v, φ, a => ∃ x, a = .iface t x ∧ VR K v φ x
  | .agg cs, φ, a => ∃ xs, a = .agg xs ∧ VRs K cs φ xs.toList
  | .tup vs, φ, a => ∃ xs, a = .tuple xs ∧ VRs K vs φ xs.toList
  | .junk, _, _ => True
def VRs (K : Kn) : List V → List Rz → List Value → Prop
  | [], _, l => l = []
  | v :: vs, φ, l => ∃ a as, l = a :: as ∧ VR K v φ a ∧ VRs K vs φ as
def RowsR (K : Kn) (s : Nat) : List (List V) → List Rz → List Value → Prop
  | [], _, l => l = []
  | r :: rs, φ, l => ∃ a as, l = a ++ as ∧ r.length = s ∧ VRs K r φ a ∧ RowsR K s rs φ as
end

mutual
/-- It names objects below n alone. -/
def Bel (n : Nat) : V → Prop
  | .lit _ | .fsl _ _ _ | .fptr _ | .junk => True
  | .ptr g _ | .own g _ | .elt g _ _ _ => g < n
  | .fn _ fi cp => Bels n fi ∧ Bels n cp
  | .ifc _ v => Bel n v
  | .agg cs | .tup cs => Bels n cs
def Bels (n : Nat) : List V → Prop
  | [] => True
  | v :: vs => Bel n v ∧ Bels n vs
end
def RzLe : Rz → Rz → Prop
  | .mem b, .mem b' => b = b'
  | .vec v w s, .vec v' w' s' => s = s' ∧ w ≤ w' ∧ (w = w' → v = v')
  | .vec v w s, .fro v' w' s' => s = s' ∧ w ≤ w' ∧ (w = w' → v = v')
  | .fro v w s, .fro v' w' s' => s = s' ∧ w = w' ∧ v = v'
  | _, _ => False
/-- What was known is known; the first n objects are still there. -/
structure Post (n : Nat) (K : Kn) (φ : List Rz) (K' : Kn) (φ' : List Rz) : Prop where
  kn : ∀ b c, K b = some c → K' b = some c
  rz : ∀ (g : Nat) r, g < n → φ[g]? = some r → ∃ r', φ'[g]? = some r' ∧ RzLe r r'
theorem RzLe.refl (r : Rz) : RzLe r r := by cases r <;> simp [RzLe]
theorem RzLe.trans {a b c : Rz} (h1 : RzLe a b) (h2 : RzLe b c) : RzLe a c := by
  cases a <;> cases b <;> simp only [RzLe] at h1 <;> cases c <;> simp only [RzLe] at h2 ⊢
  · exact h1.trans h2
  · exact ⟨h1.1.trans h2.1, by omega, fun h => (h1.2.2 (by omega)).trans (h2.2.2 (by omega))⟩
  · exact ⟨h1.1.trans h2.1, by omega, fun h => (h1.2.2 (by omega)).trans (h2.2.2 (by omega))⟩
  · exact ⟨h1.1.trans h2.1, by omega, fun h => (h1.2.2 (by omega)).trans h2.2.2⟩
  · exact ⟨h1.1.trans h2.1, by omega, h1.2.2.trans h2.2.2⟩
theorem Post.refl (n : Nat) (K : Kn) (φ : List Rz) : Post n K φ K φ := ⟨fun _ _ h => h, fun _ r _ h => ⟨r, h, .refl r⟩⟩
theorem Post.trans {n m : Nat} {K K1 K2 : Kn} {φ φ1 φ2 : List Rz} (h1 : Post n K φ K1 φ1) (h2 : Post m K1 φ1 K2 φ2) (hnm : n ≤ m) : Post n K φ K2 φ2 :=
  ⟨fun b c h => h2.kn b c (h1.kn b c h), fun g r hg h => by
    obtain ⟨r1, e1, l1⟩ := h1.rz g r hg h
    obtain ⟨r2, e2, l2⟩ := h2.rz g r1 (by omega) e1
    exact ⟨r2, e2, l1.trans l2⟩⟩
theorem Post.weaken {n m : Nat} {K K1 : Kn} {φ φ1 : List Rz} (h : Post n K φ K1 φ1) (hm : m ≤ n) : Post m K φ K1 φ1 := ⟨h.kn, fun g r hg => h.rz g r (by omega)⟩
theorem RzLe.at_ {r r' : Rz} {v : Value} {w s : Nat} (h : RzLe r r') (hr : r.at_ = some (v, w, s)) : ∃ v' w', r'.at_ = some (v', w', s) ∧ w ≤ w' ∧ (w' = w → v' = v) := by
  cases r <;> cases r' <;> simp only [RzLe] at h <;> simp only [Rz.at_] at hr ⊢ <;> cases hr
  all_goals
    obtain ⟨h1, h2, h3⟩ := h
    subst h1
  · exact ⟨_, _, rfl, h2, fun e => (h3 e.symm).symm⟩
  · exact ⟨_, _, rfl, h2, fun e => (h3 e.symm).symm⟩
  · exact ⟨_, _, rfl, by omega, fun _ => h3.symm⟩
mutual
theorem VR.mono {n : Nat} {K K' : Kn} {φ φ' : List Rz} (hp : Post n K φ K' φ') : ∀ {v : V} {a : Value}, VR K v φ a → Bel n v → VR K' v φ' a
  | .lit v, a, h, _ => h
  | .fsl k s rows, a, ⟨A, c, h1, h2, h0, h3, h3', h4⟩, _ => ⟨A, c, h1, h2, h0, h3, h3', h4.imp id fun ⟨b, o, cells, e1, e2, e3, e4⟩ => ⟨b, o, cells, e1, hp.kn _ _ e2, e3, RowsR.monoN (n := 0) ⟨hp.kn, fun g r hg => by omega⟩ e4⟩⟩
  | .fptr cs, a, ⟨b, o, cells, e1, e2, e3, e4⟩, _ => ⟨b, o, cells, e1, hp.kn _ _ e2, e3, VRs.monoN (n := 0) ⟨hp.kn, fun g r hg => by omega⟩ e4⟩
  | .ptr g o, a, ⟨b, h1, h2⟩, hb => by
    obtain ⟨r', e1, e2⟩ := hp.rz g _ (by simpa [Bel] using hb) h1
    cases r' <;> simp only [RzLe] at e2
    subst e2
    exact ⟨_, e1, h2⟩
  | .own g w, a, ⟨r, val, w', s, h1, h2, h3, h4, h5⟩, hb => by
    obtain ⟨r', e1, e2⟩ := hp.rz g _ (by simpa [Bel] using hb) h1
    obtain ⟨v', w2, f1, f2, f3⟩ := e2.at_ h2
    exact ⟨r', v', w2, s, e1, f1, by omega, fun e => by rw [h4 (by omega), f3 (by omega)], h5⟩
  | .elt g w k o, a, ⟨r, val, w', s, h1, h2, h3, h4, h5⟩, hb => by
    obtain ⟨r', e1, e2⟩ := hp.rz g _ (by simpa [Bel] using hb) h1
    obtain ⟨v', w2, f1, f2, f3⟩ := e2.at_ h2
    exact ⟨r', v', w2, s, e1, f1, by omega, fun e => by rw [f3 (by omega)]; exact h4 (by omega), h5⟩
  | .fn f fi cp, a, ⟨fa, ca, h1, h2, h3⟩, hb => ⟨fa, ca, h1, VRs.mono hp h2 (by simp only [Bel] at hb; exact hb.1), VRs.mono hp h3 (by simp only [Bel] at hb; exact hb.2)⟩
  | .ifc t v, a, ⟨x, h1, h2⟩, hb => ⟨x, h1, VR.mono hp h2 (by simpa only [Bel] using hb)⟩
  | .agg cs, a, ⟨x, h1, h2⟩, hb => ⟨x, h1, VRs.mono hp h2 (by simpa only [Bel] using hb)⟩
  | .tup cs, a, ⟨x, h1, h2⟩, hb => ⟨x, h1, VRs.mono hp h2 (by simpa only [Bel] using hb)⟩
  | .junk, _, _, _ => trivial
theorem VRs.mono {n : Nat} {K K' : Kn} {φ φ' : List Rz} (hp : Post n K φ K' φ') : ∀ {v : List V} {a : List Value}, VRs K v φ a → Bels n v → VRs K' v φ' a
  | [], _, h, _ => h
  | v :: vs, _, ⟨a, as, h1, h2, h3⟩, hb => ⟨a, as, h1, VR.mono hp h2 (by simp only [Bels] at hb; exact hb.1), VRs.mono hp h3 (by simp only [Bels] at hb; exact hb.2)⟩
theorem VR.monoN {n : Nat} {K K' : Kn} {φ' : List Rz} (hp : Post n K [] K' φ') : ∀ {v : V} {a : Value}, VR K v [] a → VR K' v φ' a
  | .lit v, a, h => h
  | .fsl k s rows, a, ⟨A, c, h1, h2, h0, h3, h3', h4⟩ => ⟨A, c, h1, h2, h0, h3, h3', h4.imp id fun ⟨b, o, cells, e1, e2, e3, e4⟩ => ⟨b, o, cells, e1, hp.kn _ _ e2, e3, RowsR.monoN (n := 0) ⟨hp.kn, fun g r hg => by omega⟩ e4⟩⟩
  | .fptr cs, a, ⟨b, o, cells, e1, e2, e3, e4⟩ => ⟨b, o, cells, e1, hp.kn _ _ e2, e3, VRs.monoN (n := 0) ⟨hp.kn, fun g r hg => by omega⟩ e4⟩
  | .ptr g o, a, ⟨b, h1, h2⟩ => by simp at h1
  | .own g w, a, ⟨r, val, w', s, h1, h2, h3, h4⟩ => by simp at h1
  | .elt g w k o, a, ⟨r, val, w', s, h1, h2, h3, h4⟩ => by simp at h1
  | .fn f fi cp, a, ⟨fa, ca, h1, h2, h3⟩ => ⟨fa, ca, h1, VRs.monoN hp h2, VRs.monoN hp h3⟩
  | .ifc t v, a, ⟨x, h1, h2⟩ => ⟨x, h1, VR.monoN hp h2⟩
  | .agg cs, a, ⟨x, h1, h2⟩ => ⟨x, h1, VRs.monoN hp h2⟩
  | .tup cs, a, ⟨x, h1, h2⟩ => ⟨x, h1, VRs.monoN hp h2⟩
  | .junk, _, _ => trivial
theorem VRs.monoN {n : Nat} {K K' : Kn} {φ' : List Rz} (hp : Post n K [] K' φ') : ∀ {v : List V} {a : List Value}, VRs K v [] a → VRs K' v φ' a
  | [], _, h => h
  | v :: vs, _, ⟨a, as, h1, h2, h3⟩ => ⟨a, as, h1, VR.monoN hp h2, VRs.monoN hp h3⟩
theorem RowsR.monoN {n s : Nat} {K K' : Kn} {φ' : List Rz} (hp : Post n K [] K' φ') : ∀ {v : List (List V)} {a : List Value}, RowsR K s v [] a → RowsR K' s v φ' a
  | [], _, h => h
  | v :: vs, _, ⟨a, as, h1, h2, h3, h4⟩ => ⟨a, as, h1, h2, VRs.monoN hp h3, RowsR.monoN hp h4⟩
end
mutual
theorem VR.bel {K : Kn} {φ : List Rz} : ∀ {v : V} {a : Value}, VR K v φ a → Bel φ.length v
  | .lit v, a, h => trivial
  | .fsl _ _ rows, a, _ => trivial
  | .fptr cs, a, _ => trivial
  | .ptr g o, a, ⟨b, h1, h2⟩ => get_lt h1
  | .own g w, a, ⟨r, val, w', s, h1, h2, h3, h4⟩ => get_lt h1
  | .elt g w k o, a, ⟨r, val, w', s, h1, h2, h3, h4⟩ => get_lt h1
  | .fn f fi cp, a, ⟨fa, ca, h1, h2, h3⟩ => ⟨VRs.bel h2, VRs.bel h3⟩
  | .ifc t v, a, ⟨x, h1, h2⟩ => VR.bel (v := v) h2
  | .agg cs, a, ⟨x, h1, h2⟩ => VRs.bel (v := cs) h2
  | .tup cs, a, ⟨x, h1, h2⟩ => VRs.bel (v := cs) h2
  | .junk, _, _ => trivial
theorem VRs.bel {K : Kn} {φ : List Rz} : ∀ {v : List V} {a : List Value}, VRs K v φ a → Bels φ.length v
  | [], _, h => trivial
  | v :: vs, _, ⟨a, as, h1, h2, h3⟩ => ⟨VR.bel h2, VRs.bel h3⟩
end
/-- Onward. -/
theorem VR.on {K K' : Kn} {φ φ' : List Rz} {v : V} {a : Value} (h : VR K v φ a) (hp : Post φ.length K φ K' φ') : VR K' v φ' a := h.mono hp h.bel
theorem VRs.on {K K' : Kn} {φ φ' : List Rz} {v : List V} {a : List Value} (h : VRs K v φ a) (hp : Post φ.length K φ K' φ') : VRs K' v φ' a := h.mono hp h.bel
theorem RowsR.mono {n s : Nat} {K K' : Kn} {φ φ' : List Rz} (hp : Post n K φ K' φ') : ∀ {v : List (List V)} {a : List Value}, RowsR K s v φ a → (∀ r ∈ v, Bels n r) → RowsR K' s v φ' a
  | [], _, h, _ => h
  | v :: vs, _, ⟨a, as, h1, h2, h3, h4⟩, hb => ⟨a, as, h1, h2, h3.mono hp (hb v (by simp)), h4.mono hp fun r hr => hb r (by simp [hr])⟩
theorem RowsR.bel {s : Nat} {K : Kn} {φ : List Rz} : ∀ {v : List (List V)} {a : List Value}, RowsR K s v φ a → ∀ r ∈ v, Bels φ.length r
  | [], _, h, r, hr => by simp at hr
  | v :: vs, _, ⟨a, as, h1, h2, h3, h4⟩, r, hr => by
    rcases List.mem_cons.1 hr with rfl | hr
    · exact h3.bel
    · exact h4.bel r hr
theorem RowsR.on {s : Nat} {K K' : Kn} {φ φ' : List Rz} {v : List (List V)} {a : List Value} (h : RowsR K s v φ a) (hp : Post φ.length K φ K' φ') : RowsR K' s v φ' a := h.mono hp h.bel

theorem VRs.len {K : Kn} {φ : List Rz} : ∀ {v : List V} {a : List Value}, VRs K v φ a → a.length = v.length
  | [], _, h => by simp only [VRs] at h; subst h; rfl
  | v :: vs, _, ⟨a, as, h1, h2, h3⟩ => by subst h1; simp [h3.len]
theorem VRs.get {K : Kn} {φ : List Rz} : ∀ {v : List V} {a : List Value}, VRs K v φ a → ∀ {i : Nat} {x : V}, v[i]? = some x → ∃ y, a[i]? = some y ∧ VR K x φ y
  | [], _, h, i, x, hx => by simp at hx
  | v :: vs, _, ⟨a, as, h1, h2, h3⟩, 0, x, hx => by subst h1; simp at hx; subst hx; exact ⟨a, rfl, h2⟩
  | v :: vs, _, ⟨a, as, h1, h2, h3⟩, i + 1, x, hx => by subst h1; simpa using h3.get (i := i) (by simpa using hx)
theorem VRs.of {K : Kn} {φ : List Rz} : ∀ {v : List V} {a : List Value}, a.length = v.length → (∀ (i : Nat) x y, v[i]? = some x → a[i]? = some y → VR K x φ y) → VRs K v φ a
  | [], [], _, _ => rfl
  | [], _ :: _, h, _ => by simp at h
  | _ :: _, [], h, _ => by simp at h
  | v :: vs, a :: as, h, hg => ⟨a, as, rfl, hg 0 v a rfl rfl, VRs.of (by simpa using h) fun i x y h1 h2 => hg (i + 1) x y (by simpa using h1) (by simpa using h2)⟩
theorem VRs.take {K : Kn} {φ : List Rz} {v : List V} {a : List Value} (h : VRs K v φ a) (n : Nat) : VRs K (v.take n) φ (a.take n) :=
  .of (by simp [h.len]) fun i x y h1 h2 => by
    rw [List.getElem?_take] at h1 h2
    split at h1
    · rename_i hi
      rw [if_pos hi] at h2
      obtain ⟨z, e1, e2⟩ := h.get h1
      rw [e1] at h2; cases h2; exact e2
    · cases h1
theorem VRs.drop {K : Kn} {φ : List Rz} {v : List V} {a : List Value} (h : VRs K v φ a) (n : Nat) : VRs K (v.drop n) φ (a.drop n) :=
  .of (by simp [h.len]) fun i x y h1 h2 => by
    rw [List.getElem?_drop] at h1 h2
    obtain ⟨z, e1, e2⟩ := h.get h1
    rw [e1] at h2; cases h2; exact e2
theorem VRs.append {K : Kn} {φ : List Rz} : ∀ {v w : List V} {a b : List Value}, VRs K v φ a → VRs K w φ b → VRs K (v ++ w) φ (a ++ b)
  | [], _, _, _, h, h' => by simp only [VRs] at h; subst h; exact h'
  | v :: vs, _, _, _, ⟨a, as, h1, h2, h3⟩, h' => by subst h1; exact ⟨a, as ++ _, rfl, h2, h3.append h'⟩
def spl (cs : List V) (o : Nat) (vs : List V) : List V := cs.take o ++ vs ++ cs.drop (o + vs.length)
theorem VRs.splice {K : Kn} {φ : List Rz} {v w : List V} {a b : List Value} {o : Nat} (h : VRs K v φ a) (h' : VRs K w φ b) : VRs K (spl v o w) φ (AM.splice a o b) := by
  unfold spl AM.splice
  rw [h'.len]
  exact ((h.take o).append h').append (h.drop _)
theorem VRs.lits {K : Kn} {φ : List Rz} : ∀ {l : List Value}, (∀ x ∈ l, scalarB x = true) → VRs K (l.map .lit) φ l
  | [], _ => rfl
  | x :: l, h => ⟨x, l, rfl, ⟨rfl, h x (by simp)⟩, VRs.lits fun y hy => h y (by simp [hy])⟩
/-- Which cells a value has. -/
def V.cells : V → List V
  | .agg cs => cs
  | v => [v]
def V.isCell : V → Bool
  | .junk | .agg _ | .tup _ => false
  | .lit v => cellB v
  | _ => true
theorem VR.cell {K : Kn} {φ : List Rz} {v : V} {a : Value} (h : VR K v φ a) (hv : v.isCell = true) : cellB a = true ∧ a.cells = #[a] := by
  cases v with
  | agg cs => cases hv
  | junk => cases hv
  | tup vs => cases hv
  | lit v =>
    obtain ⟨rfl, hs⟩ := h
    refine ⟨hv, ?_⟩
    cases a <;> simp [scalarB] at hs <;> rfl
  | fsl k s rows => obtain ⟨A, c, rfl, _⟩ := h; exact ⟨rfl, rfl⟩
  | fptr rows => obtain ⟨A, c, s, rfl, _⟩ := h; exact ⟨rfl, rfl⟩
  | ptr rows => obtain ⟨A, c, rfl⟩ := h; exact ⟨rfl, rfl⟩
  | own g w => obtain ⟨_, _, _, _, _, _, _, _, _, _, _, rfl⟩ := h; exact ⟨rfl, rfl⟩
  | elt g w k o => obtain ⟨_, _, _, _, _, _, _, _, _, rfl⟩ := h; exact ⟨rfl, rfl⟩
  | fn f fi cp => obtain ⟨A, c, rfl, _⟩ := h; exact ⟨rfl, rfl⟩
  | ifc t v => obtain ⟨A, rfl, _⟩ := h; exact ⟨rfl, rfl⟩
theorem VRs.cells {K : Kn} {φ : List Rz} : ∀ {v : List V} {a : List Value}, VRs K v φ a → v.all V.isCell = true → a.all cellB = true
  | [], _, h, _ => by simp only [VRs] at h; subst h; rfl
  | v :: vs, _, ⟨a, as, h1, h2, h3⟩, hv => by
    subst h1
    simp only [List.all_cons, Bool.and_eq_true] at hv ⊢
    exact ⟨(h2.cell hv.1).1, h3.cells hv.2⟩
theorem VR.cells {K : Kn} {φ : List Rz} {v : V} {a : Value} (h : VR K v φ a) (hv : v.cells.all V.isCell = true) : VRs K v.cells φ a.cells.toList ∧ a.cells.toList.all cellB = true := by
  have key : VRs K v.cells φ a.cells.toList := by
    cases v with
    | agg cs => obtain ⟨xs, rfl, h2⟩ := h; exact h2
    | _ =>
      rw [(h.cell (by simpa [V.cells] using hv)).2]
      exact ⟨a, [], rfl, h, rfl⟩
  exact ⟨key, key.cells hv⟩
/-- The abstract machine's block of an object. -/
def Rz.blk : Rz → Option Nat
  | .mem b => some b
  | .vec (.slice (some ⟨b, _, _⟩) _ (_ + 1)) _ _ => some b
  | _ => none
/-- Rows of s cells each, that may stand in memory. -/
def RowsOk (s : Nat) (xs : List (List V)) : Prop := ∀ r ∈ xs, r.length = s ∧ r.all V.isCell = true
instance {s : Nat} {xs : List (List V)} : Decidable (RowsOk s xs) := List.decidableBAll ..
theorem RowsOk.append {s : Nat} {xs ys : List (List V)} (h1 : RowsOk s xs) (h2 : RowsOk s ys) : RowsOk s (xs ++ ys) := fun r hr => (List.mem_append.1 hr).elim (h1 r) (h2 r)
def permOk (rw : Bool) (p : Perm) : Prop := if rw then p = .full else p ≠ .dead
/-- An empty slice without room. -/
def Emp (K : Kn) (val : Value) : Prop := val = .slice none 0 0 ∨ ∃ b o cells, val = .slice (some ⟨b, o, none⟩) 0 0 ∧ K b = some cells ∧ o ≤ cells.length
theorem Emp.mono {K K' : Kn} {val : Value} (h : Emp K val) (hk : ∀ b c, K b = some c → K' b = some c) : Emp K' val := h.imp id fun ⟨b, o, cells, h1, h2, h3⟩ => ⟨b, o, cells, h1, hk _ _ h2, h3⟩
/-- Room for C elements; t: no more than there are. -/
def CapV (t : Bool) (c s n total : Nat) : Prop := c ≠ 0 ∧ ∃ C, n ≤ C ∧ C * s ≤ total ∧ (t = true → C = n) ∧ (capOf c = .exact C ∨ capOf c = .unk s C)
theorem CapV.ok {t : Bool} {c s n total : Nat} (h : CapV t c s n total) : capOK c s n := by
  obtain ⟨_, C, h1, _, _, h2 | h2⟩ := h <;> unfold capOK <;> rw [h2]
  · exact h1
  · exact ⟨rfl, h1⟩
def ObR (K : Kn) (φ : List Rz) (σ : Heap) : Ob → Rz → Prop
  | .mem cells rw, .mem b => ∃ vals p, σ[b]? = some ⟨vals, p⟩ ∧ permOk rw p ∧ VRs K cells φ vals
  | .vec w rows s rw t, .vec val w' s' => w = w' ∧ s = s' ∧ 0 < s ∧ s ≤ 1048576 ∧ RowsOk s rows ∧ ((rows.length = 0 ∧ Emp K val) ∨
      ∃ b c vals rest p, val = .slice (some ⟨b, 0, none⟩) rows.length c ∧ CapV t c s rows.length (vals ++ rest).length ∧ σ[b]? = some ⟨vals ++ rest, p⟩ ∧ permOk rw p ∧ RowsR K s rows φ vals)
  | .fro w rows s, .fro val w' s' => w = w' ∧ s = s' ∧ VR K (.fsl true s rows) [] val
  | _, _ => False
/-- A state here, one there. -/
structure Rel (K : Kn) (φ : List Rz) (H : Hp) (σ : Heap) : Prop where
  len : φ.length = H.length
  kn : ∀ b cells, K b = some cells → ∃ p, σ[b]? = some ⟨cells, p⟩ ∧ p ≠ .dead
  ob : ∀ (g : Nat) x r, H[g]? = some x → φ[g]? = some r → ObR K φ σ x r
  inj : ∀ (g g' : Nat) r r' b, φ[g]? = some r → φ[g']? = some r' → r.blk = some b → r'.blk = some b → g = g'
  apart : ∀ (g : Nat) r b, φ[g]? = some r → r.blk = some b → K b = none
def EvR (K : Kn) (φ : List Rz) (e : Ev) (ea : Env) : Prop := ∀ t, VR K (e t) φ (ea t)
theorem EvR.on {K K' : Kn} {φ φ' : List Rz} {e : Ev} {ea : Env} (h : EvR K φ e ea) (hp : Post φ.length K φ K' φ') : EvR K' φ' e ea := fun t => (h t).on hp
theorem RowsR.len {s : Nat} {K : Kn} {φ : List Rz} : ∀ {v : List (List V)} {a : List Value}, RowsR K s v φ a → a.length = v.length * s
  | [], _, h => by simp only [RowsR] at h; subst h; simp
  | v :: vs, _, ⟨a, as, h1, h2, h3, h4⟩ => by subst h1; rw [List.length_append, h3.len, h2, h4.len, List.length_cons, Nat.add_mul]; omega
theorem RowsR.rowLen {s : Nat} {K : Kn} {φ : List Rz} : ∀ {v : List (List V)} {a : List Value}, RowsR K s v φ a → ∀ r ∈ v, r.length = s
  | [], _, h, r, hr => by simp at hr
  | v :: vs, _, ⟨a, as, h1, h2, h3, h4⟩, r, hr => by
    rcases List.mem_cons.1 hr with rfl | hr
    · exact h2
    · exact h4.rowLen r hr
theorem RowsR.append {s : Nat} {K : Kn} {φ : List Rz} : ∀ {v w : List (List V)} {a b : List Value}, RowsR K s v φ a → RowsR K s w φ b → RowsR K s (v ++ w) φ (a ++ b)
  | [], _, _, _, h, h' => by simp only [RowsR] at h; subst h; exact h'
  | v :: vs, _, _, _, ⟨a, as, h1, h2, h3, h4⟩, h' => by subst h1; exact ⟨a, as ++ _, by simp, h2, h3, h4.append h'⟩
theorem RowsR.get {s : Nat} {K : Kn} {φ : List Rz} : ∀ {v : List (List V)} {a : List Value}, RowsR K s v φ a → ∀ {i : Nat} {x : List V}, v[i]? = some x → VRs K x φ ((a.drop (i * s)).take s)
  | [], _, h, i, x, hx => by simp at hx
  | v :: vs, _, ⟨a, as, h1, h2, h3, h4⟩, 0, x, hx => by
    subst h1; simp at hx; subst hx
    have := h3.len
    rw [h2] at this
    simp [← this]; exact h3
  | v :: vs, _, ⟨a, as, h1, h2, h3, h4⟩, i + 1, x, hx => by
    subst h1
    have := h3.len
    rw [h2] at this
    rw [Nat.add_mul, Nat.one_mul, Nat.add_comm, ← List.drop_drop, ← this, List.drop_left, this]
    exact h4.get (by simpa using hx)
theorem RowsR.takeR {s : Nat} {K : Kn} {φ : List Rz} : ∀ {v : List (List V)} {a : List Value}, RowsR K s v φ a → ∀ n, n ≤ v.length → RowsR K s (v.take n) φ (a.take (n * s))
  | [], _, h, n, hn => by simp only [RowsR] at h; subst h; simp at hn; subst hn; simp [RowsR]
  | v :: vs, _, _, 0, _ => by simp [RowsR]
  | v :: vs, _, ⟨a, as, h1, h2, h3, h4⟩, n + 1, hn => by
    subst h1
    have := h3.len
    rw [h2] at this
    refine ⟨a, as.take (n * s), ?_, h2, h3, h4.takeR n (by simp at hn; omega)⟩
    rw [Nat.add_mul, Nat.one_mul, ← this, List.take_append, List.take_of_length_le (by omega)]
    congr 2
    omega
theorem RowsR.dropR {s : Nat} {K : Kn} {φ : List Rz} : ∀ {v : List (List V)} {a : List Value}, RowsR K s v φ a → ∀ n, n ≤ v.length → RowsR K s (v.drop n) φ (a.drop (n * s))
  | [], _, h, n, hn => by simp only [RowsR] at h; subst h; simp [RowsR]
  | v :: vs, _, h, 0, _ => by simpa using h
  | v :: vs, _, ⟨a, as, h1, h2, h3, h4⟩, n + 1, hn => by
    subst h1
    have := h3.len
    rw [h2] at this
    have e : (n + 1) * s = a.length + n * s := by rw [Nat.add_mul, this]; omega
    rw [e, List.drop_length_add_append]
    exact h4.dropR n (by simp at hn; omega)
theorem RowsR.set {s : Nat} {K : Kn} {φ : List Rz} : ∀ {v : List (List V)} {a : List Value}, RowsR K s v φ a → ∀ {k : Nat} {r : List V} {x : List Value}, k < v.length → r.length = s → VRs K r φ x → RowsR K s (v.set k r) φ (AM.splice a (k * s) x)
  | [], _, h, k, r, x, hk, _, _ => by simp at hk
  | v :: vs, _, ⟨a, as, h1, h2, h3, h4⟩, 0, r, x, _, hr, hx => by
    subst h1
    have h5 := h3.len
    have h6 := hx.len
    rw [h2] at h5
    refine ⟨x, as, ?_, hr, hx, h4⟩
    unfold AM.splice
    simp [h6, hr, ← h5]
  | v :: vs, _, ⟨a, as, h1, h2, h3, h4⟩, k + 1, r, x, hk, hr, hx => by
    subst h1
    have h5 := h3.len
    rw [h2] at h5
    refine ⟨a, AM.splice as (k * s) x, ?_, h2, h3, h4.set (by simpa using hk) hr hx⟩
    unfold AM.splice
    have e : (k + 1) * s = a.length + k * s := by rw [Nat.add_mul, h5]; omega
    rw [e, List.take_length_add_append, Nat.add_assoc, List.drop_length_add_append]
    simp
end Go.Proofs.Ytenbclcfhjdcaaa.VM
