/- The machine of values: objects are frozen, dropped, kept. -/
import Derived.Test.YtenbclcfhjdcaaaVMj
namespace Go.Proofs.Ytenbclcfhjdcaaa.VM
open Go AM
section
variable {P : Program} {prim : CallF} {K K' : Kn} {φ φ' : List Rz} {H H' H1 : Hp} {σ σ' : Heap} {v x y : V} {a b : Value} {n : Nat} {L E : List Nat} {e e' : Ev} {ea : Env}

mutual
/-- From the second to the first value, where the objects below n stay, those of L are kept behind them, behind those new empty rows (E: their sizes), and all others are frozen. -/
def Up (n : Nat) (L E : List Nat) (H1 : Hp) : V → V → Prop
  | .fsl k s rows, u => (∃ k0, u = .fsl k0 s rows ∧ (k = true → k0 = true)) ∨ (u = .lit (.slice none 0 0) ∧ rows.length = 0 ∧ s < 4294967296) ∨
      (∀ r ∈ rows, pureVs r = true) ∧ ∃ g w rows0, u = .own g w ∧ ((∃ rw t, H1[g]? = some (.vec w rows0 s rw t) ∧ n ≤ g ∧ g ∉ L ∧ UpR n L E H1 rows rows0) ∨ (H1[g]? = some (.fro w rows0 s) ∧ rows = rows0))
  | .fptr cs, u => u = .fptr cs ∨ (pureVs cs = true ∧ ∃ g o cells rw, u = .ptr g o ∧ H1[g]? = some (.mem cells rw) ∧ n ≤ g ∧ g ∉ L ∧ o ≤ cells.length ∧ Ups n L E H1 cs (cells.drop o))
  | .own g w, u => (g < n ∧ u = .own g w) ∨ (∃ g0, u = .own g0 w ∧ n ≤ g ∧ L[g - n]? = some g0) ∨ (n + L.length ≤ g ∧ g < n + L.length + E.length ∧ w = 0 ∧ u = .lit (.slice none 0 0))
  | .ptr g o, u => (g < n ∧ u = .ptr g o) ∨ (∃ g0, u = .ptr g0 o ∧ n ≤ g ∧ L[g - n]? = some g0)
  | .elt g w k o, u => (g < n ∧ u = .elt g w k o) ∨ (∃ g0, u = .elt g0 w k o ∧ n ≤ g ∧ L[g - n]? = some g0)
  | .lit v, u => u = .lit v
  | .junk, _ => True
  | .fn f fi cp, u => ∃ fi0 cp0, u = .fn f fi0 cp0 ∧ Ups n L E H1 fi fi0 ∧ Ups n L E H1 cp cp0
  | .ifc t v, u => ∃ v0, u = .ifc t v0 ∧ Up n L E H1 v v0
  | .agg cs, u => ∃ cs0, u = .agg cs0 ∧ Ups n L E H1 cs cs0
  | .tup cs, u => ∃ cs0, u = .tup cs0 ∧ Ups n L E H1 cs cs0
def Ups (n : Nat) (L E : List Nat) (H1 : Hp) : List V → List V → Prop
  | [], us => us = []
  | v :: vs, us => ∃ u us', us = u :: us' ∧ Up n L E H1 v u ∧ Ups n L E H1 vs us'
def UpR (n : Nat) (L E : List Nat) (H1 : Hp) : List (List V) → List (List V) → Prop
  | [], us => us = []
  | v :: vs, us => ∃ u us', us = u :: us' ∧ Ups n L E H1 v u ∧ UpR n L E H1 vs us'
end
def UpO (n : Nat) (L E : List Nat) (H1 : Hp) : Ob → Ob → Prop
  | .mem cells rw, .mem cells0 rw0 => rw = rw0 ∧ Ups n L E H1 cells cells0
  | .vec w rows s rw t, .vec w0 rows0 s0 rw0 t0 => w = w0 ∧ s = s0 ∧ rw = rw0 ∧ t = t0 ∧ RowsOk s rows ∧ UpR n L E H1 rows rows0
  | .fro w rows s, .fro w0 rows0 s0 => w = w0 ∧ s = s0 ∧ rows = rows0
  | _, _ => False
mutual
theorem Up.self : ∀ {v : V}, Bel n v → Up n L E H1 v v
  | .lit _, _ => rfl
  | .fsl k _ _, _ => .inl ⟨k, rfl, id⟩
  | .fptr _, _ => .inl rfl
  | .ptr _ _, h => .inl ⟨h, rfl⟩
  | .own _ _, h => .inl ⟨h, rfl⟩
  | .elt _ _ _ _, h => .inl ⟨h, rfl⟩
  | .junk, _ => trivial
  | .fn f fi cp, h => ⟨fi, cp, rfl, Ups.self h.1, Ups.self h.2⟩
  | .ifc t v, h => ⟨v, rfl, Up.self (v := v) h⟩
  | .agg cs, h => ⟨cs, rfl, Ups.self (v := cs) h⟩
  | .tup cs, h => ⟨cs, rfl, Ups.self (v := cs) h⟩
theorem Ups.self : ∀ {v : List V}, Bels n v → Ups n L E H1 v v
  | [], _ => rfl
  | v :: vs, h => ⟨v, vs, rfl, Up.self h.1, Ups.self h.2⟩
end
mutual
theorem pure_bel : ∀ {v : V}, pureV v = true → Bel n v
  | .lit _, _ => trivial
  | .fsl _ _ _, _ => trivial
  | .fptr _, _ => trivial
  | .ptr _ _, h => by cases h
  | .own _ _, h => by cases h
  | .elt _ _ _ _, h => by cases h
  | .junk, _ => trivial
  | .fn f fi cp, h => by
    simp only [pureV, Bool.and_eq_true] at h
    exact ⟨pures_bel h.1, pures_bel h.2⟩
  | .ifc t v, h => pure_bel (v := v) h
  | .agg cs, h => pures_bel (v := cs) h
  | .tup cs, h => pures_bel (v := cs) h
theorem pures_bel : ∀ {v : List V}, pureVs v = true → Bels n v
  | [], _ => trivial
  | v :: vs, h => by
    simp only [pureVs, Bool.and_eq_true] at h
    exact ⟨pure_bel h.1, pures_bel h.2⟩
end
theorem UpR.self : ∀ {v : List (List V)}, (∀ r ∈ v, pureVs r = true) → UpR n L E H1 v v
  | [], _ => rfl
  | v :: vs, h => ⟨v, vs, rfl, Ups.self (pures_bel (h v (by simp))), UpR.self fun r hr => h r (by simp [hr])⟩
theorem UpR.selfB : ∀ {v : List (List V)}, (∀ r ∈ v, Bels n r) → UpR n L E H1 v v
  | [], _ => rfl
  | v :: vs, h => ⟨v, vs, rfl, Ups.self (h v (by simp)), UpR.selfB fun r hr => h r (by simp [hr])⟩
/-- What the objects are afterwards. -/
def phi2 (n : Nat) (L E : List Nat) (φ : List Rz) : List Rz := φ.take n ++ L.map (fun g => φ.getD g (.mem 0)) ++ E.map (fun s => .vec (.slice none 0 0) 0 s)
/-- What is frozen afterwards. -/
noncomputable def kn2 (n : Nat) (L : List Nat) (K : Kn) (φ : List Rz) (σ : Heap) : Kn := fun b =>
  open Classical in if ∃ g r, φ[g]? = some r ∧ n ≤ g ∧ g ∉ L ∧ r.blk = some b then (match σ[b]? with | some x => if x.perm = .dead then none else some x.cells | none => none) else K b
theorem phi2_lt (hn : n ≤ φ.length) {g : Nat} (hg : g < n) : (phi2 n L E φ)[g]? = φ[g]? := by
  unfold phi2
  rw [List.append_assoc, List.getElem?_append_left (by simp; omega), List.getElem?_take, if_pos hg]
theorem phi2_keep (hn : n ≤ φ.length) {g g0 : Nat} {r : Rz} (hg : n ≤ g) (h : L[g - n]? = some g0) (hr : φ[g0]? = some r) : (phi2 n L E φ)[g]? = some r := by
  unfold phi2
  have hl := get_lt h
  have ht : (φ.take n).length = n := by simp; omega
  rw [List.append_assoc, List.getElem?_append_right (by omega), List.getElem?_append_left (by simp; omega), ht, List.getElem?_map, h]
  simp [List.getD_eq_getElem?_getD, hr]
theorem phi2_new (hn : n ≤ φ.length) {g s : Nat} (hg : n + L.length ≤ g) (h : E[g - (n + L.length)]? = some s) : (phi2 n L E φ)[g]? = some (.vec (.slice none 0 0) 0 s) := by
  unfold phi2
  rw [List.getElem?_append_right (by simp; omega), List.getElem?_map]
  have : g - (List.take n φ ++ List.map (fun g => φ.getD g (Rz.mem 0)) L).length = g - (n + L.length) := by simp; omega
  rw [this, h]; rfl
theorem phi2_len (hn : n ≤ φ.length) : (phi2 n L E φ).length = n + L.length + E.length := by unfold phi2; simp; omega
/-- Where an object afterwards comes from. -/
theorem phi2_get (hn : n ≤ φ.length) (hL : ∀ g ∈ L, n ≤ g ∧ g < φ.length) {g : Nat} {r : Rz} (h : (phi2 n L E φ)[g]? = some r) :
    (g < n ∧ φ[g]? = some r) ∨ (n ≤ g ∧ ∃ g0, L[g - n]? = some g0 ∧ φ[g0]? = some r) ∨ (n + L.length ≤ g ∧ ∃ s, E[g - (n + L.length)]? = some s ∧ r = .vec (.slice none 0 0) 0 s) := by
  by_cases h1 : g < n
  · rw [phi2_lt hn h1] at h; exact .inl ⟨h1, h⟩
  · by_cases h2 : g - n < L.length
    · obtain ⟨g0, hg0⟩ : ∃ g0, L[g - n]? = some g0 := ⟨_, List.getElem?_eq_getElem h2⟩
      have := hL g0 (List.mem_of_getElem? hg0)
      obtain ⟨r0, hr0⟩ : ∃ r0, φ[g0]? = some r0 := ⟨_, List.getElem?_eq_getElem this.2⟩
      rw [phi2_keep hn (by omega) hg0 hr0] at h
      cases h
      exact .inr (.inl ⟨by omega, g0, hg0, hr0⟩)
    · have hl := get_lt h
      rw [phi2_len hn] at hl
      obtain ⟨s, hs⟩ : ∃ s, E[g - (n + L.length)]? = some s := ⟨_, List.getElem?_eq_getElem (by omega)⟩
      rw [phi2_new hn (by omega) hs] at h
      cases h
      exact .inr (.inr ⟨by omega, s, hs, rfl⟩)
theorem kn2_le (hR : Rel K φ H1 σ) {b : Nat} {c : List Value} (h : K b = some c) : kn2 n L K φ σ b = some c := by
  unfold kn2
  split
  · rename_i hx
    obtain ⟨g, r, h1, _, _, h2⟩ := hx
    rw [hR.apart g r b h1 h2] at h; cases h
  · exact h
theorem kn2_drop (hR : Rel K φ H1 σ) {g b : Nat} {r : Rz} {x : Blk} (hr : φ[g]? = some r) (hg : n ≤ g) (hL : g ∉ L) (hb : r.blk = some b) (hx : σ[b]? = some x) (hp : x.perm ≠ .dead) : kn2 n L K φ σ b = some x.cells := by
  unfold kn2
  rw [if_pos ⟨g, r, hr, hg, hL, hb⟩, hx]
  simp [hp]
theorem permOk_alive {rw : Bool} {p : Perm} (h : permOk rw p) : p ≠ .dead := by
  unfold permOk at h
  cases rw <;> simp_all
set_option linter.unusedSectionVars false
variable (hR : Rel K φ H1 σ) (hn : n ≤ φ.length) (hL : ∀ g ∈ L, n ≤ g ∧ g < φ.length) (hE : ∀ s ∈ E, 0 < s ∧ s ≤ 1048576)
include hR hn hL hE
mutual
theorem Up.sound : ∀ {v u : V} {a : Value}, Up n L E H1 v u → VR K u φ a → VR (kn2 n L K φ σ) v (phi2 n L E φ) a
  | .lit v, u, a, h, hv => by simp only [Up] at h; subst h; exact hv
  | .junk, _, _, _, _ => trivial
  | .fsl k s rows, u, a, h, hv => by
    have hpost : Post 0 K φ (kn2 n L K φ σ) (phi2 n L E φ) := ⟨fun b c h => kn2_le hR h, fun g r hg => by omega⟩
    simp only [Up] at h
    rcases h with ⟨k0, h, hkk⟩ | ⟨h, h0, h1⟩ | ⟨hpu, g, w, rows0, h, hq⟩
    · subst h
      have hv2 : VR (kn2 n L K φ σ) (.fsl k0 s rows) (phi2 n L E φ) a := hv.mono hpost trivial
      obtain ⟨A, c, v1, v2, v3, v4⟩ := hv2
      exact ⟨A, c, v1, v2, fun h => v3 (hkk h), v4⟩
    · subst h
      obtain ⟨rfl, _⟩ := hv
      refine ⟨none, 0, by rw [h0], fun _ => rfl, (fun _ => by simp [AM.dng]), ?_, h1, .inl ⟨h0, rfl⟩⟩
      rw [h0]; unfold capOK; rw [capOf_exact_eq (by decide)]; exact Nat.le_refl _
    · subst h
      obtain ⟨r, val, w', s', g1, g2, g3, g4, _⟩ := hv
      rcases hq with ⟨rw, t, h1, h2, h3, h4⟩ | ⟨h1, h2⟩
      · have hob := hR.ob g _ r h1 g1
        cases r with
        | mem _ => exact hob.elim
        | fro _ _ _ => exact hob.elim
        | vec val1 w1 s1 =>
          cases g2
          obtain ⟨f1, f2, f3, f4, f5, f6⟩ := hob
          subst f1; subst f2
          rw [g4 rfl]
          rcases f6 with ⟨f6, f7⟩ | ⟨b, c, vals, rest, p, f6, f7, f8, f9, f10⟩
          · have e0 : rows0 = [] := List.eq_nil_of_length_eq_zero f6
            subst e0
            have : rows = [] := by
              cases rows with
              | nil => rfl
              | cons r rs => simp only [UpR] at h4; obtain ⟨_, _, e, _⟩ := h4; cases e
            subst this
            have hcap : capOK 0 s 0 := by unfold capOK; rw [capOf_exact_eq (by decide)]; exact Nat.le_refl _
            rcases f7 with f7 | ⟨b, o, cells, f7, f8, f9⟩
            · subst f7; exact ⟨none, 0, rfl, fun _ => rfl, (fun _ => by simp [AM.dng]), hcap, by omega, .inl ⟨rfl, rfl⟩⟩
            · subst f7; exact ⟨_, 0, rfl, (fun e => by cases e), (fun _ => by simp [AM.dng]), hcap, by omega, .inr ⟨b, o, cells, rfl, kn2_le hR f8, by simpa using f9, by simp [RowsR]⟩⟩
          · obtain ⟨hrows, hl⟩ := UpR.sound h4 f10
            have hpr := hrows.pure hpu
            have hvl := hrows.len
            have hk := kn2_drop (L := L) hR g1 h2 h3 (vec_blk f6 f7) f8 (permOk_alive f9)
            subst f6
            refine ⟨_, c, by rw [hl], (fun e => by cases e), (fun _ => f7.dng), ?_, by omega, .inr ⟨b, 0, _, rfl, hk, ?_, ?_⟩⟩
            · rw [hl]; exact f7.ok
            · simp; omega
            · rw [List.drop_zero, ← hvl, List.take_left]
              exact hpr
      · subst h2
        have hob := hR.ob g _ r h1 g1
        cases r with
        | mem _ => exact hob.elim
        | vec _ _ _ => exact hob.elim
        | fro val1 w1 s1 =>
          cases g2
          obtain ⟨f1, f2, f3⟩ := hob
          subst f1; subst f2
          rw [g4 rfl]
          have hv2 : VR (kn2 n L K φ σ) (.fsl true s rows) (phi2 n L E φ) val := f3.monoN (n := 0) ⟨hpost.kn, fun g r hg => by omega⟩
          obtain ⟨A, c, v1, v2, v3, v4⟩ := hv2
          exact ⟨A, c, v1, v2, fun _ => v3 rfl, v4⟩
  | .fptr cs, u, a, h, hv => by
    have hpost : Post 0 K φ (kn2 n L K φ σ) (phi2 n L E φ) := ⟨fun b c h => kn2_le hR h, fun g r hg => by omega⟩
    simp only [Up] at h
    rcases h with h | ⟨hpu, g, o, cells, rw, h, h1, h2, h3, h4, h5⟩
    · subst h; exact hv.mono hpost trivial
    · subst h
      obtain ⟨b, g1, g2⟩ := hv
      obtain ⟨vals, p, f1, f2, f3⟩ := hR.ob g _ _ h1 g1
      have hs := Ups.sound h5 (f3.drop o)
      have hk := kn2_drop (L := L) hR g1 h2 h3 rfl f1 (permOk_alive f2)
      have hl := hs.len
      rw [List.length_drop] at hl
      have hl2 := f3.len
      refine ⟨b, o, _, g2, hk, by simp only; omega, ?_⟩
      simp only
      rw [← hl, ← List.length_drop, List.take_length]
      exact hs.pure hpu
  | .own g w, u, a, h, hv => by
    simp only [Up] at h
    rcases h with ⟨h1, h2⟩ | ⟨g0, h1, h2, h3⟩ | ⟨h1, h2, h3, h4⟩
    · subst h2
      obtain ⟨r, val, w', s', g1, g2⟩ := hv
      exact ⟨r, val, w', s', by rw [phi2_lt hn h1]; exact g1, g2⟩
    · subst h1
      obtain ⟨r, val, w', s', g1, g2⟩ := hv
      exact ⟨r, val, w', s', phi2_keep hn h2 h3 g1, g2⟩
    · subst h3; subst h4
      obtain ⟨rfl, _⟩ := hv
      obtain ⟨s, hs⟩ : ∃ s, E[g - (n + L.length)]? = some s := ⟨_, List.getElem?_eq_getElem (by omega)⟩
      exact ⟨_, _, 0, s, phi2_new hn h1 hs, rfl, Nat.le_refl _, fun _ => rfl, _, _, _, rfl⟩
  | .ptr g o, u, a, h, hv => by
    simp only [Up] at h
    rcases h with ⟨h1, h2⟩ | ⟨g0, h1, h2, h3⟩
    · subst h2
      obtain ⟨b, g1, g2⟩ := hv
      exact ⟨b, by rw [phi2_lt hn h1]; exact g1, g2⟩
    · subst h1
      obtain ⟨b, g1, g2⟩ := hv
      exact ⟨b, phi2_keep hn h2 h3 g1, g2⟩
  | .elt g w k o, u, a, h, hv => by
    simp only [Up] at h
    rcases h with ⟨h1, h2⟩ | ⟨g0, h1, h2, h3⟩
    · subst h2
      obtain ⟨r, val, w', s', g1, g2⟩ := hv
      exact ⟨r, val, w', s', by rw [phi2_lt hn h1]; exact g1, g2⟩
    · subst h1
      obtain ⟨r, val, w', s', g1, g2⟩ := hv
      exact ⟨r, val, w', s', phi2_keep hn h2 h3 g1, g2⟩
  | .fn f fi cp, u, a, h, hv => by
    simp only [Up] at h
    obtain ⟨fi0, cp0, rfl, h1, h2⟩ := h
    obtain ⟨fa, ca, e1, e2, e3⟩ := hv
    exact ⟨fa, ca, e1, Ups.sound h1 e2, Ups.sound h2 e3⟩
  | .ifc t v, u, a, h, hv => by
    simp only [Up] at h
    obtain ⟨v0, rfl, h1⟩ := h
    obtain ⟨x, e1, e2⟩ := hv
    exact ⟨x, e1, Up.sound h1 e2⟩
  | .agg cs, u, a, h, hv => by
    simp only [Up] at h
    obtain ⟨v0, rfl, h1⟩ := h
    obtain ⟨x, e1, e2⟩ := hv
    exact ⟨x, e1, Ups.sound h1 e2⟩
  | .tup cs, u, a, h, hv => by
    simp only [Up] at h
    obtain ⟨v0, rfl, h1⟩ := h
    obtain ⟨x, e1, e2⟩ := hv
    exact ⟨x, e1, Ups.sound h1 e2⟩
theorem Ups.sound : ∀ {v u : List V} {a : List Value}, Ups n L E H1 v u → VRs K u φ a → VRs (kn2 n L K φ σ) v (phi2 n L E φ) a
  | [], u, a, h, hv => by simp only [Ups] at h; subst h; exact hv
  | v :: vs, u, a, h, hv => by
    simp only [Ups] at h
    obtain ⟨u0, us, rfl, h1, h2⟩ := h
    obtain ⟨a0, as, e1, e2, e3⟩ := hv
    exact ⟨a0, as, e1, Up.sound h1 e2, Ups.sound h2 e3⟩
theorem UpR.sound : ∀ {s : Nat} {v u : List (List V)} {a : List Value}, UpR n L E H1 v u → RowsR K s u φ a → RowsR (kn2 n L K φ σ) s v (phi2 n L E φ) a ∧ v.length = u.length
  | s, [], u, a, h, hv => by simp only [UpR] at h; subst h; exact ⟨hv, rfl⟩
  | s, v :: vs, u, a, h, hv => by
    simp only [UpR] at h
    obtain ⟨u0, us, rfl, h1, h2⟩ := h
    obtain ⟨a0, as, e1, e2, e3, e4⟩ := hv
    obtain ⟨f1, f2⟩ := UpR.sound h2 e4
    have h3 := Ups.sound h1 e3
    have l1 := h3.len
    have l2 := e3.len
    exact ⟨⟨a0, as, e1, by omega, h3, f1⟩, by simp [f2]⟩
end
end
end Go.Proofs.Ytenbclcfhjdcaaa.VM
