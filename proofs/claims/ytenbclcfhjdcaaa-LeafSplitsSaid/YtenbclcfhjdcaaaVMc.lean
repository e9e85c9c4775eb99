/- The machine of values: operations. -/
import Derived.Test.YtenbclcfhjdcaaaVMb
namespace Go.Proofs.Ytenbclcfhjdcaaa.VM
open Go AM
section
variable {P : Program} {K K' : Kn} {φ φ' : List Rz} {H H' : Hp} {σ σ' : Heap} {v x : V} {a : Value} {q : Bool} {ρ : Operand → Value}
variable {dst : Option Tmp} {type : TypeId} {pos : String} {after : Array Edge} {guard : Option (Nat × Bool)}

theorem set_self {α : Type} {l : List α} {i : Nat} {x : α} (h : l[i]? = some x) : l.set i x = l := by
  apply List.ext_getElem?
  intro j
  by_cases e : i = j
  · subst e; rw [List.getElem?_set_self (get_lt h), h]
  · rw [List.getElem?_set_ne e]
theorem splice_left (A L vs : List Value) (o : Nat) : AM.splice (A ++ L) (A.length + o) vs = A ++ AM.splice L o vs := by
  unfold AM.splice
  rw [List.take_length_add_append, Nat.add_assoc, List.drop_length_add_append]
  simp
theorem splice_right (M L vs : List Value) (o : Nat) (h : o + vs.length ≤ M.length) : AM.splice (M ++ L) o vs = AM.splice M o vs ++ L := by
  unfold AM.splice
  rw [List.take_append_of_le_length (by omega), List.drop_append_of_le_length (by omega)]
  simp
theorem splice_row {old rest vals : List Value} {k s o : Nat} (h1 : k * s + s ≤ old.length) (h2 : o + vals.length ≤ s) :
    AM.splice (old ++ rest) (k * s + o) vals = AM.splice old (k * s) (AM.splice ((old.drop (k * s)).take s) o vals) ++ rest := by
  obtain ⟨A, M, B, rfl, hA, hM⟩ : ∃ A M B, old = A ++ (M ++ B) ∧ A.length = k * s ∧ M.length = s :=
    ⟨old.take (k * s), (old.drop (k * s)).take s, old.drop (k * s + s), by rw [← List.drop_drop, List.take_append_drop, List.take_append_drop], by simp; omega, by simp; omega⟩
  have hX : (AM.splice M o vals).length = s := by unfold AM.splice; simp; omega
  rw [← hA, List.append_assoc, splice_left, List.append_assoc, splice_right _ _ _ _ (by omega), List.drop_left, ← hM, List.take_left]
  have := splice_left A (M ++ B) (AM.splice M o vals) 0
  rw [Nat.add_zero] at this
  rw [this]
  unfold AM.splice at hX ⊢
  simp only [List.take_zero, List.nil_append, Nat.zero_add, hX, ← hM, List.drop_left]
  simp
/-- The rows of one's own slice. -/
def rowsAt (H : Hp) (g w : Nat) : Option (List (List V)) := match H[g]? with
  | some (.vec w' rows _ _ _) => if w = w' then some rows else none
  | some (.fro w' rows _) => if w = w' then some rows else none
  | _ => none
/-- The cells from a place on. -/
def at_ (H : Hp) : V → Option (List V)
  | .fptr cs => some cs
  | .ptr g o => match H[g]? with
    | some (.mem cells _) => if o ≤ cells.length then some (cells.drop o) else none
    | _ => none
  | .elt g w k o => match rowsAt H g w with
    | some rows => match rows[k]? with
      | some r => if o ≤ r.length then some (r.drop o) else none
      | none => none
    | none => none
  | _ => none
/-- The value is a slice that reads as rows. -/
def SL (K : Kn) (φ : List Rz) (σ : Heap) (rows : List (List V)) (s : Nat) (a : Value) : Prop := ∃ A c, a = .slice A rows.length c ∧ (A = none → c = 0) ∧ capOK c s rows.length ∧ s < 4294967296 ∧
  (rows.length = 0 ∧ A = none ∨ ∃ b o vals, A = some ⟨b, o, none⟩ ∧ readB σ[b]? o (rows.length * s) = some vals ∧ RowsR K s rows φ vals)
theorem SL.rowLen {rows : List (List V)} {s : Nat} (h : SL K φ σ rows s a) : ∀ r ∈ rows, r.length = s := by
  obtain ⟨A, c, _, _, _, _, ⟨h, _⟩ | ⟨b, o, vals, _, _, h⟩⟩ := h
  · intro r hr; have := List.length_pos_of_mem hr; omega
  · exact h.rowLen
theorem fsl_sound (hR : Rel K φ H σ) {rows : List (List V)} {s : Nat} {k : Bool} (h : VR K (.fsl k s rows) φ a) : SL K φ σ rows s a := by
  obtain ⟨A, c, h1, h2, _, h3, h4, h5⟩ := h
  refine ⟨A, c, h1, h2, h3, h4, h5.imp id fun ⟨b, o, cells, e1, e2, e3, e4⟩ => ?_⟩
  obtain ⟨p, hp1, hp2⟩ := hR.kn b cells e2
  refine ⟨b, o, _, e1, ?_, e4.monoN (n := 0) ⟨fun _ _ h => h, fun g r hg => by omega⟩⟩
  rw [hp1]
  unfold readB
  simp [hp2, e3]
theorem rowsAt_sound (hR : Rel K φ H σ) {g w : Nat} {rows : List (List V)} (h : rowsAt H g w = some rows) {r : Rz} {val : Value} {w' s : Nat} (h1 : φ[g]? = some r) (h2 : r.at_ = some (val, w', s)) :
    w' = w ∧ SL K φ σ rows s val := by
  unfold rowsAt at h
  split at h
  · rename_i w1 rows1 s1 rw1 t1 hg
    have hob := hR.ob g _ r hg h1
    split at h
    · rename_i hw
      cases h
      cases r with
      | mem b => cases h2
      | fro _ _ _ => exact hob.elim
      | vec val1 w2 s2 =>
        cases h2
        obtain ⟨e1, e2, hs0, hs1, _, h3⟩ := hob
        subst e1; subst e2
        refine ⟨hw.symm, ?_⟩
        rcases h3 with ⟨h3, h4 | ⟨b, o, cells, h4, h5, h6⟩⟩ | ⟨b, c, vals, rest, p, h4, h5, h6, h7, h8⟩
        · refine ⟨none, 0, by rw [h4, h3], fun _ => rfl, ?_, by omega, .inl ⟨h3, rfl⟩⟩
          unfold capOK; rw [capOf_exact_eq (by decide)]; simp only; omega
        · obtain ⟨p, hp1, hp2⟩ := hR.kn b cells h5
          refine ⟨_, 0, by rw [h4, h3], (fun e => by cases e), ?_, by omega, .inr ⟨b, o, [], rfl, ?_, ?_⟩⟩
          · unfold capOK; rw [capOf_exact_eq (by decide)]; simp only; omega
          · rw [hp1, h3]; unfold readB; simp [hp2]; exact h6
          · have : rows = [] := List.eq_nil_of_length_eq_zero h3
            subst this; rfl
        · refine ⟨_, c, h4, (fun e => by cases e), h5.ok, by omega, .inr ⟨b, 0, vals, rfl, ?_, h8⟩⟩
          · have := h8.len
            rw [h6]
            unfold readB
            have hp : p ≠ .dead := by unfold permOk at h7; split at h7 <;> simp_all
            simp [hp, ← this]
    · cases h
  · rename_i w1 rows1 s1 hg
    have hob := hR.ob g _ r hg h1
    split at h
    · rename_i hw
      cases h
      cases r with
      | mem b => cases h2
      | vec _ _ _ => exact hob.elim
      | fro val1 w2 s2 =>
        cases h2
        obtain ⟨e1, e2, h3⟩ := hob
        subst e1; subst e2
        exact ⟨hw.symm, fsl_sound hR (h3.monoN (n := 0) ⟨fun _ _ h => h, fun g r hg => by omega⟩)⟩
    · cases h
  · cases h
/-- The rows of a slice of elements of so many cells. -/
def rowsOf (H : Hp) (s : Nat) : V → Option (List (List V))
  | .lit (.slice none 0 0) => some []
  | .fsl _ s' rows => if s' = s then some rows else none
  | .own g w => match H[g]? with
    | some (.vec w' rows s' _ _) => if w = w' ∧ s' = s then some rows else none
    | some (.fro w' rows s') => if w = w' ∧ s' = s then some rows else none
    | _ => none
  | _ => none
theorem rowsOf_sound (hR : Rel K φ H σ) {s : Nat} {rows : List (List V)} (hs : s < 4294967296) (h : rowsOf H s x = some rows) (hr : VR K x φ a) : SL K φ σ rows s a := by
  unfold rowsOf at h
  split at h
  · cases h
    obtain ⟨rfl, _⟩ := hr
    refine ⟨none, 0, rfl, fun _ => rfl, ?_, hs, .inl ⟨rfl, rfl⟩⟩
    unfold capOK; rw [capOf_exact_eq (by decide)]; exact Nat.le_refl _
  · split at h
    · rename_i e; subst e; cases h; exact fsl_sound hR hr
    · cases h
  · rename_i g w
    obtain ⟨r, val, w', s1, h1, h2, h3, h4, _⟩ := hr
    have fin : ∀ rows, rowsAt H g w = some rows → s1 = s → SL K φ σ rows s a := fun rows hrow e => by
      subst e
      obtain ⟨e, h5⟩ := rowsAt_sound hR hrow h1 h2
      rw [h4 e]
      exact h5
    split at h
    · rename_i w1 rows1 s2 rw t hg
      split at h
      · rename_i hc
        obtain ⟨rfl, rfl⟩ := hc
        cases h
        refine fin _ (by unfold rowsAt; rw [hg]; simp) ?_
        have hob := hR.ob g _ _ hg h1
        cases r with
        | mem _ => cases h2
        | fro _ _ _ => exact hob.elim
        | vec _ _ _ => cases h2; exact hob.2.1.symm
      · cases h
    · rename_i w1 rows1 s2 hg
      split at h
      · rename_i hc
        obtain ⟨rfl, rfl⟩ := hc
        cases h
        refine fin _ (by unfold rowsAt; rw [hg]; simp) ?_
        have hob := hR.ob g _ _ hg h1
        cases r with
        | mem _ => cases h2
        | vec _ _ _ => exact hob.elim
        | fro _ _ _ => cases h2; exact hob.2.1.symm
      · cases h
    · cases h
  · cases h
theorem at_sound (hR : Rel K φ H σ) {cs : List V} (h : at_ H x = some cs) (hr : VR K x φ a) : ∃ b o vals, a = .pointer (some ⟨b, o, none⟩) ∧ readB σ[b]? o cs.length = some vals ∧ VRs K cs φ vals := by
  unfold at_ at h
  split at h
  · cases h
    obtain ⟨b, o, cells, h1, h2, h3, h4⟩ := hr
    obtain ⟨p, hp1, hp2⟩ := hR.kn b cells h2
    refine ⟨b, o, _, h1, ?_, h4.monoN (n := 0) ⟨fun _ _ h => h, fun g r hg => by omega⟩⟩
    rw [hp1]
    unfold readB
    simp [hp2, h3]
  · rename_i g o
    obtain ⟨b, h1, h2⟩ := hr
    split at h
    · rename_i cells rw hg
      split at h
      · rename_i ho
        cases h
        obtain ⟨vals, p, h3, h4, h5⟩ := hR.ob g _ _ hg h1
        have hp : p ≠ .dead := by unfold permOk at h4; split at h4 <;> simp_all
        have hl := h5.len
        refine ⟨b, o, vals.drop o, h2, ?_, h5.drop o⟩
        rw [h3]
        unfold readB
        simp only [List.length_drop]
        rw [if_pos ⟨hp, by omega⟩, ← hl, ← List.length_drop, List.take_length]
      · cases h
    · cases h
  · rename_i g w k o
    obtain ⟨r, val, w', s, h1, h2, h3, h4, _⟩ := hr
    split at h
    · rename_i rows hrow
      obtain ⟨hw, hSL⟩ := rowsAt_sound hR hrow h1 h2
      have hrl := hSL.rowLen
      obtain ⟨A, c, h5, _, _, _, h6⟩ := hSL
      split at h
      · rename_i rk hk
        split at h
        · rename_i ho
          cases h
          have hkl := get_lt hk
          rcases h6 with h6 | ⟨b, o', vals, h7, h8, h9⟩
          · omega
          · obtain ⟨b2, oo, n2, c2, e1, e2⟩ := h4 hw
            rw [h5] at e1
            cases e1
            cases h7
            have hlr := h9.rowLen rk (List.mem_of_getElem? hk)
            refine ⟨_, _, _, e2, ?_, (h9.get hk).drop o⟩
            have hks : k * s + s ≤ rows.length * s := by rw [← Nat.succ_mul]; exact Nat.mul_le_mul_right _ hkl
            have := readB_part h8 (i := k * s + o) (m := (rk.drop o).length) (by rw [List.length_drop]; omega)
            rw [← Nat.add_assoc] at this
            rw [this]
            congr 1
            rw [List.length_drop, hlr, List.drop_take, List.drop_drop]
        · cases h
      · cases h
    · cases h
  · cases h
def vLoad (P : Program) (t : TypeId) (H : Hp) (x : V) : Option V := match at_ H x, aggOf P t, szOf P t with
  | some cs, some true, some n => if n ≤ cs.length then some (.agg (cs.take n)) else none
  | some cs, some false, _ => cs[0]?
  | _, _, _ => none
theorem vLoad_sound (hR : Rel K φ H σ) {t : TypeId} (h : vLoad P t H x = some v) (hr : VR K x φ a) : ∃ b o y, a = .pointer (some ⟨b, o, none⟩) ∧ loadV P t σ ⟨b, o, none⟩ = some y ∧ VR K v φ y := by
  unfold vLoad at h
  split at h
  · rename_i cs n h1 h2 h3
    obtain ⟨b, o, vals, e1, e2, e3⟩ := at_sound hR h1 hr
    split at h
    · rename_i hn
      cases h
      refine ⟨b, o, .agg (vals.take n).toArray, e1, ?_, _, rfl, by simpa using e3.take n⟩
      unfold loadV
      rw [h2, h3]
      have := readB_part e2 (i := 0) (m := n) (by omega)
      simp only [readN_eq]
      rw [Nat.add_zero] at this
      rw [this]; rfl
    · cases h
  · rename_i cs n h1 h2
    obtain ⟨b, o, vals, e1, e2, e3⟩ := at_sound hR h1 hr
    obtain ⟨y, f1, f2⟩ := e3.get h
    have hl := get_lt h
    refine ⟨b, o, y, e1, ?_, f2⟩
    unfold loadV
    rw [h2]
    have := readB_part e2 (i := 0) (m := 1) (by omega)
    rw [Nat.add_zero] at this
    simp only [readN_eq, this, Option.bind_some]
    rw [List.drop_zero, List.getElem?_take, if_pos (by omega)]
    exact f1
  · cases h
/-- Cells are written. -/
def putAt (H : Hp) : V → List V → Option Hp
  | .ptr g o, vs => match H[g]? with
    | some (.mem cells true) => if o + vs.length ≤ cells.length then some (H.set g (.mem (spl cells o vs) true)) else none
    | _ => none
  | .elt g w k o, vs => match H[g]? with
    | some (.vec w' rows s true t) => if w = w' then (match rows[k]? with
      | some r => if o + vs.length ≤ r.length then some (H.set g (.vec w' (rows.set k (spl r o vs)) s true t)) else none
      | none => none) else none
    | _ => none
  | _, _ => none
theorem spl_len {cs vs : List V} {o : Nat} (h : o + vs.length ≤ cs.length) : (spl cs o vs).length = cs.length := by unfold spl; simp; omega
theorem putAt_sound (hR : Rel K φ H σ) {vs : List V} {vals : List Value} (h : putAt H x vs = some H') (hr : VR K x φ a) (hv : VRs K vs φ vals) (hvc : vs.all V.isCell = true) :
    ∃ b o σ', a = .pointer (some ⟨b, o, none⟩) ∧ writeN σ ⟨b, o, none⟩ vals = some σ' ∧ Rel K φ H' σ' := by
  unfold putAt at h
  have hc := hv.cells hvc
  have hvl := hv.len
  split at h
  · rename_i g o
    obtain ⟨b, h1, h2⟩ := hr
    split at h
    · rename_i cells hg
      split at h
      · rename_i ho
        cases h
        obtain ⟨old, p, h3, h4, h5⟩ := hR.ob g _ _ hg h1
        have hp : p = .full := h4
        subst hp
        have hl := h5.len
        have hset : φ.set g (.mem b) = φ := set_self h1
        have hu := hR.upd (r' := .mem b) (y' := .mem (spl cells o vs) true) (σ' := σ.set b ⟨AM.splice old o vals, .full⟩) h1 (.refl _)
          (by rw [hset]; exact ⟨_, .full, List.getElem?_set_self (get_lt h3), rfl, h5.splice hv⟩) (fun b hb => .inl hb) (fun j _ hj => List.getElem?_set_ne (fun e => hj (by rw [e]; rfl)))
        rw [hset] at hu
        refine ⟨b, o, _, h2, ?_, hu.1⟩
        rw [writeN_eq, h3, writeB_full, if_pos ⟨by omega, hc⟩]; rfl
      · cases h
    · cases h
  · rename_i g w k o
    obtain ⟨r, val, w', s, h1, h2, h3, h4, _⟩ := hr
    split at h
    · rename_i w1 rows s1 t1 hg
      split at h
      · rename_i hw
        subst hw
        split at h
        · rename_i rk hk
          split at h
          · rename_i ho
            cases h
            have hob := hR.ob g _ _ hg h1
            cases r with
            | mem _ => cases h2
            | fro _ _ _ => cases h2; exact hob.elim
            | vec val1 w2 s2 =>
              cases h2
              obtain ⟨e1, e2, hs0, hs1, hok, h5⟩ := hob
              subst e1; subst e2
              have hkl := get_lt hk
              obtain ⟨b2, oo, n, c2, e1, e2⟩ := h4 rfl
              rcases h5 with ⟨h5, _⟩ | ⟨b', c', old, rest, p, h5, h6, h7, h8, h9⟩
              · omega
              rw [h5] at e1
              simp only [Value.slice.injEq, Option.some.injEq, Addr.mk.injEq] at e1
              obtain ⟨⟨rfl, rfl, _⟩, _, _⟩ := e1
              have hp : p = .full := h8
              subst hp
              have hset : φ.set g (.vec val w s1) = φ := set_self h1
              have hrl := h9.rowLen rk (List.mem_of_getElem? hk)
              have hol := h9.len
              have hks : k * s1 + s1 ≤ rows.length * s1 := by rw [← Nat.succ_mul]; exact Nat.mul_le_mul_right _ hkl
              have hnew : RowsR K s1 (rows.set k (spl rk o vs)) φ (AM.splice old (k * s1) (AM.splice ((old.drop (k * s1)).take s1) o vals)) :=
                h9.set hkl (by rw [spl_len ho, hrl]) ((h9.get hk).splice hv)
              have heq : AM.splice (old ++ rest) (k * s1 + o) vals = AM.splice old (k * s1) (AM.splice ((old.drop (k * s1)).take s1) o vals) ++ rest := by
                exact splice_row (by omega) (by omega)
              have hok' : RowsOk s1 (rows.set k (spl rk o vs)) := fun r hr => by
                rcases List.mem_or_eq_of_mem_set hr with hr | rfl
                · exact hok r hr
                · have hrk := hok rk (List.mem_of_getElem? hk)
                  refine ⟨by rw [spl_len ho, hrl], ?_⟩
                  unfold spl
                  rw [List.all_append, List.all_append, hvc, Bool.and_true, Bool.and_eq_true]
                  exact ⟨List.all_eq_true.2 fun z hz => List.all_eq_true.1 hrk.2 z (List.mem_of_mem_take hz), List.all_eq_true.2 fun z hz => List.all_eq_true.1 hrk.2 z (List.mem_of_mem_drop hz)⟩
              have hu := hR.upd (r' := .vec val w s1) (y' := .vec w (rows.set k (spl rk o vs)) s1 true t1) (σ' := σ.set b' ⟨AM.splice (old ++ rest) (k * s1 + o) vals, .full⟩) h1 (.refl _)
                (by
                  rw [hset]
                  refine ⟨rfl, rfl, hs0, hs1, hok', .inr ⟨b', c', _, rest, .full, by rw [List.length_set]; exact h5, ?_, ?_, rfl, hnew⟩⟩
                  · have hl1 := hnew.len
                    rw [List.length_set] at hl1 ⊢
                    rw [List.length_append, hl1, ← hol, ← List.length_append]; exact h6
                  · rw [List.getElem?_set_self (get_lt h7), heq]) (fun b hb => .inl hb) (fun j _ hj => List.getElem?_set_ne (fun e => hj (by rw [← e]; exact vec_blk h5 h6)))
              rw [hset] at hu
              refine ⟨b', 0 + k * s1 + o, _, e2, ?_, hu.1⟩
              rw [writeN_eq, h7, writeB_full, if_pos ⟨by rw [List.length_append]; omega, hc⟩, Nat.zero_add]; rfl
          · cases h
        · cases h
      · cases h
    · cases h
  · cases h
def vStore (P : Program) (t : TypeId) (H : Hp) (x v : V) : Option Hp := match szOf P t with
  | some n => if v.cells.length = n ∧ v.cells.all V.isCell = true then putAt H x v.cells else none
  | none => none
end
end Go.Proofs.Ytenbclcfhjdcaaa.VM
