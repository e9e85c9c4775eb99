/- What the proof of LeafReads rests on, part 3 of 6. -/
import Derived.Test.YtenbclcfhjdcaaaLeafReadsP2
section
set_option maxHeartbeats 8000000
set_option linter.unusedVariables false
set_option linter.unusedSimpArgs false
/- The machine of values: operations. -/
namespace Go.Proofs.Ytenbclcfhjdcaaa.VM
open Go AM
section
variable {P : Program} {K K' : Kn} {φ φ' : List Rz} {H H' : Hp} {σ σ' : Heap} {v x : V} {a : Value} {q : Bool} {ρ : Operand → Value}
variable {dst : Option Tmp} {type : TypeId} {pos : String} {after : Array Edge} {guard : Option (Nat × Bool)}

theorem set_self {α : Type} {l : List α} {i : Nat} {x : α} (h : l[i]? = some x) : l.set i x = l := by
  apply List.ext_getElem?
  intro j
  by_cases e : i = j
  · subst e; rw [List.getElem?_set_self (get_lt h), h]
  · rw [List.getElem?_set_ne e]
theorem splice_left (A L vs : List Value) (o : Nat) : AM.splice (A ++ L) (A.length + o) vs = A ++ AM.splice L o vs := by
  unfold AM.splice
  rw [List.take_length_add_append, Nat.add_assoc, List.drop_length_add_append]
  simp
theorem splice_right (M L vs : List Value) (o : Nat) (h : o + vs.length ≤ M.length) : AM.splice (M ++ L) o vs = AM.splice M o vs ++ L := by
  unfold AM.splice
  rw [List.take_append_of_le_length (by omega), List.drop_append_of_le_length (by omega)]
  simp
theorem splice_row {old rest vals : List Value} {k s o : Nat} (h1 : k * s + s ≤ old.length) (h2 : o + vals.length ≤ s) :
    AM.splice (old ++ rest) (k * s + o) vals = AM.splice old (k * s) (AM.splice ((old.drop (k * s)).take s) o vals) ++ rest := by
  obtain ⟨A, M, B, rfl, hA, hM⟩ : ∃ A M B, old = A ++ (M ++ B) ∧ A.length = k * s ∧ M.length = s :=
    ⟨old.take (k * s), (old.drop (k * s)).take s, old.drop (k * s + s), by rw [← List.drop_drop, List.take_append_drop, List.take_append_drop], by simp; omega, by simp; omega⟩
  have hX : (AM.splice M o vals).length = s := by unfold AM.splice; simp; omega
  rw [← hA, List.append_assoc, splice_left, List.append_assoc, splice_right _ _ _ _ (by omega), List.drop_left, ← hM, List.take_left]
  have := splice_left A (M ++ B) (AM.splice M o vals) 0
  rw [Nat.add_zero] at this
  rw [this]
  unfold AM.splice at hX ⊢
  simp only [List.take_zero, List.nil_append, Nat.zero_add, hX, ← hM, List.drop_left]
  simp
/-- The rows of one's own slice. -/
def rowsAt (H : Hp) (g w : Nat) : Option (List (List V)) := match H[g]? with
  | some (.vec w' rows _ _ _) => if w = w' then some rows else none
  | some (.fro w' rows _) => if w = w' then some rows else none
  | _ => none
/-- The cells from a place on. -/
def at_ (H : Hp) : V → Option (List V)
  | .fptr cs => some cs
  | .ptr g o => match H[g]? with
    | some (.mem cells _) => if o ≤ cells.length then some (cells.drop o) else none
    | _ => none
  | .elt g w k o => match rowsAt H g w with
    | some rows => match rows[k]? with
      | some r => if o ≤ r.length then some (r.drop o) else none
      | none => none
    | none => none
  | _ => none
/-- The value is a slice that reads as rows. -/
def SL (K : Kn) (φ : List Rz) (σ : Heap) (rows : List (List V)) (s : Nat) (a : Value) : Prop := ∃ A c, a = .slice A rows.length c ∧ (A = none → c = 0) ∧ capOK c s rows.length ∧ s < 4294967296 ∧
  (rows.length = 0 ∧ A = none ∨ ∃ b o vals, A = some ⟨b, o, none⟩ ∧ readB σ[b]? o (rows.length * s) = some vals ∧ RowsR K s rows φ vals)
theorem SL.rowLen {rows : List (List V)} {s : Nat} (h : SL K φ σ rows s a) : ∀ r ∈ rows, r.length = s := by
  obtain ⟨A, c, _, _, _, _, ⟨h, _⟩ | ⟨b, o, vals, _, _, h⟩⟩ := h
  · intro r hr; have := List.length_pos_of_mem hr; omega
  · exact h.rowLen
theorem fsl_sound (hR : Rel K φ H σ) {rows : List (List V)} {s : Nat} {k : Bool} (h : VR K (.fsl k s rows) φ a) : SL K φ σ rows s a := by
  obtain ⟨A, c, h1, h2, _, h3, h4, h5⟩ := h
  refine ⟨A, c, h1, h2, h3, h4, h5.imp id fun ⟨b, o, cells, e1, e2, e3, e4⟩ => ?_⟩
  obtain ⟨p, hp1, hp2⟩ := hR.kn b cells e2
  refine ⟨b, o, _, e1, ?_, e4.monoN (n := 0) ⟨fun _ _ h => h, fun g r hg => by omega⟩⟩
  rw [hp1]
  unfold readB
  simp [hp2, e3]
theorem rowsAt_sound (hR : Rel K φ H σ) {g w : Nat} {rows : List (List V)} (h : rowsAt H g w = some rows) {r : Rz} {val : Value} {w' s : Nat} (h1 : φ[g]? = some r) (h2 : r.at_ = some (val, w', s)) :
    w' = w ∧ SL K φ σ rows s val := by
  unfold rowsAt at h
  split at h
  · rename_i w1 rows1 s1 rw1 t1 hg
    have hob := hR.ob g _ r hg h1
    split at h
    · rename_i hw
      cases h
      cases r with
      | mem b => cases h2
      | fro _ _ _ => exact hob.elim
      | vec val1 w2 s2 =>
        cases h2
        obtain ⟨e1, e2, hs0, hs1, _, h3⟩ := hob
        subst e1; subst e2
        refine ⟨hw.symm, ?_⟩
        rcases h3 with ⟨h3, h4 | ⟨b, o, cells, h4, h5, h6⟩⟩ | ⟨b, c, vals, rest, p, h4, h5, h6, h7, h8⟩
        · refine ⟨none, 0, by rw [h4, h3], fun _ => rfl, ?_, by omega, .inl ⟨h3, rfl⟩⟩
          unfold capOK; rw [capOf_exact_eq (by decide)]; simp only; omega
        · obtain ⟨p, hp1, hp2⟩ := hR.kn b cells h5
          refine ⟨_, 0, by rw [h4, h3], (fun e => by cases e), ?_, by omega, .inr ⟨b, o, [], rfl, ?_, ?_⟩⟩
          · unfold capOK; rw [capOf_exact_eq (by decide)]; simp only; omega
          · rw [hp1, h3]; unfold readB; simp [hp2]; exact h6
          · have : rows = [] := List.eq_nil_of_length_eq_zero h3
            subst this; rfl
        · refine ⟨_, c, h4, (fun e => by cases e), h5.ok, by omega, .inr ⟨b, 0, vals, rfl, ?_, h8⟩⟩
          · have := h8.len
            rw [h6]
            unfold readB
            have hp : p ≠ .dead := by unfold permOk at h7; split at h7 <;> simp_all
            simp [hp, ← this]
    · cases h
  · rename_i w1 rows1 s1 hg
    have hob := hR.ob g _ r hg h1
    split at h
    · rename_i hw
      cases h
      cases r with
      | mem b => cases h2
      | vec _ _ _ => exact hob.elim
      | fro val1 w2 s2 =>
        cases h2
        obtain ⟨e1, e2, h3⟩ := hob
        subst e1; subst e2
        exact ⟨hw.symm, fsl_sound hR (h3.monoN (n := 0) ⟨fun _ _ h => h, fun g r hg => by omega⟩)⟩
    · cases h
  · cases h
/-- The rows of a slice of elements of so many cells. -/
def rowsOf (H : Hp) (s : Nat) : V → Option (List (List V))
  | .lit (.slice none 0 0) => some []
  | .fsl _ s' rows => if s' = s then some rows else none
  | .own g w => match H[g]? with
    | some (.vec w' rows s' _ _) => if w = w' ∧ s' = s then some rows else none
    | some (.fro w' rows s') => if w = w' ∧ s' = s then some rows else none
    | _ => none
  | _ => none
theorem rowsOf_sound (hR : Rel K φ H σ) {s : Nat} {rows : List (List V)} (hs : s < 4294967296) (h : rowsOf H s x = some rows) (hr : VR K x φ a) : SL K φ σ rows s a := by
  unfold rowsOf at h
  split at h
  · cases h
    obtain ⟨rfl, _⟩ := hr
    refine ⟨none, 0, rfl, fun _ => rfl, ?_, hs, .inl ⟨rfl, rfl⟩⟩
    unfold capOK; rw [capOf_exact_eq (by decide)]; exact Nat.le_refl _
  · split at h
    · rename_i e; subst e; cases h; exact fsl_sound hR hr
    · cases h
  · rename_i g w
    obtain ⟨r, val, w', s1, h1, h2, h3, h4, _⟩ := hr
    have fin : ∀ rows, rowsAt H g w = some rows → s1 = s → SL K φ σ rows s a := fun rows hrow e => by
      subst e
      obtain ⟨e, h5⟩ := rowsAt_sound hR hrow h1 h2
      rw [h4 e]
      exact h5
    split at h
    · rename_i w1 rows1 s2 rw t hg
      split at h
      · rename_i hc
        obtain ⟨rfl, rfl⟩ := hc
        cases h
        refine fin _ (by unfold rowsAt; rw [hg]; simp) ?_
        have hob := hR.ob g _ _ hg h1
        cases r with
        | mem _ => cases h2
        | fro _ _ _ => exact hob.elim
        | vec _ _ _ => cases h2; exact hob.2.1.symm
      · cases h
    · rename_i w1 rows1 s2 hg
      split at h
      · rename_i hc
        obtain ⟨rfl, rfl⟩ := hc
        cases h
        refine fin _ (by unfold rowsAt; rw [hg]; simp) ?_
        have hob := hR.ob g _ _ hg h1
        cases r with
        | mem _ => cases h2
        | vec _ _ _ => exact hob.elim
        | fro _ _ _ => cases h2; exact hob.2.1.symm
      · cases h
    · cases h
  · cases h
theorem at_sound (hR : Rel K φ H σ) {cs : List V} (h : at_ H x = some cs) (hr : VR K x φ a) : ∃ b o vals, a = .pointer (some ⟨b, o, none⟩) ∧ readB σ[b]? o cs.length = some vals ∧ VRs K cs φ vals := by
  unfold at_ at h
  split at h
  · cases h
    obtain ⟨b, o, cells, h1, h2, h3, h4⟩ := hr
    obtain ⟨p, hp1, hp2⟩ := hR.kn b cells h2
    refine ⟨b, o, _, h1, ?_, h4.monoN (n := 0) ⟨fun _ _ h => h, fun g r hg => by omega⟩⟩
    rw [hp1]
    unfold readB
    simp [hp2, h3]
  · rename_i g o
    obtain ⟨b, h1, h2⟩ := hr
    split at h
    · rename_i cells rw hg
      split at h
      · rename_i ho
        cases h
        obtain ⟨vals, p, h3, h4, h5⟩ := hR.ob g _ _ hg h1
        have hp : p ≠ .dead := by unfold permOk at h4; split at h4 <;> simp_all
        have hl := h5.len
        refine ⟨b, o, vals.drop o, h2, ?_, h5.drop o⟩
        rw [h3]
        unfold readB
        simp only [List.length_drop]
        rw [if_pos ⟨hp, by omega⟩, ← hl, ← List.length_drop, List.take_length]
      · cases h
    · cases h
  · rename_i g w k o
    obtain ⟨r, val, w', s, h1, h2, h3, h4, _⟩ := hr
    split at h
    · rename_i rows hrow
      obtain ⟨hw, hSL⟩ := rowsAt_sound hR hrow h1 h2
      have hrl := hSL.rowLen
      obtain ⟨A, c, h5, _, _, _, h6⟩ := hSL
      split at h
      · rename_i rk hk
        split at h
        · rename_i ho
          cases h
          have hkl := get_lt hk
          rcases h6 with h6 | ⟨b, o', vals, h7, h8, h9⟩
          · omega
          · obtain ⟨b2, oo, n2, c2, e1, e2⟩ := h4 hw
            rw [h5] at e1
            cases e1
            cases h7
            have hlr := h9.rowLen rk (List.mem_of_getElem? hk)
            refine ⟨_, _, _, e2, ?_, (h9.get hk).drop o⟩
            have hks : k * s + s ≤ rows.length * s := by rw [← Nat.succ_mul]; exact Nat.mul_le_mul_right _ hkl
            have := readB_part h8 (i := k * s + o) (m := (rk.drop o).length) (by rw [List.length_drop]; omega)
            rw [← Nat.add_assoc] at this
            rw [this]
            congr 1
            rw [List.length_drop, hlr, List.drop_take, List.drop_drop]
        · cases h
      · cases h
    · cases h
  · cases h
def vLoad (P : Program) (t : TypeId) (H : Hp) (x : V) : Option V := match at_ H x, aggOf P t, szOf P t with
  | some cs, some true, some n => if n ≤ cs.length then some (.agg (cs.take n)) else none
  | some cs, some false, _ => cs[0]?
  | _, _, _ => none
theorem vLoad_sound (hR : Rel K φ H σ) {t : TypeId} (h : vLoad P t H x = some v) (hr : VR K x φ a) : ∃ b o y, a = .pointer (some ⟨b, o, none⟩) ∧ loadV P t σ ⟨b, o, none⟩ = some y ∧ VR K v φ y := by
  unfold vLoad at h
  split at h
  · rename_i cs n h1 h2 h3
    obtain ⟨b, o, vals, e1, e2, e3⟩ := at_sound hR h1 hr
    split at h
    · rename_i hn
      cases h
      refine ⟨b, o, .agg (vals.take n).toArray, e1, ?_, _, rfl, by simpa using e3.take n⟩
      unfold loadV
      rw [h2, h3]
      have := readB_part e2 (i := 0) (m := n) (by omega)
      simp only [readN_eq]
      rw [Nat.add_zero] at this
      rw [this]; rfl
    · cases h
  · rename_i cs n h1 h2
    obtain ⟨b, o, vals, e1, e2, e3⟩ := at_sound hR h1 hr
    obtain ⟨y, f1, f2⟩ := e3.get h
    have hl := get_lt h
    refine ⟨b, o, y, e1, ?_, f2⟩
    unfold loadV
    rw [h2]
    have := readB_part e2 (i := 0) (m := 1) (by omega)
    rw [Nat.add_zero] at this
    simp only [readN_eq, this, Option.bind_some]
    rw [List.drop_zero, List.getElem?_take, if_pos (by omega)]
    exact f1
  · cases h
/-- Cells are written. -/
def putAt (H : Hp) : V → List V → Option Hp
  | .ptr g o, vs => match H[g]? with
    | some (.mem cells true) => if o + vs.length ≤ cells.length then some (H.set g (.mem (spl cells o vs) true)) else none
    | _ => none
  | .elt g w k o, vs => match H[g]? with
    | some (.vec w' rows s true t) => if w = w' then (match rows[k]? with
      | some r => if o + vs.length ≤ r.length then some (H.set g (.vec w' (rows.set k (spl r o vs)) s true t)) else none
      | none => none) else none
    | _ => none
  | _, _ => none
theorem spl_len {cs vs : List V} {o : Nat} (h : o + vs.length ≤ cs.length) : (spl cs o vs).length = cs.length := by unfold spl; simp; omega
theorem putAt_sound (hR : Rel K φ H σ) {vs : List V} {vals : List Value} (h : putAt H x vs = some H') (hr : VR K x φ a) (hv : VRs K vs φ vals) (hvc : vs.all V.isCell = true) :
    ∃ b o σ', a = .pointer (some ⟨b, o, none⟩) ∧ writeN σ ⟨b, o, none⟩ vals = some σ' ∧ Rel K φ H' σ' := by
  unfold putAt at h
  have hc := hv.cells hvc
  have hvl := hv.len
  split at h
  · rename_i g o
    obtain ⟨b, h1, h2⟩ := hr
    split at h
    · rename_i cells hg
      split at h
      · rename_i ho
        cases h
        obtain ⟨old, p, h3, h4, h5⟩ := hR.ob g _ _ hg h1
        have hp : p = .full := h4
        subst hp
        have hl := h5.len
        have hset : φ.set g (.mem b) = φ := set_self h1
        have hu := hR.upd (r' := .mem b) (y' := .mem (spl cells o vs) true) (σ' := σ.set b ⟨AM.splice old o vals, .full⟩) h1 (.refl _)
          (by rw [hset]; exact ⟨_, .full, List.getElem?_set_self (get_lt h3), rfl, h5.splice hv⟩) (fun b hb => .inl hb) (fun j _ hj => List.getElem?_set_ne (fun e => hj (by rw [e]; rfl)))
        rw [hset] at hu
        refine ⟨b, o, _, h2, ?_, hu.1⟩
        rw [writeN_eq, h3, writeB_full, if_pos ⟨by omega, hc⟩]; rfl
      · cases h
    · cases h
  · rename_i g w k o
    obtain ⟨r, val, w', s, h1, h2, h3, h4, _⟩ := hr
    split at h
    · rename_i w1 rows s1 t1 hg
      split at h
      · rename_i hw
        subst hw
        split at h
        · rename_i rk hk
          split at h
          · rename_i ho
            cases h
            have hob := hR.ob g _ _ hg h1
            cases r with
            | mem _ => cases h2
            | fro _ _ _ => cases h2; exact hob.elim
            | vec val1 w2 s2 =>
              cases h2
              obtain ⟨e1, e2, hs0, hs1, hok, h5⟩ := hob
              subst e1; subst e2
              have hkl := get_lt hk
              obtain ⟨b2, oo, n, c2, e1, e2⟩ := h4 rfl
              rcases h5 with ⟨h5, _⟩ | ⟨b', c', old, rest, p, h5, h6, h7, h8, h9⟩
              · omega
              rw [h5] at e1
              simp only [Value.slice.injEq, Option.some.injEq, Addr.mk.injEq] at e1
              obtain ⟨⟨rfl, rfl, _⟩, _, _⟩ := e1
              have hp : p = .full := h8
              subst hp
              have hset : φ.set g (.vec val w s1) = φ := set_self h1
              have hrl := h9.rowLen rk (List.mem_of_getElem? hk)
              have hol := h9.len
              have hks : k * s1 + s1 ≤ rows.length * s1 := by rw [← Nat.succ_mul]; exact Nat.mul_le_mul_right _ hkl
              have hnew : RowsR K s1 (rows.set k (spl rk o vs)) φ (AM.splice old (k * s1) (AM.splice ((old.drop (k * s1)).take s1) o vals)) :=
                h9.set hkl (by rw [spl_len ho, hrl]) ((h9.get hk).splice hv)
              have heq : AM.splice (old ++ rest) (k * s1 + o) vals = AM.splice old (k * s1) (AM.splice ((old.drop (k * s1)).take s1) o vals) ++ rest := by
                exact splice_row (by omega) (by omega)
              have hok' : RowsOk s1 (rows.set k (spl rk o vs)) := fun r hr => by
                rcases List.mem_or_eq_of_mem_set hr with hr | rfl
                · exact hok r hr
                · have hrk := hok rk (List.mem_of_getElem? hk)
                  refine ⟨by rw [spl_len ho, hrl], ?_⟩
                  unfold spl
                  rw [List.all_append, List.all_append, hvc, Bool.and_true, Bool.and_eq_true]
                  exact ⟨List.all_eq_true.2 fun z hz => List.all_eq_true.1 hrk.2 z (List.mem_of_mem_take hz), List.all_eq_true.2 fun z hz => List.all_eq_true.1 hrk.2 z (List.mem_of_mem_drop hz)⟩
              have hu := hR.upd (r' := .vec val w s1) (y' := .vec w (rows.set k (spl rk o vs)) s1 true t1) (σ' := σ.set b' ⟨AM.splice (old ++ rest) (k * s1 + o) vals, .full⟩) h1 (.refl _)
                (by
                  rw [hset]
                  refine ⟨rfl, rfl, hs0, hs1, hok', .inr ⟨b', c', _, rest, .full, by rw [List.length_set]; exact h5, ?_, ?_, rfl, hnew⟩⟩
                  · have hl1 := hnew.len
                    rw [List.length_set] at hl1 ⊢
                    rw [List.length_append, hl1, ← hol, ← List.length_append]; exact h6
                  · rw [List.getElem?_set_self (get_lt h7), heq]) (fun b hb => .inl hb) (fun j _ hj => List.getElem?_set_ne (fun e => hj (by rw [← e]; exact vec_blk h5 h6)))
              rw [hset] at hu
              refine ⟨b', 0 + k * s1 + o, _, e2, ?_, hu.1⟩
              rw [writeN_eq, h7, writeB_full, if_pos ⟨by rw [List.length_append]; omega, hc⟩, Nat.zero_add]; rfl
          · cases h
        · cases h
      · cases h
    · cases h
  · cases h
def vStore (P : Program) (t : TypeId) (H : Hp) (x v : V) : Option Hp := match szOf P t with
  | some n => if v.cells.length = n ∧ v.cells.all V.isCell = true then putAt H x v.cells else none
  | none => none
end
end Go.Proofs.Ytenbclcfhjdcaaa.VM
end
section
set_option maxHeartbeats 8000000
set_option linter.unusedVariables false
set_option linter.unusedSimpArgs false
/- The machine of values: slices. -/
namespace Go.Proofs.Ytenbclcfhjdcaaa.VM
open Go AM
section
variable {P : Program} {K K' : Kn} {φ φ' : List Rz} {H H' : Hp} {σ σ' : Heap} {v x : V} {a : Value} {q : Bool} {ρ : Operand → Value}

def isInt : V → Option Int
  | .lit (.int _ j) => some j
  | _ => none
theorem isInt_sound {j : Int} (h : isInt v = some j) (hr : VR K v φ a) : ∃ k, a = .int k j := by
  unfold isInt at h
  split at h
  · cases h; exact ⟨_, hr.1⟩
  · cases h
/-- Where an element is. -/
def vIdx (P : Program) (t : TypeId) (H : Hp) (x i : V) : Option V := match isInt i with
  | none => none
  | some j => if 0 ≤ j then (match P.underlying t with
    | some (.slice e) => match szOf P e, x with
      | some s, .fsl _ s' rows => if s' = s then rows[j.toNat]?.map .fptr else none
      | some s, .own g w => match H[g]? with
        | some (.vec w' rows s' _ _) => if w = w' ∧ s = s' ∧ j.toNat < rows.length then some (.elt g w j.toNat 0) else none
        | some (.fro w' rows s') => if w = w' ∧ s' = s then rows[j.toNat]?.map .fptr else none
        | _ => none
      | _, _ => none
    | some (.array n e) => match szOf P e with
      | some s => if j.toNat < n then (match x with
        | .ptr g o => some (.ptr g (o + j.toNat * s))
        | .fptr cs => if j.toNat * s ≤ cs.length then some (.fptr (cs.drop (j.toNat * s))) else none
        | .elt g w k o => some (.elt g w k (o + j.toNat * s))
        | _ => none) else none
      | none => none
    | _ => none) else none
theorem rowPtr_sound {rows : List (List V)} {s k : Nat} {kk : Bool} (h : rows[k]?.map V.fptr = some v) (hr : VR K (.fsl kk s rows) [] a) : k < rows.length ∧ ∃ A c, a = .slice (some A) rows.length c ∧ VR K v φ (.pointer (some (A.add (k * s)))) := by
  cases hk : rows[k]? with
  | none => rw [hk] at h; cases h
  | some r =>
    rw [hk] at h
    cases h
    have hkl := get_lt hk
    obtain ⟨A, c, h1, h2, _, h3, h4, ⟨h5, _⟩ | ⟨b, o, cells, h5, h6, h7, h8⟩⟩ := hr
    · omega
    subst h5
    have hs := h8.rowLen r (List.mem_of_getElem? hk)
    have hks : k * s + s ≤ rows.length * s := by rw [← Nat.succ_mul]; exact Nat.mul_le_mul_right _ hkl
    refine ⟨hkl, _, c, h1, b, o + k * s, cells, by rw [Addr.add_lit], h6, by omega, ?_⟩
    have := h8.get hk
    rw [List.drop_take, List.take_take, List.drop_drop] at this
    rw [hs]
    rwa [Nat.min_eq_left (by omega)] at this
theorem VR.up {v : V} {a : Value} (h : VR K v [] a) : VR K v φ a := h.monoN (n := 0) ⟨fun _ _ h => h, fun g r hg => by omega⟩
theorem idx_slice {t e s n c : Nat} {j : Int} {A : Addr} {k : IntKind} (hu : P.underlying t = some (.slice e)) (hs : szOf P e = some s) (h0 : 0 ≤ j) (hj : j.toNat < n) :
    idxAddr P t (.slice (some A) n c) (.int k j) σ = some (.pointer (some (A.add (j.toNat * s))), σ) := by
  unfold idxAddr
  rw [hu]; dsimp only; rw [hs]; dsimp only
  rw [if_pos ⟨h0, by omega⟩]
theorem vIdx_sound (hR : Rel K φ H σ) {t : TypeId} {i : V} {ai : Value} (h : vIdx P t H x i = some v) (hr : VR K x φ a) (hi : VR K i φ ai) : Snd K φ v H (idxAddr P t a ai σ) := by
  unfold vIdx at h
  split at h
  · cases h
  rename_i j hj
  obtain ⟨ik, rfl⟩ := isInt_sound hj hi
  split at h
  · rename_i h0
    split at h
    · rename_i e hu
      split at h
      · rename_i s k s' rows hs
        split at h
        · rename_i e
          subst e
          have hr' : VR K (.fsl k s' rows) [] a := hr
          obtain ⟨hk, A, c, h1, h2⟩ := rowPtr_sound (φ := φ) h hr'
          subst h1
          rw [idx_slice hu hs h0 hk]
          exact .same hR h2
        · cases h
      · rename_i s g w hs
        obtain ⟨r, val, w', s1, h1, h2, h3, h4, h5, h6, h7, h8⟩ := hr
        subst h8
        split at h
        · rename_i w2 rows s' rw t' hg
          split at h
          · rename_i hc
            obtain ⟨rfl, rfl, hlt⟩ := hc
            cases h
            have hob := hR.ob g _ _ hg h1
            cases r with
            | mem _ => cases h2
            | fro _ _ _ => exact hob.elim
            | vec val1 w2 s2 =>
              cases h2
              obtain ⟨e1, e2, hs0, hs1, hok, e5⟩ := hob
              subst e1; subst e2
              have e4 := h4 rfl
              rcases e5 with ⟨e5, _⟩ | ⟨b, c, vals, rest, p, e5, _⟩
              · omega
              rw [e5] at e4
              cases e4
              rw [idx_slice hu hs h0 hlt]
              exact .same hR ⟨_, _, w, s, h1, rfl, Nat.le_refl _, fun _ => ⟨b, 0, _, _, e5, by rw [Addr.add_lit, Nat.add_zero]⟩, _, rfl⟩
          · cases h
        · rename_i w2 rows s' hg
          split at h
          · rename_i hw
            obtain ⟨rfl, rfl⟩ := hw
            have hob := hR.ob g _ _ hg h1
            cases r with
            | mem _ => cases h2
            | vec _ _ _ => exact hob.elim
            | fro val1 w2 s2 =>
              cases h2
              obtain ⟨e1, e3, e2⟩ := hob
              subst e1
              rw [← h4 rfl] at e2
              obtain ⟨hk, A, c, g1, g2⟩ := rowPtr_sound (φ := φ) h e2
              rw [g1, idx_slice hu hs h0 hk]
              exact .same hR g2
          · cases h
        · cases h
      · cases h
    · rename_i n e hu
      split at h
      · rename_i s hs
        split at h
        · rename_i hn
          have key : ∀ A : Addr, idxAddr P t (.pointer (some A)) (.int ik j) σ = some (.pointer (some (A.add (j.toNat * s))), σ) := fun A => by
            unfold idxAddr
            rw [hu]; dsimp only; rw [hs]; dsimp only
            rw [if_pos ⟨h0, by omega⟩]
          split at h
          · cases h
            obtain ⟨b, h1, rfl⟩ := hr
            rw [key]
            exact .same hR ⟨b, h1, by rw [Addr.add_lit]⟩
          · rename_i cs
            split at h
            · rename_i hle
              cases h
              obtain ⟨b, o, cells, rfl, h2, h3, h4⟩ := hr
              rw [key]
              refine .same hR ⟨b, o + j.toNat * s, cells, by rw [Addr.add_lit], h2, by rw [List.length_drop]; omega, ?_⟩
              have := h4.drop (j.toNat * s)
              rw [List.drop_take, List.drop_drop] at this
              rw [List.length_drop]
              exact this
            · cases h
          · cases h
            obtain ⟨r, val, w', s1, h1, h2, h3, h4, x, h5⟩ := hr
            subst h5
            rw [key]
            exact .same hR ⟨r, val, w', s1, h1, h2, h3, fun e => by
              obtain ⟨b, oo, n, c, g1, g2⟩ := h4 e
              cases g2
              exact ⟨b, oo, n, c, g1, by rw [Addr.add_lit, Nat.add_assoc]⟩, _, rfl⟩
          · cases h
        · cases h
      · cases h
    · cases h
  · cases h
/-- What is appended. -/
def srcV (P : Program) (H : Hp) (s : Nat) (tx : TypeId) (x : V) : Option (List (List V)) := match P.underlying tx with
  | some (.slice _) => rowsOf H s x
  | some .string => match x with
    | .lit (.string b) => if s = 1 then some ((byteCells b).map fun c => [.lit c]) else none
    | _ => none
  | _ => none
theorem byteCells_len (b : ByteArray) : (byteCells b).length = b.size := by
  unfold byteCells; simp
theorem rows1 : ∀ {l : List Value}, (∀ c ∈ l, scalarB c = true) → RowsR K 1 (l.map fun c => [V.lit c]) φ l
  | [], _ => rfl
  | c :: l, h => ⟨[c], l, rfl, rfl, ⟨c, [], rfl, ⟨rfl, h c (by simp)⟩, rfl⟩, rows1 fun d hd => h d (by simp [hd])⟩
theorem byteCells_scalar {b : ByteArray} : ∀ c ∈ byteCells b, scalarB c = true := by
  intro c hc
  unfold byteCells at hc
  obtain ⟨y, _, rfl⟩ := List.mem_map.1 hc
  rfl
theorem RowsR.cells {s : Nat} : ∀ {xs : List (List V)} {vals : List Value}, RowsR K s xs φ vals → RowsOk s xs → vals.all cellB = true
  | [], _, h, _ => by simp only [RowsR] at h; subst h; rfl
  | r :: rs, _, ⟨a, as, h1, h2, h3, h4⟩, ho => by
    subst h1
    rw [List.all_append, h3.cells (ho r (by simp)).2, RowsR.cells h4 fun y hy => ho y (by simp [hy])]; rfl
theorem srcV_sound (hR : Rel K φ H σ) {s : Nat} {tx : TypeId} {xs : List (List V)} (hs : s < 4294967296) (h : srcV P H s tx x = some xs) (hr : VR K x φ a) : ∃ vals, srcOf P σ s tx a = some (xs.length, vals) ∧ RowsR K s xs φ vals := by
  unfold srcV at h
  split at h
  · rename_i e hu
    obtain ⟨A, c, h1, h2, h3, h4, h5⟩ := rowsOf_sound hR hs h hr
    subst h1
    unfold srcOf
    rw [hu]
    rcases h5 with ⟨h5, h6⟩ | ⟨b, o, vals, h5, h6, h7⟩
    · subst h6
      rw [h2 rfl, h5]
      cases xs with
      | nil => exact ⟨[], rfl, rfl⟩
      | cons _ _ => simp at h5
    · subst h5
      simp only [readN_eq, h6]
      exact ⟨vals, rfl, h7⟩
  · rename_i hu
    split at h
    · rename_i b
      split at h
      · rename_i hs
        subst hs
        cases h
        obtain ⟨rfl, _⟩ := hr
        unfold srcOf
        rw [hu]
        refine ⟨byteCells b, ?_, rows1 byteCells_scalar⟩
        simp [byteCells_len]
      · cases h
    · cases h
  · cases h
def vAppend (P : Program) (q : Bool) (t tx : TypeId) (H : Hp) (s x : V) : Option (V × Hp) := match P.underlying t with
  | some (.slice e) => match szOf P e, byOf P e, zeroOf P e with
    | some size, some bytes, some z =>
      if size ≠ 0 ∧ z.cells.size = size ∧ size ≤ 1048576 ∧ bytes ≤ 4096 then (match srcV P H size tx x with
        | some xs => match s with
          | .lit (.slice none 0 0) => if RowsOk size xs ∧ xs.length ≤ 17179869184 then (if xs.length = 0 then some (s, H) else some (.own H.length 0, H ++ [.vec 0 xs size true true])) else none
          | .own g w => match H[g]? with
            | some (.vec w' rows s' true t) => if w = w' ∧ s' = size ∧ RowsOk size xs ∧ rows.length + xs.length ≤ 17179869184 ∧ (q = false ∨ t = true) then some (.own g (w' + 1), H.set g (.vec (w' + 1) (rows ++ xs) size true t)) else none
            | _ => none
          | _ => none
        | none => none) else none
    | _, _, _ => none
  | _ => none
theorem capV_new {t : Bool} {s n total : Nat} (h1 : n ≤ 17179869184) (h2 : s ≤ 1048576) (h3 : n * s ≤ total) : CapV t (unk s n) s n total :=
  ⟨by unfold unk; have : 0 < top := by simp [top]
      have := Nat.mul_pos this (Nat.succ_pos s); simp only [Nat.succ_eq_add_one] at this; omega, n, Nat.le_refl _, h3, fun _ => rfl, .inr (capOf_unk_eq (by simp only [top]; omega) (by omega))⟩
theorem splice_end (A R vs : List Value) : AM.splice (A ++ R) A.length vs = A ++ vs ++ R.drop vs.length := by
  have := splice_left A R vs 0
  rw [Nat.add_zero] at this
  rw [this]
  unfold AM.splice
  simp
theorem capOf_unkS {s n : Nat} (h1 : n ≤ 17179869184) (h2 : s ≤ 1048576) : capOf (unk s n) = .unk s n := capOf_unk_eq (by simp only [top]; omega) (by omega)
theorem vAppend_sound (hR : Rel K φ H σ) {ty tx : TypeId} {s : V} {as ax : Value} {H' : Hp} (h : vAppend P q ty tx H s x = some (v, H')) (hs : VR K s φ as) (hx : VR K x φ ax) : Snd K φ v H' (aAppend P q ty tx as ax σ) := by
  unfold vAppend at h
  split at h
  · rename_i e hu
    split at h
    · rename_i size bytes z hsz hby hz
      split at h
      · rename_i hc
        obtain ⟨c1, c2, c3, c4⟩ := hc
        split at h
        · rename_i xs hsrc
          split at h
          · split at h
            · rename_i ho
              obtain ⟨ho, hn⟩ := ho
              obtain ⟨vals, h1, h2⟩ := srcV_sound hR (by omega) hsrc hx
              obtain ⟨rfl, _⟩ := hs
              rw [append_nil hu hsz hby hz h1 ⟨c1, c2, c3, c4, by omega, h2.cells ho⟩]
              split at h
              · rename_i h0
                cases h
                rw [if_pos h0]
                exact .same hR ⟨rfl, rfl⟩
              · rename_i h0
                cases h
                rw [if_neg h0]
                have hR' := hR.new vals .full
                have hr : RowsR K size xs (φ ++ [.vec (.slice (some ⟨σ.length, 0, none⟩) xs.length (unk size xs.length)) 0 size]) vals := h2.on ⟨fun _ _ h => h, fun k q hk hq => ⟨q, by rw [List.getElem?_append_left hk]; exact hq, .refl _⟩⟩
                have hvl := h2.len
                obtain ⟨h5, h6⟩ := hR'.snoc (r := .vec (.slice (some ⟨σ.length, 0, none⟩) xs.length (unk size xs.length)) 0 size) (y := .vec 0 xs size true true)
                  ⟨rfl, rfl, by omega, c3, ho, .inr ⟨σ.length, _, vals, [], .full, rfl, capV_new hn c3 (by simp; omega), by simp, rfl, hr⟩⟩ (fun b hb => by
                    rw [vec_blk rfl (capV_new (t := true) (total := xs.length * size) hn c3 (Nat.le_refl _))] at hb; cases hb; exact hR.not_used)
                refine ⟨_, _, K, _, rfl, h6, h5, .vec (.slice (some ⟨σ.length, 0, none⟩) xs.length (unk size xs.length)) 0 size, _, 0, size, ?_, rfl, Nat.le_refl _, fun _ => rfl, _, _, _, rfl⟩
                rw [← hR.len, List.getElem?_append_right (by omega)]
                simp
            · cases h
          · rename_i g w
            split at h
            · rename_i w' rows s' t hg
              split at h
              · rename_i hc
                obtain ⟨rfl, rfl, ho, hn, hq⟩ := hc
                cases h
                obtain ⟨vals, h1, h2⟩ := srcV_sound hR (by omega) hsrc hx
                obtain ⟨r, val, w', s1, g1, g2, g3, g4, _⟩ := hs
                have hob := hR.ob g _ _ hg g1
                cases r with
                | mem _ => cases g2
                | fro _ _ _ => exact hob.elim
                | vec val1 w2 s2 =>
                  cases g2
                  obtain ⟨e1, e2, hs0, hs1, hok, e5⟩ := hob
                  subst e1; subst e2
                  rw [g4 rfl]
                  have hcells := h2.cells ho
                  have hvl := h2.len
                  have hpostS : ∀ a' : Value, Post φ.length K φ K (φ.set g (.vec a' (w + 1) s')) := fun a' => ⟨fun _ _ h => h, fun k q hk hq => by
                    by_cases e : k = g
                    · subst e; rw [g1] at hq; cases hq
                      exact ⟨.vec a' (w + 1) s', by rw [List.getElem?_set_self hk], rfl, Nat.le_succ _, fun e => by omega⟩
                    · exact ⟨q, by rw [List.getElem?_set_ne (Ne.symm e)]; exact hq, .refl _⟩⟩
                  -- the new realization
                  have fin : ∀ (a' : Value) (σ1 : Heap) (b : Nat) (c : Nat) (V0 rest : List Value), aAppend P q ty tx val ax σ = some (a', σ1) → a' = .slice (some ⟨b, 0, none⟩) (rows.length + xs.length) c →
                      CapV t c s' (rows.length + xs.length) (V0 ++ vals ++ rest).length → σ1[b]? = some ⟨V0 ++ vals ++ rest, .full⟩ → RowsR K s' rows φ V0 →
                      (Rz.vec val w s').blk = some b ∨ ¬ Used K φ b → (∀ j, Used K φ j → (Rz.vec val w s').blk ≠ some j → σ1[j]? = σ[j]?) →
                      Snd K φ (.own g (w + 1)) (H.set g (.vec (w + 1) (rows ++ xs) s' true t)) (aAppend P q ty tx val ax σ) := fun a' σ1 b c V0 rest k1 k2 k3 k4 k5 k6 k7 => by
                    obtain ⟨u1, u2⟩ := hR.upd (r' := .vec a' (w + 1) s') (y' := .vec (w + 1) (rows ++ xs) s' true t) (σ' := σ1) g1 ⟨rfl, Nat.le_succ _, fun e => by omega⟩
                      ⟨rfl, rfl, hs0, hs1, hok.append ho, .inr ⟨b, c, V0 ++ vals, rest, .full, by rw [k2, List.length_append], by rw [List.length_append]; exact k3, k4, rfl, (k5.append h2).on (hpostS a')⟩⟩
                      (fun j hj => by rw [vec_blk k2 k3] at hj; cases hj; exact k6) k7
                    refine ⟨a', σ1, K, _, k1, u2, u1, .vec a' (w + 1) s', a', w + 1, s', List.getElem?_set_self (get_lt g1), rfl, Nat.le_refl _, fun _ => rfl, _, _, _, k2⟩
                  -- nothing is appended to an empty slice without room
                  have same : xs = [] → rows = [] → Emp K val → aAppend P q ty tx val ax σ = some (val, σ) → Snd K φ (.own g (w + 1)) (H.set g (.vec (w + 1) (rows ++ xs) s' true t)) (aAppend P q ty tx val ax σ) := fun e1 e2 k0 k1 => by
                    subst e1; subst e2
                    obtain ⟨u1, u2⟩ := hR.upd (r' := .vec val (w + 1) s') (y' := .vec (w + 1) ([] ++ []) s' true t) (σ' := σ) g1 ⟨rfl, Nat.le_succ _, fun e => by omega⟩ ⟨rfl, rfl, hs0, hs1, hok, .inl ⟨rfl, k0⟩⟩ (fun j hj => by
                      rcases k0 with k0 | ⟨_, _, _, k0, _⟩ <;> rw [k0] at hj <;> cases hj) (fun _ _ _ => rfl)
                    refine ⟨_, _, K, _, k1, u2, u1, .vec val (w + 1) s', val, w + 1, s', List.getElem?_set_self (get_lt g1), rfl, Nat.le_refl _, fun _ => rfl, ?_⟩
                    rcases k0 with k0 | ⟨_, _, _, k0, _⟩ <;> exact ⟨_, _, _, k0⟩
                  have newfin : ∀ (V0 : List Value) (σ1 : Heap), RowsR K s' rows φ V0 → (∀ j, Used K φ j → (Rz.vec val w s').blk ≠ some j → σ1[j]? = σ[j]?) → σ1.length = σ.length →
                      aAppend P q ty tx val ax σ = some (.slice (some ⟨σ1.length, 0, none⟩) (rows.length + xs.length) (unk s' (rows.length + xs.length)), σ1 ++ [⟨V0 ++ vals, .full⟩]) → Snd K φ (.own g (w + 1)) (H.set g (.vec (w + 1) (rows ++ xs) s' true t)) (aAppend P q ty tx val ax σ) := fun V0 σ1 k5 k7 kl k1 => by
                    have hV0 := k5.len
                    refine fin _ _ σ1.length _ V0 [] k1 rfl (capV_new hn c3 (by simp [hV0, hvl, Nat.add_mul])) (by simp) k5 (.inr (by rw [kl]; exact hR.not_used)) (fun j hj hne => ?_)
                    rw [List.getElem?_append_left (by rw [kl]; exact hR.used_lt hj)]
                    exact k7 j hj hne
                  rcases e5 with ⟨e5, e6 | ⟨b0, o0, cs0, e6, e7, e8⟩⟩ | ⟨b, c, old, rest, p, e5, ⟨hc0, C, hC1, hC2, hC3, hC4⟩, e7, e8, e9⟩
                  · -- nil
                    subst e6
                    have hrows : rows = [] := List.eq_nil_of_length_eq_zero e5
                    have key := append_nil (q := q) hu hsz hby hz h1 ⟨c1, c2, c3, c4, by omega, hcells⟩
                    by_cases h0 : xs.length = 0
                    · exact same (List.eq_nil_of_length_eq_zero h0) hrows (.inl rfl) (by rw [key, if_pos h0])
                    · rw [if_neg h0] at key
                      exact newfin [] σ (by rw [hrows]; rfl) (fun _ _ _ => rfl) rfl (by rw [key, hrows]; simp)
                  · -- no room
                    have hrows : rows = [] := List.eq_nil_of_length_eq_zero e5
                    obtain ⟨p0, hp1, hp2⟩ := hR.kn b0 cs0 e7
                    have hcap0 : capOf 0 = .exact 0 := capOf_exact_eq (by decide)
                    have hrd : readN σ ⟨b0, o0, none⟩ (0 * s') = some [] := by
                      rw [readN_eq, hp1]; unfold readB; simp [hp2, e8]
                    by_cases h0 : xs.length = 0
                    · refine same (List.eq_nil_of_length_eq_zero h0) hrows (.inr ⟨_, _, _, e6, e7, e8⟩) ?_
                      rw [e6]
                      unfold aAppend
                      rw [hu]; dsimp only; rw [hsz, hby, hz]; dsimp only; rw [h1]; dsimp only
                      rw [if_neg (Decidable.not_not.2 ⟨c1, c2, c3, c4, by omega, hcells⟩), hcap0]
                      simp [h0]
                    · refine newfin [] σ (by rw [hrows]; rfl) (fun _ _ _ => rfl) rfl ?_
                      rw [e6]
                      unfold aAppend
                      rw [hu]; dsimp only; rw [hsz, hby, hz]; dsimp only; rw [h1]; dsimp only
                      rw [if_neg (Decidable.not_not.2 ⟨c1, c2, c3, c4, by omega, hcells⟩), hcap0]
                      dsimp only
                      rw [if_neg (by omega), hrd, hrows]
                      simp only [newBlk, List.nil_append, hcells, if_true, Option.map_some, List.length_nil, Nat.zero_add]
                  · have hp : p = .full := e8
                    subst hp
                    have holdl := e9.len
                    have hblk : (Rz.vec val w s').blk = some b := vec_blk (t := t) (m := rows.length) (total := (old ++ rest).length) (s := s') e5 ⟨hc0, C, hC1, hC2, hC3, hC4⟩
                    have hun : ∀ r, (match capOf c with
                        | .exact c => if rows.length + xs.length ≤ c then (if xs.length = 0 then some (val, σ) else if q then none else (writeN σ (Addr.add ⟨b, 0, none⟩ (rows.length * s')) vals).map fun σ' => (.slice (some ⟨b, 0, none⟩) (rows.length + xs.length) c, σ'))
                          else match readN σ ⟨b, 0, none⟩ (rows.length * s') with
                            | some olds => (newBlk σ (olds ++ vals)).map fun (a, σ') => (.slice (some a) (rows.length + xs.length) (unk s' (rows.length + xs.length)), σ')
                            | none => none
                        | .unk es lb =>
                          if xs.length = 0 then some (val, σ)
                          else if rows.length + xs.length ≤ lb then (if q then none else (writeN σ (Addr.add ⟨b, 0, none⟩ (rows.length * s')) vals).map fun σ' => (.slice (some ⟨b, 0, none⟩) (rows.length + xs.length) c, σ'))
                          else if rows.length * s' ≤ (old ++ rest).length ∧ es = s' then (newBlk (kill σ b) ((old ++ rest).take (rows.length * s') ++ vals)).map fun (a, σ') => (.slice (some a) (rows.length + xs.length) (unk s' (rows.length + xs.length)), σ')
                              else none
                        | .dng => none) = r → aAppend P q ty tx val ax σ = r := fun r hr => by
                      rw [← hr, e5]
                      unfold aAppend
                      rw [hu]; dsimp only; rw [hsz, hby, hz]; dsimp only; rw [h1]; dsimp only
                      rw [if_neg (Decidable.not_not.2 ⟨c1, c2, c3, c4, hn, hcells⟩)]
                      cases capOf c with
                      | exact c => rfl
                      | unk es lb => dsimp only; rw [e7]; simp
                      | dng => rfl
                    have hall : (old ++ vals).all cellB = true := by rw [List.all_append, hcells, e9.cells hok]; rfl
                    have inpl : rows.length + xs.length ≤ C → xs.length ≠ 0 → aAppend P q ty tx val ax σ = (if q then none else (writeN σ (Addr.add ⟨b, 0, none⟩ (rows.length * s')) vals).map fun σ' => (.slice (some ⟨b, 0, none⟩) (rows.length + xs.length) c, σ')) → Snd K φ (.own g (w + 1)) (H.set g (.vec (w + 1) (rows ++ xs) s' true t)) (aAppend P q ty tx val ax σ) := fun hfit h0 k1 => by
                      have htf : t = false := by
                        cases t with
                        | false => rfl
                        | true => have := hC3 rfl; omega
                      have hqf : q = false := hq.elim id fun h => by rw [htf] at h; cases h
                      have hCs : (rows.length + xs.length) * s' ≤ C * s' := Nat.mul_le_mul_right _ hfit
                      rw [Nat.add_mul] at hCs
                      have hrl : vals.length ≤ rest.length := by simp at hC2; omega
                      have hsp : AM.splice (old ++ rest) (rows.length * s') vals = old ++ vals ++ rest.drop vals.length := by rw [← holdl]; exact splice_end _ _ _
                      refine fin (.slice (some ⟨b, 0, none⟩) (rows.length + xs.length) c) (σ.set b ⟨old ++ vals ++ rest.drop vals.length, .full⟩) b c old (rest.drop vals.length) ?_ rfl ⟨hc0, C, hfit, ?_, (fun ht => by rw [htf] at ht; cases ht), hC4⟩ ?_ e9 (.inl hblk) (fun j hj hne => List.getElem?_set_ne (fun e => hne (by rw [← e]; exact hblk)))
                      · rw [k1, hqf]
                        simp only [Bool.false_eq_true, if_false, Addr.add_lit, Nat.zero_add]
                        rw [writeN_eq, e7, writeB_full, if_pos ⟨by simp; omega, hcells⟩, hsp]; rfl
                      · have : (old ++ vals ++ rest.drop vals.length).length = (old ++ rest).length := by simp; omega
                        rw [this]; exact hC2
                      · rw [List.getElem?_set_self (get_lt e7)]
                    have nothing : xs.length = 0 → aAppend P q ty tx val ax σ = some (val, σ) → Snd K φ (.own g (w + 1)) (H.set g (.vec (w + 1) (rows ++ xs) s' true t)) (aAppend P q ty tx val ax σ) := fun h0 k1 => by
                      have hxs : xs = [] := List.eq_nil_of_length_eq_zero h0
                      subst hxs
                      have hv : vals = [] := h2
                      subst hv
                      exact fin val σ b c old rest k1 (by simpa using e5) ⟨hc0, C, by simpa using hC1, by simpa using hC2, by simpa using hC3, hC4⟩ (by simpa using e7) e9 (.inl hblk) (fun _ _ _ => rfl)
                    rcases hC4 with hC4' | hC4'
                    · rw [hC4'] at hun
                      dsimp only at hun
                      by_cases hfit : rows.length + xs.length ≤ C
                      · rw [if_pos hfit] at hun
                        by_cases h0 : xs.length = 0
                        · exact nothing h0 (hun _ (by rw [if_pos h0]))
                        · have hcC := (capOf_exact hC4').1
                          exact inpl hfit h0 (by rw [hun _ rfl, if_neg h0, hcC])
                      · rw [if_neg hfit] at hun
                        have hrd : readN σ ⟨b, 0, none⟩ (rows.length * s') = some old := by
                          rw [readN_eq, e7, readB_full, if_pos (by simp; omega), List.drop_zero, ← holdl, List.take_left]
                        refine newfin old σ e9 (fun _ _ _ => rfl) rfl (hun _ ?_)
                        rw [hrd]
                        simp only [newBlk, hall, if_true, Option.map_some]
                    · rw [hC4'] at hun
                      dsimp only at hun
                      by_cases h0 : xs.length = 0
                      · exact nothing h0 (hun _ (by rw [if_pos h0]))
                      · rw [if_neg h0] at hun
                        by_cases hfit : rows.length + xs.length ≤ C
                        · exact inpl hfit h0 (hun _ (by rw [if_pos hfit]))
                        · rw [if_neg hfit] at hun
                          have htk : (old ++ rest).take (rows.length * s') = old := by rw [← holdl, List.take_left]
                          refine newfin old (kill σ b) e9 (fun j hj hne => by rw [kill_get, if_neg (by intro e; subst e; exact hne hblk)]) (kill_len _ _) (hun _ ?_)
                          rw [if_pos ⟨by simp; omega, rfl⟩, htk]
                          simp only [newBlk, hall, if_true, Option.map_some]
              · cases h
            · cases h
          · cases h
        · cases h
      · cases h
    · cases h
  · cases h
end
end Go.Proofs.Ytenbclcfhjdcaaa.VM
end
section
set_option maxHeartbeats 8000000
set_option linter.unusedVariables false
set_option linter.unusedSimpArgs false
/- The machine of values: the other operations. -/
namespace Go.Proofs.Ytenbclcfhjdcaaa.VM
open Go AM
section
variable {P : Program} {K K' : Kn} {φ φ' : List Rz} {H H' : Hp} {σ σ' : Heap} {v x : V} {a : Value} {q : Bool} {ρ : Operand → Value}

def intOptV : Option V → Option (Option Int)
  | none => some none
  | some v => (isInt v).map some
def OptR (K : Kn) (φ : List Rz) : Option V → Option Value → Prop
  | none, none => True
  | some v, some a => VR K v φ a
  | _, _ => False
theorem intOptV_sound {v : Option V} {a : Option Value} {j : Option Int} (h : intOptV v = some j) (hr : OptR K φ v a) : intOpt a = some j := by
  cases v with
  | none =>
    cases a with
    | none => cases h; rfl
    | some a => exact hr.elim
  | some v =>
    cases a with
    | none => exact hr.elim
    | some a =>
      simp only [intOptV] at h
      cases hj : isInt v with
      | none => rw [hj] at h; cases h
      | some j' =>
        rw [hj] at h; cases h
        obtain ⟨k, rfl⟩ := isInt_sound hj hr
        rfl
theorem capOf_dng : capOf AM.dng = .dng := by unfold capOf; simp [top, AM.dng]
def vSliceR (k : Bool) (s : Nat) (rows : List (List V)) (lo hi mx : Option Int) : Option V := (bounds rows.length rows.length lo hi mx).map fun p => .fsl (k && lo.isNone) s ((rows.take p.2.1).drop p.1)
/-- A slice expression on what is frozen. -/
def vSlice (P : Program) (t : TypeId) (H : Hp) (x : V) (lo hi mx : Option V) : Option V := match intOptV lo, intOptV hi, intOptV mx with
  | some lo, some hi, some mx => match P.underlying t with
    | some (.slice e) => match szOf P e with
      | some s => match x with
        | .lit (.slice none 0 0) => (bounds 0 0 lo hi mx).map fun _ => x
        | .fsl k s' rows => if s' = s then vSliceR k s rows lo hi mx else none
        | .own g w => match H[g]? with
          | some (.fro w' rows s') => if w = w' ∧ s' = s then vSliceR true s rows lo hi mx else none
          | _ => none
        | _ => none
      | none => none
    | _ => none
  | _, _, _ => none
theorem bounds_cap {n C l h m : Nat} {lo hi mx : Option Int} (hb : bounds n n lo hi mx = some (l, h, m)) (hC : n ≤ C) : ∃ m', bounds n C lo hi mx = some (l, h, m') ∧ l ≤ h ∧ h ≤ n ∧ h ≤ m' ∧ m' ≤ C := by
  unfold bounds at hb ⊢
  split at hb <;> (try (split at hb)) <;> (try (cases hb; done)) <;> cases hb
  · exact ⟨C, rfl, by omega, by omega, by omega, by omega⟩
  · rename_i hc; exact ⟨C, if_pos (by omega), by omega, by omega, by omega, by omega⟩
  · rename_i hc; exact ⟨C, if_pos (by omega), by omega, by omega, by omega, by omega⟩
  · rename_i hc; exact ⟨C, if_pos (by omega), by omega, by omega, by omega, by omega⟩
  · rename_i m hc; exact ⟨m.toNat, if_pos (by omega), by omega, by omega, by omega, by omega⟩
  · rename_i m hc; exact ⟨m.toNat, if_pos (by omega), by omega, by omega, by omega, by omega⟩
theorem unk_lt {c es lb : Nat} (hC : capOf c = .unk es lb) : lb < top := by
  unfold capOf at hC
  split at hC
  · cases hC
  · split at hC
    · cases hC; exact Nat.mod_lt _ (by simp [top])
    · cases hC
theorem capOK_of {c s lb n : Nat} (h : capOf c = .unk s lb) (h3 : n ≤ lb) : capOK c s n := by
  unfold capOK
  rw [h]
  exact ⟨rfl, h3⟩
theorem capOK_unk {s lb n : Nat} (h1 : lb < top) (h2 : s < 4294967296) (h3 : n ≤ lb) : capOK (unk s lb) s n := capOK_of (capOf_unk_eq h1 h2) h3
theorem fsl_main {rows : List (List V)} {cells : List Value} {s b o l hh c' : Nat} {k : Bool} (hk : k = true → c' < AM.dng) (e6 : K b = some cells) (e7 : o + rows.length * s ≤ cells.length) (e8 : RowsR K s rows [] ((cells.drop o).take (rows.length * s))) (e3' : s < 4294967296)
    (hlh1 : l ≤ hh) (hhn : hh ≤ rows.length) (hc' : capOK c' s (hh - l)) : VR K (.fsl k s ((rows.take hh).drop l)) φ (.slice (some ⟨b, o + l * s, none⟩) (hh - l) c') := by
  have hlen : ((rows.take hh).drop l).length = hh - l := by simp; omega
  have hls : l * s ≤ hh * s := Nat.mul_le_mul_right _ hlh1
  have hhs : hh * s ≤ rows.length * s := Nat.mul_le_mul_right _ hhn
  have hsub : (hh - l) * s = hh * s - l * s := Nat.sub_mul ..
  have hrows : RowsR K s ((rows.take hh).drop l) [] ((cells.drop (o + l * s)).take ((hh - l) * s)) := by
    have := (e8.takeR hh hhn).dropR l (by simp; omega)
    rw [List.take_take, Nat.min_eq_left hhs, show ((cells.drop o).take (hh * s)).drop (l * s) = (cells.drop (o + l * s)).take (hh * s - l * s) by rw [List.drop_take, List.drop_drop]] at this
    rw [hsub]; exact this
  refine ⟨_, c', by rw [hlen], (fun e => by cases e), hk, by rw [hlen]; exact hc', e3', .inr ⟨b, o + l * s, cells, rfl, e6, ?_, by rw [hlen]; exact hrows⟩⟩
  rw [hlen, hsub]
  have : o + l * s + (hh * s - l * s) = o + hh * s := by omega
  omega
theorem fsl_empt {rows : List (List V)} {cells : List Value} {s b o l hh c' : Nat} {k : Bool} (hk : k = true → c' < AM.dng) (e6 : K b = some cells) (e7 : o ≤ cells.length) (e3' : s < 4294967296) (e : hh ≤ l) (hc' : capOK c' s 0) : VR K (.fsl k s ((rows.take hh).drop l)) φ (.slice (some ⟨b, o, none⟩) 0 c') := by
  have h0 : ((rows.take hh).drop l).length = 0 := by simp; omega
  rw [List.eq_nil_of_length_eq_zero h0]
  exact ⟨_, c', rfl, (fun e => by cases e), hk, hc', e3', .inr ⟨b, o, cells, rfl, e6, by simp; omega, by simp [RowsR]⟩⟩
theorem lo_none {n C l h m : Nat} {lo hi mx : Option Int} (hb : bounds n C lo hi mx = some (l, h, m)) (hl : lo = none) : l = 0 := by
  subst hl
  unfold bounds at hb
  split at hb <;> (try (split at hb)) <;> simp_all
theorem vSliceR_sound {s t e : Nat} {k : Bool} {rows : List (List V)} {lo hi mx : Option Int} {loA hiA mxA : Option Value} (hu : P.underlying t = some (.slice e)) (hs : szOf P e = some s)
    (h1 : intOpt loA = some lo) (h2 : intOpt hiA = some hi) (h3 : intOpt mxA = some mx) (h : vSliceR k s rows lo hi mx = some v) (hr : VR K (.fsl k s rows) [] a) : ∃ y, aSlice P t a loA hiA mxA = some y ∧ VR K v φ y := by
  unfold vSliceR at h
  cases hb : bounds rows.length rows.length lo hi mx with
  | none => rw [hb] at h; cases h
  | some p =>
    obtain ⟨l, hh, m⟩ := p
    rw [hb] at h
    cases h
    obtain ⟨A, c, e1, e2, ek, e3, e3', e4⟩ := hr
    subst e1
    unfold aSlice
    rw [h1, h2, h3]; dsimp only
    rw [hu]; dsimp only
    rw [hs]; dsimp only
    rcases e4 with ⟨e4, e5⟩ | ⟨b, o, cells, e5, e6, e7, e8⟩
    · subst e5
      dsimp only
      rw [e4] at hb
      rw [if_pos ⟨e4, e2 rfl⟩, hb]
      refine ⟨_, rfl, none, 0, ?_, fun _ => rfl, (fun _ => by simp [AM.dng]), ?_, e3', ?_⟩
      · have : rows = [] := List.eq_nil_of_length_eq_zero e4
        subst this; simp
      · have : rows = [] := List.eq_nil_of_length_eq_zero e4
        subst this; unfold capOK; rw [capOf_exact_eq (by decide)]; simp
      · have : rows = [] := List.eq_nil_of_length_eq_zero e4
        subst this; simp
    · subst e5
      dsimp only
      have hlh : ∀ C, rows.length ≤ C → ∃ m', bounds rows.length C lo hi mx = some (l, hh, m') ∧ l ≤ hh ∧ hh ≤ rows.length ∧ hh ≤ m' ∧ m' ≤ C := fun C hC => bounds_cap hb hC
      obtain ⟨_, _, hlh1, hhn, _, _⟩ := hlh _ (Nat.le_refl _)
      have main : ∀ c', ((k && lo.isNone) = true → c' < AM.dng) → capOK c' s (hh - l) → VR K (.fsl (k && lo.isNone) s ((rows.take hh).drop l)) φ (.slice (some ⟨b, o + l * s, none⟩) (hh - l) c') := fun c' hkc hc' => fsl_main hkc e6 e7 e8 e3' hlh1 hhn hc'
      have empt : ∀ c', ((k && lo.isNone) = true → c' < AM.dng) → hh = l → capOK c' s 0 → VR K (.fsl (k && lo.isNone) s ((rows.take hh).drop l)) φ (.slice (some ⟨b, o, none⟩) 0 c') := fun c' hkc e hc' => fsl_empt hkc e6 (by omega) e3' (by omega) hc'
      unfold capOK at e3
      split at e3
      · rename_i C hC
        obtain ⟨hCc, hCt⟩ := capOf_exact hC
        rw [hC]; dsimp only
        obtain ⟨m', f1, _, _, f2, f3⟩ := hlh C e3
        rw [f1]
        refine ⟨_, rfl, ?_⟩
        dsimp only
        have hkd : m' - l < AM.dng := by simp only [top, AM.dng] at *; omega
        have hcap : capOK (m' - l) s (hh - l) := by unfold capOK; rw [capOf_exact_eq (by omega)]; simp only; omega
        split
        · rename_i hml
          have : hh = l := by omega
          rw [show hh - l = 0 by omega]
          exact empt _ (fun _ => hkd) this (by rw [show hh - l = 0 by omega] at hcap; exact hcap)
        · rw [Addr.add_lit]; exact main _ (fun _ => hkd) hcap
      · rename_i es lb hC
        obtain ⟨hes, hlb⟩ := e3
        rw [hes] at hC
        have hlbt : lb < top := unk_lt hC
        rw [hC]; dsimp only
        obtain ⟨m', f1, _, _, f2, f3⟩ := hlh lb hlb
        rw [f1]; dsimp only
        have hc2 : capOK (unk s (lb - l)) s (hh - l) := capOK_unk (Nat.lt_of_le_of_lt (Nat.sub_le _ _) hlbt) e3' (Nat.sub_le_sub_right (Nat.le_trans hhn hlb) l)
        revert hc2
        generalize unk s (lb - l) = u
        intro hc2
        split
        · refine ⟨_, rfl, ?_⟩
          have hkd : m' - l < AM.dng := by simp only [top, AM.dng] at *; omega
          have hcap : capOK (m' - l) s (hh - l) := by unfold capOK; rw [capOf_exact_eq (by omega)]; simp only; omega
          split
          · rename_i hml
            have : hh = l := by omega
            rw [show hh - l = 0 by omega]
            exact empt _ (fun _ => hkd) this (by rw [show hh - l = 0 by omega] at hcap; exact hcap)
          · rw [Addr.add_lit]; exact main _ (fun _ => hkd) hcap
        · split
          · rename_i h0
            subst h0
            refine ⟨_, rfl, ?_⟩
            have := main c (fun h => ek (by simp at h; exact h.1)) (by unfold capOK; rw [hC]; exact ⟨rfl, by omega⟩)
            simpa using this
          · rename_i h0
            split
            · rename_i hc
              refine ⟨_, rfl, ?_⟩
              rw [Addr.add_lit]
              exact main _ (fun h => absurd (lo_none hb (by simp at h; exact h.2)) h0) hc2
            · rename_i hnc
              have hq : l = hh := by
                have : ¬ l < hh := fun h => hnc ⟨h, rfl⟩
                omega
              rw [if_pos hq]
              refine ⟨_, rfl, empt _ (fun h => absurd (lo_none hb (by simp at h; exact h.2)) h0) hq.symm (by unfold capOK; rw [capOf_dng])⟩
      · rename_i hC
        rw [hC]; dsimp only
        rw [e3] at hb
        rw [hb]
        refine ⟨_, rfl, empt _ (fun h => absurd (ek (by simp at h; exact h.1)) (by have := AM.capOf_dng hC; omega)) (by omega) (by unfold capOK; rw [capOf_dng])⟩
theorem vSlice_sound (hR : Rel K φ H σ) {t : TypeId} {lo hi mx : Option V} {loA hiA mxA : Option Value} (h : vSlice P t H x lo hi mx = some v) (hx : VR K x φ a) (h1 : OptR K φ lo loA) (h2 : OptR K φ hi hiA) (h3 : OptR K φ mx mxA) :
    (∃ y, aSlice P t a loA hiA mxA = some y ∧ VR K v φ y) ∧ ∀ s, a ≠ .string s := by
  unfold vSlice at h
  split at h
  · rename_i lo' hi' mx' i1 i2 i3
    have j1 := intOptV_sound i1 h1
    have j2 := intOptV_sound i2 h2
    have j3 := intOptV_sound i3 h3
    split at h
    · rename_i e hu
      split at h
      · rename_i s hs
        split at h
        · obtain ⟨rfl, _⟩ := hx
          refine ⟨?_, fun s e => by cases e⟩
          cases hb : bounds 0 0 lo' hi' mx' with
          | none => rw [hb] at h; cases h
          | some p =>
            rw [hb] at h; cases h
            refine ⟨.slice none 0 0, ?_, rfl, rfl⟩
            unfold aSlice
            rw [j1, j2, j3]; dsimp only
            rw [hu]; dsimp only
            rw [hs]; dsimp only
            rw [if_pos ⟨rfl, rfl⟩, hb]; rfl
        · split at h
          · rename_i e; subst e
            have hx' : VR K (.fsl _ _ _) [] a := hx
            refine ⟨vSliceR_sound hu hs j1 j2 j3 h hx', fun s e => ?_⟩
            obtain ⟨A, c, e1, _⟩ := hx'
            rw [e1] at e; cases e
          · cases h
        · rename_i g w
          split at h
          · rename_i w' rows s' hg
            split at h
            · rename_i hc
              obtain ⟨rfl, rfl⟩ := hc
              obtain ⟨r, val, w', s1, g1, g2, g3, g4, A, n, c, g5⟩ := hx
              refine ⟨?_, fun s e => by rw [g5] at e; cases e⟩
              have hob := hR.ob g _ _ hg g1
              cases r with
              | mem _ => cases g2
              | vec _ _ _ => exact hob.elim
              | fro val1 w2 s2 =>
                cases g2
                obtain ⟨e1, e2, e3⟩ := hob
                subst e1; subst e2
                rw [g4 rfl]
                exact vSliceR_sound hu hs j1 j2 j3 h e3
            · cases h
          · cases h
        · cases h
      · cases h
    · cases h
  · cases h
/-- How many elements. -/
def lenOf (H : Hp) : V → Option Nat
  | .lit (.slice none 0 0) => some 0
  | .fsl _ _ rows => some rows.length
  | .own g w => (rowsAt H g w).map List.length
  | _ => none
theorem lenOf_sound (hR : Rel K φ H σ) {n : Nat} (h : lenOf H x = some n) (hx : VR K x φ a) : ∃ A c, a = .slice A n c := by
  unfold lenOf at h
  split at h
  · cases h; exact ⟨_, _, hx.1⟩
  · cases h; obtain ⟨A, c, h1, _⟩ := hx; exact ⟨_, _, h1⟩
  · rename_i g w
    cases hr : rowsAt H g w with
    | none => rw [hr] at h; cases h
    | some rows =>
      rw [hr] at h; cases h
      obtain ⟨r, val, w', s1, g1, g2, g3, g4, _⟩ := hx
      obtain ⟨e, A, c, e1, _⟩ := rowsAt_sound hR hr g1 g2
      rw [g4 e]
      exact ⟨_, _, e1⟩
  · cases h
def vLen (P : Program) (t : TypeId) (H : Hp) (x : V) : Option V := match P.underlying t with
  | some (.slice _) => (lenOf H x).map fun n => .lit (.int .i64 n)
  | some (.array n _) => some (.lit (.int .i64 n))
  | _ => none
section
variable {P : Program} {ρ : Operand → Value} {dst : Option Tmp} {type : TypeId} {pos : String} {after : Array Edge} {guard : Option (Nat × Bool)}
theorem aPure_min {x y : Operand} {ts : Array TypeId} {k k' : IntKind} {m n : Int} (hx : ρ x = .int k m) (hy : ρ y = .int k' n) : aPure P ρ ⟨dst, .call { callee := .builtin .min, args := #[x, y], argTypes := ts }, type, pos, after, guard⟩ = some (.int k (if n < m then n else m)) := by
  unfold aPure
  rw [if_pos (by simp [Op.operands, Call.operands, hx, hy, flatB, scalarB])]
  simp [execOp, resolve, invoke, builtin, Builtin.min_, hx, hy, Builtin.min2, pureRun_bind, flatB, scalarB]
theorem aPure_max {x y : Operand} {ts : Array TypeId} {k k' : IntKind} {m n : Int} (hx : ρ x = .int k m) (hy : ρ y = .int k' n) : aPure P ρ ⟨dst, .call { callee := .builtin .max, args := #[x, y], argTypes := ts }, type, pos, after, guard⟩ = some (.int k (if n > m then n else m)) := by
  unfold aPure
  rw [if_pos (by simp [Op.operands, Call.operands, hx, hy, flatB, scalarB])]
  simp [execOp, resolve, invoke, builtin, Builtin.max_, hx, hy, Builtin.max2, pureRun_bind, flatB, scalarB]
theorem aPure_nil {t ty e : TypeId} {x y : Operand} (hu : P.underlying t = some (.pointer e)) (hx : ρ x = .pointer none) (hy : ρ y = .pointer none) :
    aPure P ρ ⟨dst, .binOp .eql t x y ty, type, pos, after, guard⟩ = some (.bool true) ∧ aPure P ρ ⟨dst, .binOp .neq t x y ty, type, pos, after, guard⟩ = some (.bool false) := by
  have hq : pureRun P (Op.equal t (.pointer none) (.pointer none)) = some true := by
    show pureRun P (Op.equalIn (9999 + 1) t (.pointer none) (.pointer none)) = _
    generalize 9999 = d
    unfold Op.equalIn
    rw [pureRun_bind, pureRun_underlying, hu]
    rfl
  have hop : ∀ op, ((Op.binOp op t x y ty).operands.all fun x => flatB (ρ x)) = true := fun op => by simp [Op.operands, hx, hy, flatB, scalarB]
  refine ⟨?_, ?_⟩
  · unfold aPure
    rw [if_pos (hop _)]
    simp only [execOp, hx, hy]
    have : pureRun P (do eqGuard .eql t x y (.pointer none) (.pointer none); binOp .eql t (.pointer none) (.pointer none)) = some (.bool true) := by
      rw [eqGuard_at_pointer, pureRun_bind]
      simp only [pureRun_pure, Option.bind_some, binOp]
      rw [pureRun_bind, hq]; rfl
    rw [pureRun_bind, this]
    rfl
  · unfold aPure
    rw [if_pos (hop _)]
    simp only [execOp, hx, hy]
    have : pureRun P (do eqGuard .neq t x y (.pointer none) (.pointer none); binOp .neq t (.pointer none) (.pointer none)) = some (.bool false) := by
      rw [eqGuard_at_pointer, pureRun_bind]
      simp only [pureRun_pure, Option.bind_some, binOp]
      rw [pureRun_bind, hq]; rfl
    rw [pureRun_bind, this]
    rfl
theorem aPure_len {t : TypeId} {x : Operand} {s : ByteArray} (hu : P.underlying t = some .string) (hx : ρ x = .string s) : aPure P ρ ⟨dst, .call { callee := .builtin .len, args := #[x], argTypes := #[t] }, type, pos, after, guard⟩ = some (.int .i64 s.size) := by
  unfold aPure
  rw [if_pos (by simp [Op.operands, Call.operands, hx, flatB, scalarB])]
  simp [execOp, resolve, invoke, builtin, Builtin.len_, hx, pureRun_bind, pureRun_underlying, hu, flatB, scalarB, goInt]
end
/-- '==' against nil. -/
def vEq (P : Program) (t : TypeId) (x y : V) : Option Bool := match P.underlying t with
  | some (.pointer _) => match x, y with
    | .ptr _ _, .lit (.pointer none) | .fptr _, .lit (.pointer none) | .elt _ _ _ _, .lit (.pointer none) => some false
    | .lit (.pointer none), .ptr _ _ | .lit (.pointer none), .fptr _ | .lit (.pointer none), .elt _ _ _ _ => some false
    | _, _ => none
  | some (.func _ _ _) => match x, y with
    | .fn _ _ _, .lit .nilFunc | .lit .nilFunc, .fn _ _ _ => some false
    | _, _ => none
  | _ => none
def mkLit (v : Value) : Option V := if scalarB v = true then some (.lit v) else none
theorem mkLit_sound {y : Value} (h : mkLit y = some v) : VR K v φ y := by
  unfold mkLit at h
  split at h
  · rename_i hs; cases h; exact ⟨rfl, hs⟩
  · cases h
/-- '==' of two nil pointers. -/
def nilI (P : Program) (op : BinOp) (t : TypeId) (x y : Value) : Option V := match P.underlying t, x, y, op with
  | some (.pointer _), .pointer none, .pointer none, .eql => some (.lit (.bool true))
  | some (.pointer _), .pointer none, .pointer none, .neq => some (.lit (.bool false))
  | _, _, _, _ => none
def vBin (P : Program) (op : BinOp) (t : TypeId) (x y : V) : Option V := match toVal x, toVal y with
  | some a, some b => match strEq op a b with
    | some r => some (.lit (.bool r))
    | none => match binI P op t a b with
      | some y => mkLit y
      | none => nilI P op t a b
  | _, _ => match op with
    | .eql => (vEq P t x y).map fun b => .lit (.bool b)
    | .neq => (vEq P t x y).map fun b => .lit (.bool (!b))
    | _ => none
end
section
variable {P : Program} {K K' : Kn} {φ φ' : List Rz} {H H' : Hp} {σ σ' : Heap} {v x y : V} {a b : Value} {q : Bool} {ρ : Operand → Value}
variable {dst : Option Tmp} {type : TypeId} {pos : String} {after : Array Edge} {guard : Option (Nat × Bool)}
theorem vEq_sound {t : TypeId} {r : Bool} (h : vEq P t x y = some r) (hx : VR K x φ a) (hy : VR K y φ b) : aEq P t a b = some r ∧ (flatB a && flatB b) = false ∧ ∀ op, strEq op a b = none := by
  unfold vEq at h
  split at h
  · rename_i p hu
    split at h <;> cases h
    all_goals
      first
      | (obtain ⟨rfl, _⟩ := hy)
      | (obtain ⟨rfl, _⟩ := hx)
    · obtain ⟨b', _, rfl⟩ := hx; exact ⟨by unfold aEq; rw [hu], rfl, fun op => by cases op <;> rfl⟩
    · obtain ⟨b', o, c, rfl, _⟩ := hx; exact ⟨by unfold aEq; rw [hu], rfl, fun op => by cases op <;> rfl⟩
    · obtain ⟨_, _, _, _, _, _, _, _, _, rfl⟩ := hx; exact ⟨by unfold aEq; rw [hu], rfl, fun op => by cases op <;> rfl⟩
    · obtain ⟨b', _, rfl⟩ := hy; exact ⟨by unfold aEq; rw [hu], rfl, fun op => by cases op <;> rfl⟩
    · obtain ⟨b', o, c, rfl, _⟩ := hy; exact ⟨by unfold aEq; rw [hu], rfl, fun op => by cases op <;> rfl⟩
    · obtain ⟨_, _, _, _, _, _, _, _, _, rfl⟩ := hy; exact ⟨by unfold aEq; rw [hu], rfl, fun op => by cases op <;> rfl⟩
  · rename_i p _ _ hu
    split at h <;> cases h
    · obtain ⟨rfl, _⟩ := hy; obtain ⟨_, _, rfl, _⟩ := hx; exact ⟨by unfold aEq; rw [hu], rfl, fun op => by cases op <;> rfl⟩
    · obtain ⟨rfl, _⟩ := hx; obtain ⟨_, _, rfl, _⟩ := hy; exact ⟨by unfold aEq; rw [hu], rfl, fun op => by cases op <;> rfl⟩
  · cases h
/-- How many elements a slice has that is held against nil. -/
def nilCmp (P : Program) (H : Hp) (t : TypeId) (x y : V) : Option Nat := match P.underlying t with
  | some (.slice _) => match x, y with
    | .fsl _ _ rows, .lit (.slice none 0 0) => some rows.length
    | .lit (.slice none 0 0), .fsl _ _ rows => some rows.length
    | .own g w, .lit (.slice none 0 0) => (rowsAt H g w).map List.length
    | .lit (.slice none 0 0), .own g w => (rowsAt H g w).map List.length
    | _, _ => none
  | _ => none
theorem nilCmp_sound (hR : Rel K φ H σ) {t : TypeId} {n : Nat} (h : nilCmp P H t x y = some n) (hx : VR K x φ a) (hy : VR K y φ b) : ∃ r : Bool, (0 < n → r = false) ∧
    (∀ ox oy ty, ρ ox = a → ρ oy = b → binV P .eql t ox oy ty ρ ⟨dst, .binOp .eql t ox oy ty, type, pos, after, guard⟩ σ = some (.bool r, σ) ∧ binV P .neq t ox oy ty ρ ⟨dst, .binOp .neq t ox oy ty, type, pos, after, guard⟩ σ = some (.bool (!r), σ)) := by
  unfold nilCmp at h
  split at h
  · rename_i e hu
    have fin : ∀ A c, (A = none → c = 0 ∧ n = 0) → (a = .slice A n c ∧ b = .slice none 0 0 ∨ a = .slice none 0 0 ∧ b = .slice A n c) → ∃ r : Bool, (0 < n → r = false) ∧
      (∀ ox oy ty, ρ ox = a → ρ oy = b → binV P .eql t ox oy ty ρ ⟨dst, .binOp .eql t ox oy ty, type, pos, after, guard⟩ σ = some (.bool r, σ) ∧ binV P .neq t ox oy ty ρ ⟨dst, .binOp .neq t ox oy ty, type, pos, after, guard⟩ σ = some (.bool (!r), σ)) := fun A c hA hab => by
      cases A with
      | none =>
        obtain ⟨rfl, rfl⟩ := hA rfl
        have ha : a = .slice none 0 0 := by rcases hab with ⟨h, _⟩ | ⟨h, _⟩ <;> exact h
        have hb : b = .slice none 0 0 := by rcases hab with ⟨_, h⟩ | ⟨_, h⟩ <;> exact h
        refine ⟨true, fun h => by omega, fun ox oy ty e1 e2 => ?_⟩
        rw [ha] at e1; rw [hb] at e2
        have g1 := binI_sound (P := P) (ρ := ρ) (dst := dst) (type := type) (pos := pos) (after := after) (guard := guard) (op := .eql) (t := t) (ty := ty) (x := ox) (y := oy) (v := .bool true) (by rw [e1, e2]; simp only [binI, hu])
        have g2 := binI_sound (P := P) (ρ := ρ) (dst := dst) (type := type) (pos := pos) (after := after) (guard := guard) (op := .neq) (t := t) (ty := ty) (x := ox) (y := oy) (v := .bool false) (by rw [e1, e2]; simp only [binI, hu])
        unfold binV
        rw [show strEq .eql (ρ ox) (ρ oy) = none by rw [e1, e2]; rfl, show strEq .neq (ρ ox) (ρ oy) = none by rw [e1, e2]; rfl]
        dsimp only
        rw [if_pos (by rw [e1, e2]; rfl), if_pos (by rw [e1, e2]; rfl), g1, g2]
        exact ⟨rfl, rfl⟩
      | some A =>
        refine ⟨false, fun _ => rfl, fun ox oy ty e1 e2 => ?_⟩
        rcases hab with ⟨ha, hb⟩ | ⟨ha, hb⟩
        · rw [ha] at e1; rw [hb] at e2
          unfold binV
          rw [show strEq .eql (ρ ox) (ρ oy) = none by rw [e1, e2]; rfl, show strEq .neq (ρ ox) (ρ oy) = none by rw [e1, e2]; rfl]
          dsimp only
          rw [if_neg (by rw [e1, e2]; simp), if_neg (by rw [e1, e2]; simp), e1, e2]
          simp only [aEq, hu]
          exact ⟨rfl, rfl⟩
        · rw [ha] at e1; rw [hb] at e2
          unfold binV
          rw [show strEq .eql (ρ ox) (ρ oy) = none by rw [e1, e2]; rfl, show strEq .neq (ρ ox) (ρ oy) = none by rw [e1, e2]; rfl]
          dsimp only
          rw [if_neg (by rw [e1, e2]; simp), if_neg (by rw [e1, e2]; simp), e1, e2]
          simp only [aEq, hu]
          exact ⟨rfl, rfl⟩
    have own : ∀ {g w : Nat} {rows : List (List V)} {a : Value}, rowsAt H g w = some rows → VR K (.own g w) φ a → ∃ A c, a = .slice A rows.length c ∧ (A = none → c = 0 ∧ rows.length = 0) := fun {g w rows a} hr hx => by
      obtain ⟨r, val, w', s, g1, g2, g3, g4, _⟩ := hx
      obtain ⟨e, A, c, e1, e2, e3, _, e4⟩ := rowsAt_sound hR hr g1 g2
      rw [g4 e]
      refine ⟨A, c, e1, fun hn => ⟨e2 hn, ?_⟩⟩
      rcases e4 with ⟨e4, _⟩ | ⟨b, o, vals, e4, _⟩
      · exact e4
      · rw [hn] at e4; cases e4
    have fsl : ∀ {k : Bool} {s : Nat} {rows : List (List V)} {a : Value}, VR K (.fsl k s rows) φ a → ∃ A c, a = .slice A rows.length c ∧ (A = none → c = 0 ∧ rows.length = 0) := fun {k s rows a} hx => by
      obtain ⟨A, c, e1, e2, _, e3, _, e4⟩ := hx
      refine ⟨A, c, e1, fun hn => ⟨e2 hn, ?_⟩⟩
      rcases e4 with ⟨e4, _⟩ | ⟨b, o, vals, e4, _⟩
      · exact e4
      · rw [hn] at e4; cases e4
    split at h
    · cases h
      obtain ⟨A, c, e1, e2⟩ := fsl hx
      exact fin A c e2 (.inl ⟨e1, hy.1⟩)
    · cases h
      obtain ⟨A, c, e1, e2⟩ := fsl hy
      exact fin A c e2 (.inr ⟨hx.1, e1⟩)
    · rename_i g w
      cases hr : rowsAt H g w with
      | none => rw [hr] at h; cases h
      | some rows =>
        rw [hr] at h; cases h
        obtain ⟨A, c, e1, e2⟩ := own hr hx
        exact fin A c e2 (.inl ⟨e1, hy.1⟩)
    · rename_i g w
      cases hr : rowsAt H g w with
      | none => rw [hr] at h; cases h
      | some rows =>
        rw [hr] at h; cases h
        obtain ⟨A, c, e1, e2⟩ := own hr hy
        exact fin A c e2 (.inr ⟨hx.1, e1⟩)
    · cases h
  · cases h
theorem vBin_sound (hR : Rel K φ H σ) {op : BinOp} {t ty : TypeId} {ox oy : Operand} (h : vBin P op t x y = some v) (hx : VR K x φ (ρ ox)) (hy : VR K y φ (ρ oy)) : Snd K φ v H (binV P op t ox oy ty ρ ⟨dst, .binOp op t ox oy ty, type, pos, after, guard⟩ σ) := by
  unfold vBin at h
  split at h
  · rename_i a b ha hb
    have ea := toVal_sound ha hx
    have eb := toVal_sound hb hy
    split at h
    · rename_i r hr
      cases h
      unfold binV
      rw [ea, eb, hr]
      exact .same hR ⟨rfl, rfl⟩
    · rename_i hr
      split at h
      · rename_i y hbi
        have hs := binI_sound (P := P) (ρ := ρ) (dst := dst) (type := type) (pos := pos) (after := after) (guard := guard) (ty := ty) (x := ox) (y := oy) (by rw [ea, eb]; exact hbi)
        unfold binV
        rw [show strEq op (ρ ox) (ρ oy) = none by rw [ea, eb]; exact hr]
        have hflat : (flatB (ρ ox) && flatB (ρ oy)) = true := by
          unfold aPure at hs
          split at hs
          · rename_i hc
            simpa [Op.operands] using hc
          · cases hs
        dsimp only
        rw [if_pos hflat, hs]
        exact .same hR (mkLit_sound h)
      · unfold nilI at h
        split at h
        · rename_i hu _
          cases h
          have hs := (aPure_nil (ρ := ρ) (dst := dst) (type := type) (pos := pos) (after := after) (guard := guard) (ty := ty) hu ea eb).1
          unfold binV
          rw [show strEq .eql (ρ ox) (ρ oy) = none by rw [ea, eb]; exact hr]
          dsimp only
          rw [if_pos (by rw [ea, eb]; rfl), hs]
          exact .same hR ⟨rfl, rfl⟩
        · rename_i hu _
          cases h
          have hs := (aPure_nil (ρ := ρ) (dst := dst) (type := type) (pos := pos) (after := after) (guard := guard) (ty := ty) hu ea eb).2
          unfold binV
          rw [show strEq .neq (ρ ox) (ρ oy) = none by rw [ea, eb]; exact hr]
          dsimp only
          rw [if_pos (by rw [ea, eb]; rfl), hs]
          exact .same hR ⟨rfl, rfl⟩
        · cases h
  · split at h
    · cases hq : vEq P t x y with
      | none => rw [hq] at h; cases h
      | some r =>
        rw [hq] at h; cases h
        obtain ⟨h1, h2, h3⟩ := vEq_sound hq hx hy
        unfold binV
        rw [h3, h2, h1]
        exact .same hR ⟨rfl, rfl⟩
    · cases hq : vEq P t x y with
      | none => rw [hq] at h; cases h
      | some r =>
        rw [hq] at h; cases h
        obtain ⟨h1, h2, h3⟩ := vEq_sound hq hx hy
        unfold binV
        rw [h3, h2, h1]
        exact .same hR ⟨rfl, rfl⟩
    · cases h
end
end Go.Proofs.Ytenbclcfhjdcaaa.VM
end
section
set_option maxHeartbeats 8000000
set_option linter.unusedVariables false
set_option linter.unusedSimpArgs false
/- The machine of values: literals, conversions; all operations. -/
namespace Go.Proofs.Ytenbclcfhjdcaaa.VM
open Go AM
section
variable {P : Program} {K K' : Kn} {φ φ' : List Rz} {H H' : Hp} {σ σ' : Heap} {v x y : V} {a b : Value} {q : Bool} {ρ : Operand → V} {ρa : Operand → Value}
variable {dst : Option Tmp} {type : TypeId} {pos : String} {after : Array Edge} {guard : Option (Nat × Bool)}

mutual
/-- It names no object. -/
def pureV : V → Bool
  | .lit _ | .fsl _ _ _ | .fptr _ => true
  | .ptr _ _ | .own _ _ | .elt _ _ _ _ | .junk => false
  | .fn _ fi cp => pureVs fi && pureVs cp
  | .ifc _ v => pureV v
  | .agg cs | .tup cs => pureVs cs
def pureVs : List V → Bool
  | [] => true
  | v :: vs => pureV v && pureVs vs
end
mutual
theorem VR.pure : ∀ {v : V} {a : Value}, VR K v φ a → pureV v = true → VR K v [] a
  | .lit _, _, h, _ => h
  | .fsl _ _ _, _, h, _ => h
  | .fptr _, _, h, _ => h
  | .ptr _ _, _, _, hp => by cases hp
  | .own _ _, _, _, hp => by cases hp
  | .elt _ _ _ _, _, _, hp => by cases hp
  | .junk, _, _, hp => by cases hp
  | .fn f fi cp, a, ⟨fa, ca, h1, h2, h3⟩, hp => by
    simp only [pureV, Bool.and_eq_true] at hp
    exact ⟨fa, ca, h1, VRs.pure h2 hp.1, VRs.pure h3 hp.2⟩
  | .ifc t v, a, ⟨x, h1, h2⟩, hp => ⟨x, h1, VR.pure h2 hp⟩
  | .agg cs, a, ⟨x, h1, h2⟩, hp => ⟨x, h1, VRs.pure h2 hp⟩
  | .tup cs, a, ⟨x, h1, h2⟩, hp => ⟨x, h1, VRs.pure h2 hp⟩
theorem VRs.pure : ∀ {v : List V} {a : List Value}, VRs K v φ a → pureVs v = true → VRs K v [] a
  | [], _, h, _ => h
  | v :: vs, _, ⟨a, as, h1, h2, h3⟩, hp => by
    simp only [pureVs, Bool.and_eq_true] at hp
    exact ⟨a, as, h1, VR.pure h2 hp.1, VRs.pure h3 hp.2⟩
end
theorem RowsR.pure {s : Nat} : ∀ {v : List (List V)} {a : List Value}, RowsR K s v φ a → (∀ r ∈ v, pureVs r = true) → RowsR K s v [] a
  | [], _, h, _ => h
  | v :: vs, _, ⟨a, as, h1, h2, h3, h4⟩, hp => ⟨a, as, h1, h2, h3.pure (hp v (by simp)), RowsR.pure h4 fun r hr => hp r (by simp [hr])⟩
/-- A new object of cells. -/
theorem newMem (hR : Rel K φ H σ) {cs : List V} {vals : List Value} (h : VRs K cs φ vals) (hc : cs.all V.isCell = true) : Snd K φ (.ptr H.length 0) (H ++ [.mem cs true]) ((newBlk σ vals).map fun (a, σ') => (.pointer (some a), σ')) := by
  unfold newBlk
  rw [if_pos (h.cells hc)]
  have hp : Post φ.length K φ K (φ ++ [.mem σ.length]) := ⟨fun _ _ h => h, fun k q hk hq => ⟨q, by rw [List.getElem?_append_left hk]; exact hq, .refl _⟩⟩
  obtain ⟨h5, h6⟩ := (hR.new vals .full).snoc (r := .mem σ.length) (y := .mem cs true) ⟨vals, .full, by simp, rfl, h.on hp⟩ (fun b hb => by cases hb; exact hR.not_used)
  exact ⟨_, _, K, _, rfl, h6, h5, σ.length, by rw [← hR.len]; simp, rfl⟩
/-- New rows of one's own. -/
theorem newVec (hR : Rel K φ H σ) {s c : Nat} {rows : List (List V)} {vals : List Value} (h : RowsR K s rows φ vals) (ho : RowsOk s rows) (hs : 0 < s) (hs1 : s ≤ 1048576) (hcap : (c = 0 ∧ rows.length = 0) ∨ CapV true c s rows.length (rows.length * s)) :
    Snd K φ (.own H.length 0) (H ++ [.vec 0 rows s true true]) ((newBlk σ vals).map fun (a, σ') => (.slice (some a) rows.length c, σ')) := by
  unfold newBlk
  rw [if_pos (h.cells ho)]
  have hvl := h.len
  rcases hcap with ⟨hc0, hr0⟩ | hcap
  · have hr : rows = [] := List.eq_nil_of_length_eq_zero hr0
    subst hr; subst hc0
    have hv : vals = [] := h
    subst hv
    obtain ⟨h3, h4⟩ := (hR.new [] .full).know (b := σ.length) (c := []) (p := .full) (by simp) (by simp) (fun g r hg hb => hR.not_used (.inr ⟨g, r, hg, hb⟩))
    obtain ⟨h5, h6⟩ := h3.snoc (r := .vec (.slice (some ⟨σ.length, 0, none⟩) 0 0) 0 s) (y := .vec 0 [] s true true)
      ⟨rfl, rfl, hs, hs1, ho, .inl ⟨rfl, .inr ⟨σ.length, 0, [], rfl, by simp [Kn.add], by simp⟩⟩⟩ (fun b hb => by cases hb)
    exact ⟨_, _, _, _, rfl, h4.trans h6 (Nat.le_refl _), h5, .vec (.slice (some ⟨σ.length, 0, none⟩) 0 0) 0 s, _, 0, s, by rw [← hR.len]; simp, rfl, Nat.le_refl _, fun _ => rfl, _, _, _, rfl⟩
  have hp : Post φ.length K φ K (φ ++ [.vec (.slice (some ⟨σ.length, 0, none⟩) rows.length c) 0 s]) := ⟨fun _ _ h => h, fun k q hk hq => ⟨q, by rw [List.getElem?_append_left hk]; exact hq, .refl _⟩⟩
  obtain ⟨h5, h6⟩ := (hR.new vals .full).snoc (r := .vec (.slice (some ⟨σ.length, 0, none⟩) rows.length c) 0 s) (y := .vec 0 rows s true true)
    ⟨rfl, rfl, hs, hs1, ho, .inr ⟨σ.length, c, vals, [], .full, rfl, by simpa [hvl] using hcap, by simp, rfl, h.on hp⟩⟩ (fun b hb => by rw [vec_blk rfl hcap] at hb; cases hb; exact hR.not_used)
  exact ⟨_, _, K, _, rfl, h6, h5, .vec (.slice (some ⟨σ.length, 0, none⟩) rows.length c) 0 s, _, 0, s, by rw [← hR.len]; simp, rfl, Nat.le_refl _, fun _ => rfl, _, _, _, rfl⟩
/-- Room just for what there is. -/
theorem capX {s n : Nat} (h : n ≤ 17179869184) : (n = 0 ∧ n = 0) ∨ CapV true n s n (n * s) := by
  by_cases h0 : n = 0
  · exact .inl ⟨h0, h0⟩
  · exact .inr ⟨h0, n, Nat.le_refl _, Nat.le_refl _, fun _ => rfl, .inl (capOf_exact_eq (by simp only [top]; omega))⟩
/-- New frozen rows. -/
theorem newFsl (hR : Rel K φ H σ) {s c : Nat} {rows : List (List V)} {vals : List Value} (h : RowsR K s rows φ vals) (ho : RowsOk s rows) (hpu : ∀ r ∈ rows, pureVs r = true) (hs1 : s < 4294967296) (hcd : c < AM.dng) (hcap : capOK c s rows.length) :
    Snd K φ (.fsl true s rows) H ((newBlk σ vals).map fun (a, σ') => (.slice (some a) rows.length c, σ')) := by
  unfold newBlk
  rw [if_pos (h.cells ho)]
  obtain ⟨h5, h6⟩ := (hR.new vals .full).know (b := σ.length) (c := vals) (p := .full) (by simp) (by simp) (fun g r hg hb => hR.not_used (.inr ⟨g, r, hg, hb⟩))
  refine ⟨_, _, K.add σ.length vals, φ, rfl, h6, h5, _, c, rfl, (fun e => by cases e), (fun _ => hcd), hcap, hs1, .inr ⟨σ.length, 0, vals, rfl, by simp [Kn.add], ?_, ?_⟩⟩
  · rw [h.len]; omega
  · rw [List.drop_zero, ← h.len, List.take_length]
    exact (h.pure hpu).monoN (n := 0) ⟨h6.kn, fun g r hg => by omega⟩
def litCells (l : List Value) : Option (List V) := if l.all (fun x => scalarB x && cellB x) = true then some (l.map .lit) else none
theorem litCells_sound {l : List Value} {cs : List V} (h : litCells l = some cs) : VRs K cs φ l ∧ cs.all V.isCell = true := by
  unfold litCells at h
  split at h
  · rename_i hc
    cases h
    rw [List.all_eq_true] at hc
    refine ⟨VRs.lits fun x hx => by have := hc x hx; simp only [Bool.and_eq_true] at this; exact this.1, ?_⟩
    rw [List.all_map, List.all_eq_true]
    intro x hx
    have := hc x hx; simp only [Bool.and_eq_true] at this; exact this.2
  · cases h
def partVV (P : Program) (t : TypeId) (cs : List V) (off : Nat) : Option V := match aggOf P t, szOf P t with
  | some true, some n => some (.agg ((cs.drop off).take n))
  | some false, _ => cs[off]?
  | _, _ => none
theorem partVV_sound {t : TypeId} {cs : List V} {xs : Array Value} {off : Nat} (h : partVV P t cs off = some v) (hr : VRs K cs φ xs.toList) : ∃ y, partV P t xs off = some y ∧ VR K v φ y := by
  unfold partVV at h
  unfold partV
  split at h
  · rename_i n h1 h2
    cases h
    rw [h1, h2]
    refine ⟨_, rfl, _, rfl, ?_⟩
    have := (hr.drop off).take n
    rw [Array.toList_extract]
    simp only [List.extract_eq_take_drop]
    rw [Nat.add_sub_cancel_left]
    exact this
  · rename_i h1
    rw [h1]
    obtain ⟨y, e1, e2⟩ := hr.get h
    exact ⟨y, by simpa using e1, e2⟩
  · cases h
def vFieldAddr (P : Program) (t : TypeId) (x : V) (f : Nat) : Option V := match fieldOf P t f with
  | some (off, ft) => match szOf P ft with
    | some (_ + 1) => match x with
      | .ptr g o => some (.ptr g (o + off))
      | .fptr cs => if off ≤ cs.length then some (.fptr (cs.drop off)) else none
      | .elt g w k o => some (.elt g w k (o + off))
      | _ => none
    | _ => none
  | none => none
theorem vFieldAddr_sound {t : TypeId} {f : Nat} (h : vFieldAddr P t x f = some v) (hr : VR K x φ a) : ∃ off ft n ad, fieldOf P t f = some (off, ft) ∧ szOf P ft = some (n + 1) ∧ a = .pointer (some ad) ∧ VR K v φ (.pointer (some (ad.add off))) := by
  unfold vFieldAddr at h
  split at h
  · rename_i off ft h1
    split at h
    · rename_i n h2
      refine ⟨off, ft, n, ?_⟩
      split at h
      · cases h
        obtain ⟨b, e1, rfl⟩ := hr
        exact ⟨_, h1, h2, rfl, b, e1, by rw [Addr.add_lit]⟩
      · rename_i cs
        split at h
        · cases h
          obtain ⟨b, o, cells, rfl, e2, e3, e4⟩ := hr
          refine ⟨_, h1, h2, rfl, b, o + off, cells, by rw [Addr.add_lit], e2, by rw [List.length_drop]; omega, ?_⟩
          have := e4.drop off
          rw [List.drop_take, List.drop_drop] at this
          rw [List.length_drop]; exact this
        · cases h
      · cases h
        obtain ⟨r, val, w', s, e1, e2, e3, e4, ad, rfl⟩ := hr
        refine ⟨ad, h1, h2, rfl, r, val, w', s, e1, e2, e3, fun e => ?_, _, rfl⟩
        obtain ⟨b, oo, n, c, f1, f2⟩ := e4 e
        cases f2
        exact ⟨b, oo, n, c, f1, by rw [Addr.add_lit, Nat.add_assoc]⟩
      · cases h
    · cases h
  · cases h
/-- A literal's cells. -/
def fillV (place : Nat → Option (Nat × Nat)) (cells : List V) : List (Nat × V) → Option (List V)
  | [] => some cells
  | (i, v) :: rest => match place i with
    | none => none
    | some (off, size) => if v.cells.length = size ∧ off + size ≤ cells.length ∧ v.cells.all V.isCell = true then fillV place (spl cells off v.cells) rest else none
theorem foldl_set (off : Nat) : ∀ (l : List Value) (k : Nat) (cs : Array Value), off + k + l.length ≤ cs.size → ((l.zipIdx k).foldl (fun cs (c, j) => cs.setIfInBounds (off + j) c) cs).toList = AM.splice cs.toList (off + k) l
  | [], k, cs, _ => by simp [AM.splice]
  | c :: l, k, cs, h => by
    simp only [List.length_cons] at h
    rw [List.zipIdx_cons, List.foldl_cons, foldl_set off l (k + 1) _ (by simp; omega)]
    unfold AM.splice
    have h1 : off + k < cs.toList.length := by simp; omega
    apply List.ext_getElem?
    intro i
    simp only [Array.toList_setIfInBounds, List.getElem?_append, List.length_append, List.length_take, List.length_set, List.getElem?_take, List.getElem?_set, List.getElem?_drop, List.length_cons]
    have h2 : min (off + (k + 1)) cs.toList.length = off + k + 1 := by omega
    have h3 : min (off + k) cs.toList.length = off + k := by omega
    simp only [h2, h3]
    rcases Nat.lt_trichotomy i (off + k) with hi | hi | hi
    · simp [show i < off + k + 1 by omega, hi, show off + k ≠ i by omega, show i < off + k + 1 + l.length by omega, show i < off + (k + 1) by omega, show i < off + k + (l.length + 1) by omega]
    · subst hi
      have h5 : off + k - min (off + k) cs.toList.length = 0 := by omega
      have h6 : off + k < cs.size := by simpa using h1
      simp [show off + k < off + (k + 1) by omega, h6]
      intro h; omega
    · have e1 : i - (off + k) = (i - (off + k + 1)) + 1 := by omega
      simp only [show ¬ i < off + k + 1 by omega, show ¬ i < off + k by omega, if_false, e1, List.getElem?_cons_succ]
      by_cases h4 : i < off + k + 1 + l.length
      · rw [if_pos (by omega), if_pos (by omega)]
      · rw [if_neg (by omega), if_neg (by omega), if_neg (by omega)]
        congr 1; omega
def PsR (K : Kn) (φ : List Rz) : List (Nat × V) → List (Nat × Value) → Prop
  | [], l => l = []
  | (i, v) :: ps, l => ∃ a as, l = (i, a) :: as ∧ VR K v φ a ∧ PsR K φ ps as
theorem fillV_sound {place : Nat → Option (Nat × Nat)} : ∀ {ps : List (Nat × V)} {cells : List V} {r : List V} {psA : List (Nat × Value)} {xs : Array Value}, fillV place cells ps = some r → VRs K cells φ xs.toList →
    PsR K φ ps psA → ∃ ys, Instr.fill place xs psA = some ys ∧ VRs K r φ ys.toList
  | [], cells, r, _, xs, h, hx, hp => by cases h; simp only [PsR] at hp; subst hp; exact ⟨xs, rfl, hx⟩
  | (i, v) :: ps, cells, r, _, xs, h, hx, ⟨a, psA, h1, h2, h3⟩ => by
    subst h1
    unfold fillV at h
    unfold Instr.fill
    split at h
    · cases h
    · rename_i off size hpl
      rw [hpl]
      split at h
      · rename_i hc
        obtain ⟨c1, c2, c3⟩ := hc
        obtain ⟨hv, _⟩ := h2.cells c3
        have hl := hv.len
        have hxl := hx.len
        simp only [Array.length_toList] at hl hxl
        dsimp only
        generalize a.cells = A at hv hl ⊢
        have hcond : ¬ ((A.size ≠ size || off + A.size > xs.size) = true) := by
          have e1 : A.size = size := by omega
          have e2 : ¬ (off + size > xs.size) := by omega
          simp [e1]; omega
        rw [if_neg hcond]
        refine fillV_sound h ?_ h3
        have := foldl_set off A.toList 0 xs (by simp; omega)
        rw [← Array.foldl_toList, Array.toList_zipIdx, this, Nat.add_zero]
        exact hx.splice hv
      · cases h
def vBuild (P : Program) (t : TypeId) (parts : List (Nat × V)) : Option V := match zeroOf P t, placesOf P t with
  | some (.agg zs), some pl => if flatB (.agg zs) = true then (fillV (fun x => pl.toArray[x]?) (zs.toList.map .lit) parts).map .agg else none
  | _, _ => none
theorem junk_of (h : VR K v φ a) (hc : v.cells.all V.isCell = true) : junkB a = false := by
  cases v with
  | agg cs => obtain ⟨xs, rfl, _⟩ := h; rfl
  | _ =>
    have := (h.cell (by simpa [V.cells] using hc)).1
    simp only [cellB, Bool.and_eq_true, Bool.not_eq_true'] at this
    exact this.2
theorem fillV_cells {place : Nat → Option (Nat × Nat)} : ∀ {ps : List (Nat × V)} {cells r : List V}, fillV place cells ps = some r → ∀ p ∈ ps, p.2.cells.all V.isCell = true
  | [], _, _, _, p, hp => by simp at hp
  | (i, v) :: ps, cells, r, h, p, hp => by
    unfold fillV at h
    split at h
    · cases h
    · split at h
      · rename_i hc
        rcases List.mem_cons.1 hp with rfl | hp
        · exact hc.2.2
        · exact fillV_cells h p hp
      · cases h
theorem forall2_junk : ∀ {ps : List (Nat × V)} {psA : List (Nat × Value)}, PsR K φ ps psA → (∀ p ∈ ps, p.2.cells.all V.isCell = true) → ∀ p ∈ psA, (!junkB p.2) = true
  | [], _, h, _, p, hp => by simp only [PsR] at h; subst h; simp at hp
  | (i, v) :: ps, _, ⟨a, psA, h1, h2, h3⟩, hc, p, hp => by
    subst h1
    rcases List.mem_cons.1 hp with rfl | hp
    · rw [junk_of h2 (hc (i, v) (by simp))]; rfl
    · exact forall2_junk h3 (fun p hp => hc p (by simp [hp])) p hp
theorem vBuild_sound {t : TypeId} {ps : List (Nat × V)} {psA : Array (Nat × Value)} (h : vBuild P t ps = some v) (hps : PsR K φ ps psA.toList) : ∃ y, buildV P t psA = some y ∧ VR K v φ y := by
  unfold vBuild at h
  split at h
  · rename_i zs pl h1 h2
    split at h
    · rename_i hf
      cases hfi : fillV (fun x => pl.toArray[x]?) (zs.toList.map .lit) ps with
      | none => rw [hfi] at h; cases h
      | some r =>
        rw [hfi] at h; cases h
        have hz : VRs K (zs.toList.map .lit) φ zs.toList := VRs.lits (List.all_eq_true.1 (by rw [Array.all_toList]; exact hf))
        obtain ⟨ys, e1, e2⟩ := fillV_sound hfi hz hps
        rw [buildV_struct h1 hf h2]
        have hj : (psA.all fun (_, x) => !junkB x) = true := by
          rw [← Array.all_toList, List.all_eq_true]
          exact forall2_junk hps (fillV_cells hfi)
        rw [if_pos hj, e1]
        exact ⟨_, rfl, ys, rfl, e2⟩
    · cases h
  · cases h
end
end Go.Proofs.Ytenbclcfhjdcaaa.VM
end
section
set_option maxHeartbeats 8000000
set_option linter.unusedVariables false
set_option linter.unusedSimpArgs false
/- The machine of values: one operation. -/
namespace Go.Proofs.Ytenbclcfhjdcaaa.VM
open Go AM
section
variable {P : Program} {K K' : Kn} {φ φ' : List Rz} {H H' : Hp} {σ σ' : Heap} {v x y : V} {a b : Value} {q : Bool} {ρ : Operand → V} {ρa : Operand → Value}
variable {dst : Option Tmp} {type : TypeId} {pos : String} {after : Array Edge} {guard : Option (Nat × Bool)}

/-- Rows of a slice literal: its parts in order. -/
def litRows (s len : Nat) (ps : List (Nat × V)) : Option (List (List V)) :=
  if ps.map (·.1) = List.range len ∧ RowsOk s (ps.map fun p => p.2.cells) then some (ps.map fun p => p.2.cells) else none
theorem zip_of : ∀ {ps : List (Nat × Value)} {k : Nat}, ps.map (·.1) = (List.range ps.length).map (· + k) → ps = ((ps.map (·.2)).zipIdx k).map fun x => (x.2, x.1)
  | [], _, _ => rfl
  | (i, a) :: ps, k, h => by
    simp only [List.map_cons, List.length_cons, List.range_succ_eq_map, List.map_map, List.cons.injEq, Nat.zero_add] at h
    obtain ⟨h1, h2⟩ := h
    subst h1
    have := zip_of (ps := ps) (k := i + 1) (by rw [h2]; apply List.map_congr_left; intro j _; simp; omega)
    rw [List.map_cons, List.zipIdx_cons, List.map_cons]
    rw [← this]
theorem PsR.rows {s : Nat} : ∀ {ps : List (Nat × V)} {psA : List (Nat × Value)}, PsR K φ ps psA → RowsOk s (ps.map fun p => p.2.cells) → RowsR K s (ps.map fun p => p.2.cells) φ ((psA.map (·.2)).flatMap fun v => v.cells.toList) ∧ (∀ v ∈ psA.map (·.2), v.cells.size = s) ∧ psA.map (·.1) = ps.map (·.1)
  | [], _, h, _ => by simp only [PsR] at h; subst h; exact ⟨rfl, by simp, rfl⟩
  | (i, v) :: ps, _, ⟨a, as, h1, h2, h3⟩, ho => by
    subst h1
    have hv := ho v.cells (by simp)
    obtain ⟨e1, e2, e3⟩ := PsR.rows h3 (fun r hr => ho r (by simp at hr ⊢; exact .inr hr))
    obtain ⟨c1, _⟩ := h2.cells hv.2
    refine ⟨⟨a.cells.toList, _, by simp, hv.1, c1, e1⟩, ?_, by simp [e3]⟩
    intro u hu
    rcases List.mem_cons.1 hu with rfl | hu
    · have := c1.len; rw [hv.1] at this; simpa using this
    · exact e2 u hu
def vLit (P : Program) (own : Bool) (t : TypeId) (len : Nat) (ps : List (Nat × V)) (H : Hp) : Option (V × Hp) := match P.underlying t with
  | some (.slice e) => match szOf P e, zerosOf P e len with
    | some s, some zs => if zs.length = len * s ∧ 0 < s ∧ s ≤ 1048576 ∧ len * s ≤ 16777216 ∧ len ≤ 16777216 then (match litRows s len ps with
      | some rows => if own = false ∧ 0 < len ∧ rows.all pureVs = true then some (.fsl true s rows, H) else some (.own H.length 0, H ++ [.vec 0 rows s true true])
      | none => none) else none
    | _, _ => none
  | _ => none
theorem vLit_sound (hR : Rel K φ H σ) {own : Bool} {t : TypeId} {len : Nat} {ps : List (Nat × V)} {psA : Array (Nat × Value)} (h : vLit P own t len ps H = some (v, H')) (hps : PsR K φ ps psA.toList) :
    Snd K φ v H' ((buildSliceV P t len psA).bind fun cs => (newBlk σ cs).map fun (a, σ') => (.slice (some a) len len, σ')) := by
  unfold vLit at h
  split at h
  · rename_i e hu
    split at h
    · rename_i s zs hs hz
      split at h
      · rename_i hc
        obtain ⟨c1, c2, c3, c4, c5⟩ := hc
        split at h
        · rename_i rows hl
          unfold litRows at hl
          split at hl
          · rename_i hr
            obtain ⟨r1, r2⟩ := hr
            cases hl
            obtain ⟨e1, e2, e3⟩ := hps.rows r2
            have hlen : ps.length = len := by have := congrArg List.length r1; simpa using this
            have hpsl : psA.toList.length = len := by have := congrArg List.length e3; simp at this ⊢; omega
            have hzip : psA.toList = ((psA.toList.map (·.2)).zipIdx 0).map fun x => (x.2, x.1) := zip_of (by rw [e3, r1, hpsl]; simp)
            have hfill : Instr.fill (fun i => some (i * s, s)) zs.toArray psA.toList = some ((psA.toList.map (·.2)).flatMap fun v => v.cells.toList).toArray := by
              conv => lhs; rw [hzip]
              exact Great.fill_whole c2 _ _ e2 (by simp only [List.length_map, hpsl]; simpa using c1.symm)
            have hj : (psA.all fun (_, x) => !junkB x) = true := by
              rw [← Array.all_toList, List.all_eq_true]
              exact forall2_junk hps (fun p hp => (r2 p.2.cells (List.mem_map.2 ⟨p, hp, rfl⟩)).2)
            have hb : buildSliceV P t len psA = some ((psA.toList.map (·.2)).flatMap fun v => v.cells.toList) := by
              unfold buildSliceV
              rw [hu]; dsimp only; rw [hs, hz]; dsimp only
              rw [if_pos ⟨c4, by simp only [top]; omega, hj⟩, hfill]; rfl
            rw [hb]
            have hrl : (ps.map fun p => p.2.cells).length = len := by simp [hlen]
            split at h
            · rename_i hc
              cases h
              have := newFsl hR (c := len) e1 r2 (fun r hr => List.all_eq_true.1 hc.2.2 r hr) (by omega) (by simp only [AM.dng]; omega) (by unfold capOK; rw [capOf_exact_eq (by simp only [top]; omega), hrl]; exact Nat.le_refl _)
              rw [hrl] at this
              exact this
            · cases h
              have := newVec hR (c := len) e1 r2 c2 c3 (by rw [hrl]; exact capX (by omega))
              rw [hrl] at this
              exact this
          · cases hl
        · cases h
      · cases h
    · cases h
  · cases h
theorem rows_rep {s : Nat} {z : List Value} (hz : z.length = s) (hs : ∀ x ∈ z, scalarB x = true) : ∀ n, RowsR K s (List.replicate n (z.map .lit)) φ (List.replicate n z).flatten
  | 0 => rfl
  | n + 1 => ⟨z, _, by rw [List.replicate_succ, List.flatten_cons], by simp [hz], VRs.lits hs, rows_rep hz hs n⟩
def vMake (P : Program) (t : TypeId) (l c : V) (H : Hp) : Option (V × Hp) := match P.underlying t, isInt l, isInt c with
  | some (.slice e), some l, some c => match szOf P e, byOf P e, zerosOf P e 1 with
    | some s, some bytes, some z => if l = c ∧ 0 ≤ l ∧ c ≤ 17179869184 ∧ bytes ≤ 4096 ∧ 0 < s ∧ s ≤ 1048576 ∧ z.length = s ∧ z.all (fun x => scalarB x && cellB x) = true then some (.own H.length 0, H ++ [.vec 0 (List.replicate l.toNat (z.map .lit)) s true true]) else none
    | _, _, _ => none
  | _, _, _ => none
theorem zeros_one {t n : Nat} {z : List Value} (h : zerosOf P t 1 = some z) : zerosOf P t n = some (List.replicate n z).flatten := by
  unfold zerosOf at h ⊢
  split at h
  · rename_i z' s h1 h2
    split at h
    · rename_i hc
      cases h
      rw [if_pos hc]
      simp
    · cases h
  · cases h
def makeA (P : Program) (t : TypeId) (la ca : Value) (σ : Heap) : Option (Value × Heap) := match P.underlying t, la, ca with
    | some (.slice e), .int _ l, .int _ c => match byOf P e with
      | some bytes => if 0 ≤ l ∧ l ≤ c ∧ c ≤ 17179869184 ∧ bytes ≤ 4096 then (zerosOf P e c.toNat).bind fun zs => (newBlk σ zs).map fun (a, σ') => (.slice (some a) l.toNat c.toNat, σ') else none
      | none => none
    | _, _, _ => none
theorem vMake_sound (hR : Rel K φ H σ) {t : TypeId} {l c : V} {la ca : Value} (h : vMake P t l c H = some (v, H')) (hl : VR K l φ la) (hc : VR K c φ ca) :
    Snd K φ v H' (makeA P t la ca σ) := by
  unfold makeA
  unfold vMake at h
  split at h
  · rename_i e l' c' hu i1 i2
    obtain ⟨k1, rfl⟩ := isInt_sound i1 hl
    obtain ⟨k2, rfl⟩ := isInt_sound i2 hc
    split at h
    · rename_i s bytes z h1 h2 h3
      split at h
      · rename_i hc
        obtain ⟨rfl, c1, c2, c3, c4, c5, c6, c7⟩ := hc
        cases h
        rw [hu]; dsimp only
        rw [h2]; dsimp only
        rw [if_pos ⟨c1, Int.le_refl _, c2, c3⟩, zeros_one h3]
        have hz : ∀ x ∈ z, scalarB x = true ∧ cellB x = true := fun x hx => by have := List.all_eq_true.1 c7 x hx; simpa using this
        have := newVec hR (c := l'.toNat) (rows_rep (n := l'.toNat) (φ := φ) (K := K) c6 fun x hx => (hz x hx).1) (s := s)
          (fun r hr => by
            rw [(List.mem_replicate.1 hr).2]
            refine ⟨by simp [c6], ?_⟩
            rw [List.all_map, List.all_eq_true]
            exact fun x hx => (hz x hx).2) c4 c5 (by rw [List.length_replicate]; exact capX (by omega))
        rw [List.length_replicate] at this
        exact this
      · cases h
    · cases h
  · cases h
/-- Bytes of rows. -/
def bytesV : List (List V) → Option (List UInt8)
  | [] => some []
  | [.lit v] :: l => match byteOfV v, bytesV l with
    | some b, some bs => some (b :: bs)
    | _, _ => none
  | _ => none
theorem bytesV_sound : ∀ {rows : List (List V)} {bs : List UInt8} {vals : List Value}, bytesV rows = some bs → RowsR K 1 rows φ vals → vals.mapM byteOfV = some bs
  | [], _, _, h, hr => by cases h; simp only [RowsR] at hr; subst hr; rfl
  | r :: rs, bs, _, h, ⟨a, as, h1, h2, h3, h4⟩ => by
    subst h1
    match r, h2, h3, h with
    | [x], h2, h3, h =>
      obtain ⟨a1, as1, e1, e2, e3⟩ := h3
      simp only [VRs] at e3
      subst e3; subst e1
      unfold bytesV at h
      split at h
      · rename_i hq; cases hq
      · rename_i v l hq
        cases hq
        obtain ⟨rfl, _⟩ := e2
        split at h
        · rename_i b bs' h5 h6
          cases h
          have := bytesV_sound h6 h4
          simp [List.mapM_cons, h5, this]
        · cases h
      · cases h
def vConv (P : Program) (own : Bool) (src dt : TypeId) (x : V) (H : Hp) : Option (V × Hp) := match P.underlying src, P.underlying dt with
  | some (.slice e), some .string => match P.underlying e, rowsOf H 1 x with
    | some (.int .u8), some rows => if 0 < rows.length then (bytesV rows).map fun bs => (.lit (.string ⟨bs.toArray⟩), H) else none
    | _, _ => none
  | some .string, some (.slice e) => match P.underlying e, x with
    | some (.int .u8), .lit (.string s) => if s.size ≤ 17179869184 then
        (if own = false then some (.fsl true 1 ((byteCells s).map fun c => [.lit c]), H) else some (.own H.length 0, H ++ [.vec 0 ((byteCells s).map fun c => [.lit c]) 1 true true])) else none
    | _, _ => none
  | some (.slice _), some (.slice e) => match P.underlying e, x with
    | some (.int .u8), .own g w => match H[g]? with
      | some (.vec w' (_ :: _) _ true _) => if src = dt ∧ w = w' then some (x, H) else none
      | _ => none
    | _, _ => none
  | _, _ => match toVal x with
    | some (.int k n) => ((convI P src dt (.int k n)).bind mkLit).map (·, H)
    | _ => none
theorem byteRows_ok {s : ByteArray} : RowsOk 1 ((byteCells s).map fun c => [V.lit c]) := fun r hr => by
  obtain ⟨c, hc, rfl⟩ := List.mem_map.1 hr
  unfold byteCells at hc
  obtain ⟨y, _, rfl⟩ := List.mem_map.1 hc
  exact ⟨rfl, rfl⟩
def convA (P : Program) (src dt : TypeId) (x : Value) (alt : Option Value) (σ : Heap) : Option (Value × Heap) := match P.underlying src, P.underlying dt, x with
    | some (.slice e), some .string, .slice A n _ => match P.underlying e with
      | some (.int .u8) => match A with
        | some a => match readN σ a n with
          | some cs => match cs.mapM byteOfV with
            | some bs => some (.string ⟨bs.toArray⟩, σ)
            | none => none
          | none => none
        | none => none
      | _ => none
    | some (.slice _), some (.slice e), .slice (some a) n c => match P.underlying e, σ[a.block]? with
      | some (.int .u8), some b => if src = dt ∧ b.perm = .full ∧ c < dng then some (.slice (some a) n c, σ) else none
      | _, _ => none
    | some .string, some (.slice e), .string s => match P.underlying e with
      | some (.int .u8) => if s.size ≤ 17179869184 then (newBlk σ (byteCells s)).map fun (a, σ') => (.slice (some a) s.size (unk 1 s.size), σ') else none
      | _ => none
    | _, _, _ => alt.map (·, σ)
theorem vConv_sound (hR : Rel K φ H σ) {own : Bool} {src dt : TypeId} {ox : Operand} (h : vConv P own src dt x H = some (v, H')) (hx : VR K x φ (ρa ox)) :
    Snd K φ v H' (convA P src dt (ρa ox) (aPure P ρa ⟨dst, .convert src dt ox, type, pos, after, guard⟩) σ) := by
  unfold vConv at h
  unfold convA
  split at h
  · rename_i e h1 h2
    split at h
    · rename_i rows h3 h4
      split at h
      case isFalse => cases h
      rename_i hlen
      cases hb : bytesV rows with
      | none => rw [hb] at h; cases h
      | some bs =>
        rw [hb] at h; cases h
        obtain ⟨A, c, e1, e2, e3, e4, ⟨e5, _⟩ | ⟨b, o, vals, e5, e6, e7⟩⟩ := rowsOf_sound hR (by omega) h4 hx
        · omega
        · subst e5
          rw [e1, h1, h2]; dsimp only
          rw [h3]; dsimp only
          rw [readN_eq]
          rw [Nat.mul_one] at e6
          rw [e6]; dsimp only
          rw [bytesV_sound hb e7]
          exact .same hR ⟨rfl, rfl⟩
    · cases h
  · rename_i e h1 h2
    split at h
    · rename_i s h3
      obtain ⟨e1, _⟩ := hx
      rw [e1, h1, h2]; dsimp only
      rw [h3]; dsimp only
      split at h
      · rename_i hn
        rw [if_pos hn]
        have hl : ((byteCells s).map fun c => [V.lit c]).length = s.size := by rw [List.length_map, byteCells_len]
        split at h
        · cases h
          have := newFsl hR (c := unk 1 s.size) (rows1 (K := K) (φ := φ) (byteCells_scalar (b := s))) byteRows_ok (fun r hr => by obtain ⟨c, _, rfl⟩ := List.mem_map.1 hr; rfl) (by omega) (by unfold unk top AM.dng; omega) (by rw [hl]; exact capOK_of (capOf_unkS hn (by omega)) (Nat.le_refl _))
          rw [hl] at this
          exact this
        · cases h
          have := newVec hR (c := unk 1 s.size) (rows1 (K := K) (φ := φ) (byteCells_scalar (b := s))) byteRows_ok (by omega) (by omega) (.inr (by rw [hl]; exact capV_new hn (by omega) (Nat.le_refl _)))
          rw [hl] at this
          exact this
      · cases h
    · cases h
  · rename_i e1 e2 h1 h2
    split at h
    · rename_i g w h3
      split at h
      · rename_i w' r0 rows s t hg
        split at h
        · rename_i hc
          obtain ⟨rfl, rfl⟩ := hc
          cases h
          obtain ⟨r, val, w', s1, g1, g2, g3, g4, g5⟩ := hx
          have hob := hR.ob g _ _ hg g1
          cases r with
          | mem _ => cases g2
          | fro _ _ _ => exact hob.elim
          | vec val1 w2 s2 =>
            cases g2
            obtain ⟨f1, f2, f3, f4, f5, f6⟩ := hob
            subst f1; subst f2
            have g4 := g4 rfl
            rcases f6 with ⟨f6, _⟩ | ⟨b, c, vals, rest, p, f6, f7, f8, f9, _⟩
            · simp at f6
            · have hp : p = .full := f9
              subst hp
              subst f6
              rw [g4, h1]; dsimp only
              have h3' := h3
              rw [show e2 = e1 by rw [h1] at h2; cases h2; rfl] at h3'
              rw [h3', f8]; dsimp only
              have hc : c < dng := by
                obtain ⟨_, C, _, _, _, f7 | f7⟩ := f7
                · have := (capOf_exact f7).2; simp only [top, AM.dng] at *; omega
                · by_cases hd : c < AM.dng
                  · exact hd
                  · exfalso
                    rw [capOf_unk f7] at hd f7
                    exact unk_dng (Nat.le_of_not_lt hd) f7
              rw [if_pos ⟨rfl, rfl, hc⟩]
              exact .same hR ⟨_, _, _, _, g1, rfl, Nat.le_refl _, fun _ => rfl, _, _, _, rfl⟩
        · cases h
      · cases h
    · cases h
  · rename_i n1 n2 n3
    split at h
    · rename_i k n hk
      have e1 := toVal_sound hk hx
      cases hci : convI P src dt (.int k n) with
      | none => rw [hci] at h; cases h
      | some y =>
        rw [hci] at h
        simp only [Option.bind_some] at h
        cases hm : mkLit y with
        | none => rw [hm] at h; cases h
        | some l =>
          rw [hm] at h; cases h
          rw [aPure_conv, e1, hci]
          split
          · rename_i hq; cases hq
          · rename_i hq; cases hq
          · rename_i hq; cases hq
          · exact .same hR (mkLit_sound hm)
    · cases h
/-- Rows are copied. -/
def vCopy (P : Program) (t tx : TypeId) (d x : V) (H : Hp) : Option (V × Hp) := match P.underlying t, P.underlying tx with
  | some (.slice e), some (.slice _) => match szOf P e, d with
    | some s, .own g w => match H[g]? with
      | some (.vec w' rows s' true t) => if w = w' ∧ s = s' then (match rowsOf H s x with
        | some xs => if RowsOk s xs then some (.lit (.int .i64 (Nat.min xs.length rows.length : Nat)), H.set g (.vec w' (xs.take (Nat.min xs.length rows.length) ++ rows.drop (Nat.min xs.length rows.length)) s true t)) else none
        | none => none) else none
      | _ => none
    | _, _ => none
  | _, _ => none
end
end Go.Proofs.Ytenbclcfhjdcaaa.VM
end
section
set_option maxHeartbeats 8000000
set_option linter.unusedVariables false
set_option linter.unusedSimpArgs false
/- The machine of values: all operations. -/
namespace Go.Proofs.Ytenbclcfhjdcaaa.VM
open Go AM
section
variable {P : Program} {K K' : Kn} {φ φ' : List Rz} {H H' : Hp} {σ σ' : Heap} {v x y : V} {a b : Value} {q : Bool} {ρ : Operand → V} {ρa : Operand → Value}
variable {dst : Option Tmp} {type : TypeId} {pos : String} {after : Array Edge} {guard : Option (Nat × Bool)}

def copyA (P : Program) (t tx : TypeId) (d x : Value) (σ : Heap) : Option (Value × Heap) := match P.underlying t, d with
      | some (.slice e), .slice A n _ => match szOf P e with
        | some size => match (match x with | .slice _ _ _ => srcOf P σ size tx x | _ => none) with
          | some (m, xs) =>
            if Nat.min m n = 0 then some (.int .i64 0, σ) else
            match A with
            | some a => (writeN σ a (xs.take (Nat.min m n * size))).map fun σ' => (.int .i64 (Nat.min m n : Nat), σ')
            | none => none
          | none => none
        | none => none
      | _, _ => none
theorem vCopy_sound (hR : Rel K φ H σ) {t tx : TypeId} {d : V} {da : Value} (h : vCopy P t tx d x H = some (v, H')) (hd : VR K d φ da) (hx : VR K x φ a) : Snd K φ v H' (copyA P t tx da a σ) := by
  unfold vCopy at h
  split at h
  · rename_i e e' hu hu'
    split at h
    · rename_i s g w hs
      split at h
      · rename_i w' rows s' t' hg
        split at h
        · rename_i hc
          obtain ⟨rfl, rfl⟩ := hc
          split at h
          · rename_i xs hxs
            split at h
            · rename_i ho
              cases h
              obtain ⟨r, val, w', s1, g1, g2, g3, g4, A0, n0, c0, g5⟩ := hd
              have hob := hR.ob g _ _ hg g1
              cases r with
              | mem _ => cases g2
              | fro _ _ _ => exact hob.elim
              | vec val1 w2 s2 =>
                cases g2
                obtain ⟨f1, f2, f3, f4, f5, f6⟩ := hob
                subst f1; subst f2
                have g4 := g4 rfl
                obtain ⟨vals, v1, v2⟩ := srcV_sound (P := P) (tx := tx) hR (s := s) (by omega) (by unfold srcV; rw [hu']; exact hxs) hx
                obtain ⟨A1, c1, a1, _⟩ := rowsOf_sound hR (by omega) hxs hx
                have hset : φ.set g (.vec val w s) = φ := set_self g1
                generalize hm : Nat.min xs.length rows.length = m
                have hm1 : m ≤ xs.length := hm ▸ Nat.min_le_left _ _
                have hm2 : m ≤ rows.length := hm ▸ Nat.min_le_right _ _
                have hrl : (xs.take m ++ rows.drop m).length = rows.length := by simp; omega
                have hok : RowsOk s (xs.take m ++ rows.drop m) := fun r hr => by
                  rcases List.mem_append.1 hr with hr | hr
                  · exact ho r (List.mem_of_mem_take hr)
                  · exact f5 r (List.mem_of_mem_drop hr)
                rcases f6 with ⟨f6, f7⟩ | ⟨b, c, old, rest, p, f6, f7, f8, f9, f10⟩
                · have hr0 : rows = [] := List.eq_nil_of_length_eq_zero f6
                  subst hr0
                  have hm0 : m = 0 := by simp at hm2; exact hm2
                  subst hm0
                  obtain ⟨A2, hv2⟩ : ∃ A2, val = .slice A2 0 0 := by
                    rcases f7 with f7 | ⟨_, _, _, f7, _⟩ <;> exact ⟨_, f7⟩
                  unfold copyA
                  rw [g4, hv2, hu]; dsimp only
                  rw [hs]; dsimp only
                  rw [a1]; dsimp only
                  rw [← a1, v1]; dsimp only
                  rw [if_pos (by simp [Nat.min_def])]
                  have e1 : H.set g (.vec w (xs.take 0 ++ [].drop 0) s true t') = H := set_self hg
                  rw [e1]
                  exact .same hR ⟨rfl, rfl⟩
                · have hp : p = .full := f9
                  subst hp
                  have hol := f10.len
                  have hvl := v2.len
                  have hms : m * s ≤ xs.length * s := Nat.mul_le_mul_right _ hm1
                  have hms2 : m * s ≤ rows.length * s := Nat.mul_le_mul_right _ hm2
                  have hnew : RowsR K s (xs.take m ++ rows.drop m) φ (vals.take (m * s) ++ old.drop (m * s)) := (v2.takeR m hm1).append (f10.dropR m hm2)
                  by_cases h0 : m = 0
                  · subst h0
                    unfold copyA
                    rw [g4, f6, hu]; dsimp only
                    rw [hs]; dsimp only
                    rw [a1]; dsimp only
                    rw [← a1, v1]; dsimp only
                    rw [if_pos hm]
                    have e1 : H.set g (.vec w (xs.take 0 ++ rows.drop 0) s true t') = H := set_self hg
                    rw [e1]
                    exact .same hR ⟨rfl, rfl⟩
                  · have hvc : (vals.take (m * s)).all cellB = true := List.all_eq_true.2 fun z hz => List.all_eq_true.1 (v2.cells ho) z (List.mem_of_mem_take hz)
                    have hu2 := hR.upd (r' := .vec val w s) (y' := .vec w (xs.take m ++ rows.drop m) s true t') (σ' := σ.set b ⟨AM.splice (old ++ rest) 0 (vals.take (m * s)), .full⟩) g1 (.refl _)
                      (by
                        rw [hset]
                        refine ⟨rfl, rfl, f3, f4, hok, .inr ⟨b, c, _, rest, .full, by rw [hrl]; exact f6, ?_, ?_, rfl, hnew⟩⟩
                        · have hl1 := hnew.len
                          rw [hrl] at hl1 ⊢
                          rw [List.length_append, hl1, ← hol, ← List.length_append]; exact f7
                        rw [List.getElem?_set_self (get_lt f8), splice_right _ _ _ _ (by simp; omega)]
                        congr 2
                        unfold AM.splice
                        have : (vals.take (m * s)).length = m * s := by rw [List.length_take]; omega
                        simp only [List.take_zero, List.nil_append, Nat.zero_add, this]) (fun j hj => .inl hj) (fun j _ hj => List.getElem?_set_ne (fun e => hj (by rw [← e]; exact vec_blk f6 f7)))
                    rw [hset] at hu2
                    unfold copyA
                    rw [g4, f6, hu]; dsimp only
                    rw [hs]; dsimp only
                    rw [a1]; dsimp only
                    rw [← a1, v1]; dsimp only
                    rw [if_neg (by rw [hm]; exact h0), hm, writeN_eq, f8, writeB_full, if_pos ⟨by simp; omega, hvc⟩]
                    exact ⟨_, _, K, φ, rfl, .refl _ _ _, hu2.1, rfl, rfl⟩
            · cases h
          · cases h
        · cases h
      · cases h
    · cases h
  · cases h
/-- No elements of a slice, and no room. -/
def vNone (P : Program) (t : TypeId) (H : Hp) (x : V) (lo hi mx : Option V) : Option (V × Hp) := match intOptV lo, intOptV hi, intOptV mx with
  | some none, some (some h), some (some m) => match P.underlying t, x with
    | some (.slice e), .fsl k s rows => if (h = 0 ∧ m = 0) ∧ szOf P e = some s ∧ 0 < s ∧ s ≤ 1048576 ∧ (k = true ∨ 0 < rows.length) then some (.own H.length 0, H ++ [.vec 0 [] s true true]) else none
    | _, _ => none
  | _, _, _ => none
theorem vNone_sound (hR : Rel K φ H σ) {t : TypeId} {lo hi mx : Option V} {loA hiA mxA : Option Value} (h : vNone P t H x lo hi mx = some (v, H')) (hx : VR K x φ a) (h1 : OptR K φ lo loA) (h2 : OptR K φ hi hiA) (h3 : OptR K φ mx mxA) :
    Snd K φ v H' ((aSlice P t a loA hiA mxA).map (·, σ)) ∧ ∀ s, a ≠ .string s := by
  unfold vNone at h
  split at h
  · rename_i ih im i1 i2 i3
    have j1 := intOptV_sound i1 h1
    have j2 := intOptV_sound i2 h2
    have j3 := intOptV_sound i3 h3
    split at h
    · rename_i e k s rows hu
      split at h
      · rename_i hc
        obtain ⟨⟨rfl, rfl⟩, hs, s0, s1, hk⟩ := hc
        cases h
        obtain ⟨A, c, e1, e2, e0, e3, e3', e4⟩ := hx
        subst e1
        refine ⟨?_, fun s h => by cases h⟩
        have key : ∃ y, aSlice P t (.slice A rows.length c) loA hiA mxA = some y ∧ Emp K y := by
          unfold aSlice
          rw [j1, j2, j3]; dsimp only
          rw [hu]; dsimp only
          rw [hs]; dsimp only
          rcases e4 with ⟨e4, e5⟩ | ⟨b, o, cells, e5, e6, e7, e8⟩
          · subst e5
            dsimp only
            rw [if_pos ⟨e4, e2 rfl⟩]
            exact ⟨_, rfl, .inl rfl⟩
          · subst e5
            dsimp only
            have emp : Emp K (.slice (some ⟨b, o, none⟩) 0 0) := .inr ⟨b, o, cells, rfl, e6, by omega⟩
            have hb : ∀ C, bounds rows.length C none (some 0) (some 0) = some (0, 0, 0) := fun C => by simp [bounds]
            unfold capOK at e3
            split at e3
            · rename_i C hC
              rw [hC]; dsimp only
              rw [hb]
              exact ⟨_, rfl, emp⟩
            · rename_i es lb hC
              rw [hC]; dsimp only
              rw [hb]
              exact ⟨_, rfl, emp⟩
            · rename_i hC
              exfalso
              have := AM.capOf_dng hC
              rcases hk with hk | hk
              · have := e0 hk; omega
              · omega
        obtain ⟨y, k1, k2⟩ := key
        rw [k1]
        have hy : ∃ A, y = .slice A 0 0 := by rcases k2 with k2 | ⟨_, _, _, k2, _⟩ <;> exact ⟨_, k2⟩
        obtain ⟨A', rfl⟩ := hy
        have hblk : (Rz.vec (.slice A' 0 0) 0 s).blk = none := by cases A' <;> rfl
        obtain ⟨h5, h6⟩ := hR.snoc (r := .vec (.slice A' 0 0) 0 s) (y := .vec 0 [] s true true) ⟨rfl, rfl, s0, s1, (fun r hr => by simp at hr), .inl ⟨rfl, k2⟩⟩ (fun b hb => by rw [hblk] at hb; cases hb)
        exact ⟨_, _, K, _, rfl, h6, h5, .vec (.slice A' 0 0) 0 s, _, 0, s, by rw [← hR.len]; simp, rfl, Nat.le_refl _, fun _ => rfl, _, _, _, rfl⟩
      · cases h
    · cases h
  · cases h
/-- One's own rows cut short. -/
def vTrunc (P : Program) (t : TypeId) (H : Hp) (x : V) (lo hi mx : Option V) : Option (V × Hp) := match intOptV lo, intOptV hi, intOptV mx with
  | some none, some (some h), some none => match P.underlying t, x with
    | some (.slice e), .own g w => match H[g]? with
      | some (.vec w' rows s rw _) => if szOf P e = some s ∧ w = w' ∧ 0 ≤ h ∧ h.toNat ≤ rows.length then some (.own g (w' + 1), H.set g (.vec (w' + 1) (rows.take h.toNat) s rw false)) else none
      | _ => none
    | _, _ => none
  | _, _, _ => none
theorem vTrunc_sound (hR : Rel K φ H σ) {t : TypeId} {lo hi mx : Option V} {loA hiA mxA : Option Value} (h : vTrunc P t H x lo hi mx = some (v, H')) (hx : VR K x φ a) (h1 : OptR K φ lo loA) (h2 : OptR K φ hi hiA) (h3 : OptR K φ mx mxA) :
    Snd K φ v H' ((aSlice P t a loA hiA mxA).map (·, σ)) ∧ ∀ s, a ≠ .string s := by
  unfold vTrunc at h
  split at h
  · rename_i hh i1 i2 i3
    have j1 := intOptV_sound i1 h1
    have j2 := intOptV_sound i2 h2
    have j3 := intOptV_sound i3 h3
    split at h
    · rename_i e g w hu
      split at h
      · rename_i w' rows s rw t' hg
        split at h
        · rename_i hc
          obtain ⟨hs, rfl, h0, hle⟩ := hc
          cases h
          obtain ⟨r, val, w', s1, g1, g2, g3, g4, A0, n0, c0, g5⟩ := hx
          refine ⟨?_, fun s e => by rw [g5] at e; cases e⟩
          have hob := hR.ob g _ _ hg g1
          cases r with
          | mem _ => cases g2
          | fro _ _ _ => exact hob.elim
          | vec val1 w2 s2 =>
            cases g2
            obtain ⟨f1, f2, f3, f4, f5, f6⟩ := hob
            subst f1; subst f2
            rw [g4 rfl]
            have hok : RowsOk s (rows.take hh.toNat) := fun r hr => f5 r (List.mem_of_mem_take hr)
            have hpostS : ∀ a' : Value, Post φ.length K φ K (φ.set g (.vec a' (w + 1) s)) := fun a' => ⟨fun _ _ h => h, fun k q hk hq => by
              by_cases e : k = g
              · subst e; rw [g1] at hq; cases hq
                exact ⟨.vec a' (w + 1) s, by rw [List.getElem?_set_self hk], rfl, Nat.le_succ _, fun e => by omega⟩
              · exact ⟨q, by rw [List.getElem?_set_ne (Ne.symm e)]; exact hq, .refl _⟩⟩
            have fin : ∀ a' : Value, (∃ A n c, a' = .slice A n c) → aSlice P t val loA hiA mxA = some a' → (∀ b, (Rz.vec a' (w + 1) s).blk = some b → (Rz.vec val w s).blk = some b) →
                ObR K (φ.set g (.vec a' (w + 1) s)) σ (.vec (w + 1) (rows.take hh.toNat) s rw false) (.vec a' (w + 1) s) →
                Snd K φ (.own g (w + 1)) (H.set g (.vec (w + 1) (rows.take hh.toNat) s rw false)) ((aSlice P t val loA hiA mxA).map (·, σ)) := fun a' k0 k1 k2 k3 => by
              obtain ⟨u1, u2⟩ := hR.upd (r' := .vec a' (w + 1) s) (y' := .vec (w + 1) (rows.take hh.toNat) s rw false) (σ' := σ) g1 ⟨rfl, Nat.le_succ _, fun e => by omega⟩ k3 (fun j hj => .inl (k2 j hj)) (fun _ _ _ => rfl)
              rw [k1]
              exact ⟨_, _, K, _, rfl, u2, u1, .vec a' (w + 1) s, a', w + 1, s, List.getElem?_set_self (get_lt g1), rfl, Nat.le_refl _, fun _ => rfl, k0⟩
            rcases f6 with ⟨f6, f7⟩ | ⟨b, c, vals, rest, p, f6, f7, f8, f9, f10⟩
            · have hr0 : rows = [] := List.eq_nil_of_length_eq_zero f6
              subst hr0
              have hz : hh = 0 := by simp at hle; omega
              subst hz
              rcases f7 with f7 | ⟨b, o, cells, f7, f8, f9⟩
              · refine fin (.slice none 0 0) ⟨_, _, _, rfl⟩ ?_ (fun b hb => by cases hb) ⟨rfl, rfl, f3, f4, hok, .inl ⟨by simp, .inl rfl⟩⟩
                unfold aSlice
                rw [j1, j2, j3, f7]; dsimp only
                rw [hu]; dsimp only
                rw [hs]; rfl
              · refine fin (.slice (some ⟨b, o, none⟩) 0 0) ⟨_, _, _, rfl⟩ ?_ (fun b hb => by cases hb) ⟨rfl, rfl, f3, f4, hok, .inl ⟨by simp, .inr ⟨b, o, cells, rfl, f8, f9⟩⟩⟩
                unfold aSlice
                rw [j1, j2, j3, f7]; dsimp only
                rw [hu]; dsimp only
                rw [hs]; dsimp only
                rw [capOf_exact_eq (by decide)]
                simp [bounds]
            · obtain ⟨q0, C, q1, q2, q3, q4⟩ := f7
              have hvl := f10.len
              have hms : hh.toNat * s ≤ rows.length * s := Nat.mul_le_mul_right _ hle
              have htl : (rows.take hh.toNat).length = hh.toNat := by simp; omega
              refine fin (.slice (some ⟨b, 0, none⟩) hh.toNat c) ⟨_, _, _, rfl⟩ ?_ (fun j hj => ?_) ⟨rfl, rfl, f3, f4, hok, .inr ⟨b, c, vals.take (hh.toNat * s), vals.drop (hh.toNat * s) ++ rest, p, by rw [htl], ⟨q0, C, by rw [htl]; omega, ?_, (fun h => by cases h), q4⟩, ?_, f9, ?_⟩⟩
              · unfold aSlice
                rw [j1, j2, j3, f6]; dsimp only
                rw [hu]; dsimp only
                rw [hs]; dsimp only
                rcases q4 with q4 | q4
                · have hcC := (capOf_exact q4).1
                  rw [q4]; dsimp only
                  rw [show bounds rows.length C none (some hh) none = some (0, hh.toNat, C) by simp only [bounds]; rw [if_pos (by omega)]]
                  subst hcC
                  simp
                · rw [q4]; dsimp only
                  rw [show bounds rows.length C none (some hh) none = some (0, hh.toNat, C) by simp only [bounds]; rw [if_pos (by omega)]]
                  simp
              · have e1 : (Rz.vec val w s).blk = some b := vec_blk (t := t') (s := s) f6 ⟨q0, C, q1, q2, q3, q4⟩
                rw [e1]
                cases c with
                | zero => cases hj
                | succ c => exact hj
              · rw [← List.append_assoc, List.take_append_drop]; exact q2
              · rw [← List.append_assoc, List.take_append_drop]; exact f8
              · exact (f10.takeR _ hle).on (hpostS _)
        · cases h
      · cases h
    · cases h
  · cases h
/-- Made zeros appended to nil. -/
def vZeros (P : Program) (t : TypeId) (H : Hp) (s x : V) : Option (V × Hp) := match P.underlying t, s, isInt x with
  | some (.slice e), .lit (.slice none 0 0), some n => match szOf P e, byOf P e, zerosOf P e 1 with
    | some size, some bytes, some z => if 0 < n ∧ n ≤ 17179869184 ∧ 0 < size ∧ size ≤ 1048576 ∧ bytes ≤ 4096 ∧ z.length = size ∧ z.all (fun x => scalarB x && cellB x) = true then some (.own H.length 0, H ++ [.vec 0 (List.replicate n.toNat (z.map .lit)) size true true]) else none
    | _, _, _ => none
  | _, _, _ => none
theorem vZeros_sound (hR : Rel K φ H σ) {t : TypeId} {s : V} {sa : Value} (h : vZeros P t H s x = some (v, H')) (hs : VR K s φ sa) (hx : VR K x φ a) : Snd K φ v H' (aZeros P t sa a σ) := by
  unfold vZeros at h
  split at h
  · rename_i e n hu hn
    obtain ⟨k, rfl⟩ := isInt_sound hn hx
    obtain ⟨rfl, _⟩ := hs
    split at h
    · rename_i size bytes z h1 h2 h3
      split at h
      · rename_i hc
        obtain ⟨c1, c2, c3, c4, c5, c6, c7⟩ := hc
        cases h
        simp only [aZeros, hu, h1, h2, zeros_one h3]
        rw [if_pos ⟨c1, c2, c3, c4, c5⟩]
        have hz : ∀ x ∈ z, scalarB x = true ∧ cellB x = true := fun x hx => by have := List.all_eq_true.1 c7 x hx; simpa using this
        have := newVec hR (c := unk size n.toNat) (rows_rep (n := n.toNat) (φ := φ) (K := K) c6 fun x hx => (hz x hx).1) (s := size)
          (fun r hr => by
            rw [(List.mem_replicate.1 hr).2]
            refine ⟨by simp [c6], ?_⟩
            rw [List.all_map, List.all_eq_true]
            exact fun x hx => (hz x hx).2) c3 c4 (.inr (by rw [List.length_replicate]; exact capV_new (by omega) c4 (Nat.le_refl _)))
        rw [List.length_replicate] at this
        exact this
      · cases h
    · cases h
  · cases h
def nonNil : V → Bool
  | .ptr _ _ | .fptr _ | .elt _ _ _ _ | .fn _ _ _ => true
  | _ => false
/-- One operation. own: literals that are to be one's own. -/
def vop (P : Program) (own : List Tmp) (q : Bool) (ρ : Operand → V) (o : Oper) (H : Hp) : Option (V × Hp) := match o.op with
  | .move x | .assign x => some (ρ x, H)
  | .pick c a b => match ρ c with
    | .lit (.bool t) => some (if t then ρ a else ρ b, H)
    | _ => none
  | .extract x i => match ρ x with
    | .tup vs => (vs[i]?).map (·, H)
    | _ => none
  | .nilCheck x => if nonNil (ρ x) = true then some (ρ x, H) else none
  | .alloc t => (zerosOf P t 1).bind fun zs => (litCells zs).map fun cs => (.ptr H.length 0, H ++ [.mem cs true])
  | .box _ x => if (ρ x).cells.all V.isCell = true then some (.ptr H.length 0, H ++ [.mem (ρ x).cells true]) else none
  | .load t x => (vLoad P t H (ρ x)).map (·, H)
  | .store t x v => if q then none else (vStore P t H (ρ x) (ρ v)).map fun H' => (.tup [], H')
  | .fieldAddr t x f => (vFieldAddr P t (ρ x) f).map (·, H)
  | .field t x f => match ρ x, fieldOf P t f with
    | .agg cs, some (off, ft) => (partVV P ft cs off).map (·, H)
    | _, _ => none
  | .indexAddr t x i => (vIdx P t H (ρ x) (ρ i)).map (·, H)
  | .index t x i => match P.underlying t, ρ x, isInt (ρ i) with
    | some (.array n e), .agg cs, some j => match szOf P e with
      | some s => if 0 ≤ j ∧ j < n then (partVV P e cs (j.toNat * s)).map (·, H) else none
      | none => none
    | _, _, _ => none
  | .slice t x lo hi mx => match vNone P t H (ρ x) (lo.map ρ) (hi.map ρ) (mx.map ρ) with
    | some r => some r
    | none => match vTrunc P t H (ρ x) (lo.map ρ) (hi.map ρ) (mx.map ρ) with
      | some r => some r
      | none => (vSlice P t H (ρ x) (lo.map ρ) (hi.map ρ) (mx.map ρ)).map (·, H)
  | .makeFunc fn first captured => match fn with
    | .func f => some (.fn f (first.toList.map ρ) (captured.toList.map ρ), H)
    | _ => none
  | .makeInterface t x => if P.concrete t = true then some (.ifc t (ρ x), H) else none
  | .makeSlice t l c => vMake P t (ρ l) (ρ c) H
  | .build t parts => (vBuild P t (parts.toList.map fun p => (p.1, ρ p.2))).map (·, H)
  | .buildSlice t len parts => vLit P (match o.dst with | some d => own.contains d | none => false) t len (parts.toList.map fun p => (p.1, ρ p.2)) H
  | .binOp op t x y _ => (vBin P op t (ρ x) (ρ y)).map (·, H)
  | .unOp op _ x => match toVal (ρ x) with
    | some a => ((unI op a).bind mkLit).map (·, H)
    | none => none
  | .convert src dt x => vConv P (match o.dst with | some d => own.contains d | none => false) src dt (ρ x) H
  | .call { callee := .builtin b, args, argTypes } => match b, args.toList, argTypes.toList with
    | .append, [s, x], [t, tx] => match P.underlying tx with
      | some (.int _) => vZeros P t H (ρ s) (ρ x)
      | _ => vAppend P q t tx H (ρ s) (ρ x)
    | .cap, [x], [t] => match P.underlying t, ρ x with
      | some (.slice _), .lit (.slice none 0 0) => some (.lit (.int .i64 0), H)
      | _, _ => none
    | .min, [x, y], _ => match toVal (ρ x), toVal (ρ y) with
      | some (.int k m), some (.int _ n) => some (.lit (.int k (if n < m then n else m)), H)
      | _, _ => none
    | .max, [x, y], _ => match toVal (ρ x), toVal (ρ y) with
      | some (.int k m), some (.int _ n) => some (.lit (.int k (if n > m then n else m)), H)
      | _, _ => none
    | .len, [x], [t] => match P.underlying t, ρ x with
      | some .string, .lit (.string s) => some (.lit (.int .i64 s.size), H)
      | _, _ => (vLen P t H (ρ x)).map (·, H)
    | .copy, [d, s], [t, tx] => if q then none else vCopy P t tx (ρ d) (ρ s) H
    | _, _, _ => none
  | _ => none
theorem VRs.map_of {l : List Operand} (h : ∀ x, VR K (ρ x) φ (ρa x)) : VRs K (l.map ρ) φ (l.map ρa) := by
  induction l with
  | nil => rfl
  | cons x l ih => exact ⟨_, _, rfl, h x, ih⟩
theorem PsR.map_of {l : List (Nat × Operand)} (h : ∀ x, VR K (ρ x) φ (ρa x)) : PsR K φ (l.map fun p => (p.1, ρ p.2)) (l.map fun p => (p.1, ρa p.2)) := by
  induction l with
  | nil => rfl
  | cons x l ih => exact ⟨_, _, rfl, h x.2, ih⟩
theorem OptR.map_of {l : Option Operand} (h : ∀ x, VR K (ρ x) φ (ρa x)) : OptR K φ (l.map ρ) (l.map ρa) := by
  cases l with
  | none => trivial
  | some x => exact h x
theorem mapSnd {r : Option V} {ra : Option Value} (hR : Rel K φ H σ) (h : r.map (·, H) = some (v, H')) (hs : ∀ u, r = some u → ∃ y, ra = some y ∧ VR K u φ y) : Snd K φ v H' (ra.map (·, σ)) := by
  cases hr : r with
  | none => rw [hr] at h; cases h
  | some u =>
    rw [hr] at h; cases h
    obtain ⟨y, e1, e2⟩ := hs _ hr
    rw [e1]
    exact .same hR e2
theorem vop_sound (hR : Rel K φ H σ) {own : List Tmp} {o : Oper} (hρ : ∀ x, VR K (ρ x) φ (ρa x)) (h : vop P own q ρ o H = some (v, H')) : Snd K φ v H' (aop P q ρa o σ) := by
  obtain ⟨dst, op, type, pos, after, guard⟩ := o
  cases op with
  | move x => simp only [vop] at h; cases h; exact .same hR (hρ x)
  | assign x => simp only [vop] at h; cases h; exact .same hR (hρ x)
  | pick c a b =>
    simp only [vop] at h
    split at h
    · rename_i t hc
      cases h
      have := hρ c
      rw [hc] at this
      show Snd _ _ _ _ (match (generalizing := false) ρa c with | .bool t => some (if t then ρa a else ρa b, σ) | _ => none)
      rw [this.1]
      refine .same hR ?_
      cases t
      · exact hρ b
      · exact hρ a
    · cases h
  | extract x i =>
    simp only [vop] at h
    split at h
    · rename_i vs hx
      have := hρ x
      rw [hx] at this
      obtain ⟨xs, e1, e2⟩ := this
      show Snd _ _ _ _ (match (generalizing := false) ρa x with | .tuple vs => (vs[i]?).map (·, σ) | _ => none)
      rw [e1]
      refine mapSnd hR h fun u hu => ?_
      obtain ⟨y, f1, f2⟩ := e2.get hu
      exact ⟨y, by simpa using f1, f2⟩
    · cases h
  | nilCheck x =>
    simp only [vop] at h
    split at h
    · rename_i hn
      cases h
      have hx := hρ x
      show Snd _ _ _ _ (match (generalizing := false) ρa x with | .pointer (some a) => some (.pointer (some a), σ) | .func (.func f) a b => some (.func (.func f) a b, σ) | _ => none)
      cases hv : ρ x with
      | ptr g o => rw [hv] at hx; have hx' := hx; obtain ⟨b, _, e⟩ := hx; rw [e] at hx' ⊢; exact .same hR hx'
      | fptr cs => rw [hv] at hx; have hx' := hx; obtain ⟨b, o, c, e, _⟩ := hx; rw [e] at hx' ⊢; exact .same hR hx'
      | elt g w k o => rw [hv] at hx; have hx' := hx; obtain ⟨_, _, _, _, _, _, _, _, _, e⟩ := hx; rw [e] at hx' ⊢; exact .same hR hx'
      | fn f fi cp => rw [hv] at hx; have hx' := hx; obtain ⟨fa, ca, e, _⟩ := hx; rw [e] at hx' ⊢; exact .same hR hx'
      | _ => rw [hv] at hn; cases hn
    · cases h
  | alloc t =>
    simp only [vop] at h
    show Snd _ _ _ _ ((zerosOf P t 1).bind fun zs => (newBlk σ zs).map fun (a, σ') => (.pointer (some a), σ'))
    cases hz : zerosOf P t 1 with
    | none => rw [hz] at h; cases h
    | some zs =>
      rw [hz] at h
      simp only [Option.bind_some] at h ⊢
      cases hl : litCells zs with
      | none => rw [hl] at h; cases h
      | some cs =>
        rw [hl] at h; cases h
        obtain ⟨e1, e2⟩ := litCells_sound (K := K) (φ := φ) hl
        exact newMem hR e1 e2
  | box t x =>
    simp only [vop] at h
    split at h
    · rename_i hc
      cases h
      exact newMem hR ((hρ x).cells hc).1 hc
    · cases h
  | load t x =>
    simp only [vop] at h
    show Snd _ _ _ _ (match (generalizing := false) ρa x with | .pointer (some a) => (loadV P t σ a).map (·, σ) | _ => none)
    cases hl : vLoad P t H (ρ x) with
    | none => rw [hl] at h; cases h
    | some u =>
      rw [hl] at h; cases h
      obtain ⟨b, o, y, e1, e2, e3⟩ := vLoad_sound hR hl (hρ x)
      rw [e1]; dsimp only
      rw [e2]
      exact .same hR e3
  | store t x w =>
    simp only [vop] at h
    cases q with
    | true => cases h
    | false =>
      simp only [if_false, Bool.false_eq_true] at h
      show Snd _ _ _ _ (match (generalizing := false) ρa x, szOf P t with | .pointer (some a), some n => if false = false ∧ (ρa w).cells.size = n then (writeN σ a (ρa w).cells.toList).map fun σ' => (undef, σ') else none | _, _ => none)
      unfold vStore at h
      split at h
      · rename_i n hn
        split at h
        · rename_i hc
          obtain ⟨c1, c2⟩ := hc
          cases hp : putAt H (ρ x) (ρ w).cells with
          | none => rw [hp] at h; cases h
          | some H1 =>
            rw [hp] at h; cases h
            obtain ⟨d1, d2⟩ := (hρ w).cells c2
            obtain ⟨b, o, σ', e1, e2, e3⟩ := putAt_sound hR hp (hρ x) d1 c2
            have hl := d1.len
            simp only [Array.length_toList] at hl
            rw [e1, hn]; dsimp only
            rw [if_pos ⟨rfl, by omega⟩, e2]
            exact ⟨_, _, K, φ, rfl, .refl _ _ _, e3, #[], rfl, rfl⟩
        · cases h
      · cases h
  | fieldAddr t x f =>
    simp only [vop] at h
    show Snd _ _ _ _ (match (generalizing := false) ρa x, fieldOf P t f with | .pointer (some a), some (off, ft) => (match szOf P ft with | some (_ + 1) => some (.pointer (some (a.add off)), σ) | _ => none) | _, _ => none)
    cases hl : vFieldAddr P t (ρ x) f with
    | none => rw [hl] at h; cases h
    | some u =>
      rw [hl] at h; cases h
      obtain ⟨off, ft, n, ad, e1, e2, e3, e4⟩ := vFieldAddr_sound hl (hρ x)
      rw [e3, e1]; dsimp only
      rw [e2]
      exact .same hR e4
  | field t x f =>
    simp only [vop] at h
    show Snd _ _ _ _ (match (generalizing := false) ρa x, fieldOf P t f with | .agg cs, some (off, ft) => (partV P ft cs off).map (·, σ) | _, _ => none)
    split at h
    · rename_i cs off ft hx hf
      have := hρ x
      rw [hx] at this
      obtain ⟨xs, e1, e2⟩ := this
      rw [e1, hf]; dsimp only
      exact mapSnd hR h fun u hu => partVV_sound hu e2
    · cases h
  | indexAddr t x i =>
    simp only [vop] at h
    show Snd _ _ _ _ (idxAddr P t (ρa x) (ρa i) σ)
    cases hl : vIdx P t H (ρ x) (ρ i) with
    | none => rw [hl] at h; cases h
    | some u => rw [hl] at h; cases h; exact vIdx_sound hR hl (hρ x) (hρ i)
  | index t x i =>
    simp only [vop] at h
    show Snd _ _ _ _ (match (generalizing := false) P.underlying t, ρa x, ρa i with
      | some (.array n e), .agg cs, .int _ j => match szOf P e with
        | some s => if 0 ≤ j ∧ j < n then (partV P e cs (j.toNat * s)).map (·, σ) else none
        | none => none
      | _, _, _ => (aPure P ρa _).map (·, σ))
    split at h
    · rename_i n e cs j hu hx hj
      have := hρ x
      rw [hx] at this
      obtain ⟨xs, e1, e2⟩ := this
      obtain ⟨k, e3⟩ := isInt_sound hj (hρ i)
      rw [hu, e1, e3]; dsimp only
      split at h
      · rename_i s hs
        split at h
        · rename_i hc
          rw [if_pos hc]
          exact mapSnd hR h fun u hu => partVV_sound hu e2
        · cases h
      · cases h
    · cases h
  | slice t x lo hi mx =>
    simp only [vop] at h
    show Snd _ _ _ _ (match (generalizing := false) ρa x with
      | .string _ => (aPure P ρa _).map (·, σ)
      | _ => (aSlice P t (ρa x) (lo.map ρa) (hi.map ρa) (mx.map ρa)).map (·, σ))
    split at h
    · rename_i r hn
      cases h
      obtain ⟨e1, e3⟩ := vNone_sound hR hn (hρ x) (OptR.map_of hρ) (OptR.map_of hρ) (OptR.map_of hρ)
      split
      · rename_i s hs; exact absurd hs (e3 s)
      · exact e1
    · split at h
      · rename_i r hn
        cases h
        obtain ⟨e1, e3⟩ := vTrunc_sound hR hn (hρ x) (OptR.map_of hρ) (OptR.map_of hρ) (OptR.map_of hρ)
        split
        · rename_i s hs; exact absurd hs (e3 s)
        · exact e1
      · cases hl : vSlice P t H (ρ x) (lo.map ρ) (hi.map ρ) (mx.map ρ) with
        | none => rw [hl] at h; cases h
        | some u =>
          rw [hl] at h; cases h
          obtain ⟨⟨y, e1, e2⟩, e3⟩ := vSlice_sound hR hl (hρ x) (OptR.map_of hρ) (OptR.map_of hρ) (OptR.map_of hρ)
          split
          · rename_i s hs; exact absurd hs (e3 s)
          · rw [e1]; exact .same hR e2
  | makeFunc fn first captured =>
    simp only [vop] at h
    show Snd _ _ _ _ (match (generalizing := false) fn with | .func f => some (.func (.func f) (first.map ρa) (captured.map ρa), σ) | _ => none)
    split at h
    · cases h
      refine .same hR ⟨_, _, rfl, ?_, ?_⟩
      · rw [Array.toList_map]; exact VRs.map_of hρ
      · rw [Array.toList_map]; exact VRs.map_of hρ
    · cases h
  | makeInterface t x =>
    simp only [vop] at h
    show Snd _ _ _ _ (if P.concrete t = true then some (.iface t (ρa x), σ) else none)
    split at h
    · rename_i hc; cases h; rw [if_pos hc]; exact .same hR ⟨_, rfl, hρ x⟩
    · cases h
  | makeSlice t l c =>
    simp only [vop] at h
    exact vMake_sound hR h (hρ l) (hρ c)
  | build t parts =>
    simp only [vop] at h
    have hstep : aop P q ρa ⟨dst, .build t parts, type, pos, after, guard⟩ σ = (buildV P t (parts.map fun (i, x) => (i, ρa x))).map (·, σ) := by
      simp only [aop, buildV]
      cases zeroOf P t with
      | none => rfl
      | some z =>
        dsimp only
        have : ((parts.map fun (i, x) => (i, ρa x)).all fun (_, x) => !junkB x) = (parts.all fun (_, x) => !junkB (ρa x)) := by
          rw [Array.all_map]; rfl
        rw [this]
        split
        · cases P.built t (parts.map fun (i, x) => (i, ρa x)).toList <;> rfl
        · rfl
    rw [hstep]
    exact mapSnd hR h fun u hu => vBuild_sound hu (by rw [Array.toList_map]; exact PsR.map_of hρ)
  | buildSlice t len parts =>
    simp only [vop] at h
    have hstep : aop P q ρa ⟨dst, .buildSlice t len parts, type, pos, after, guard⟩ σ = (buildSliceV P t len (parts.map fun (i, x) => (i, ρa x))).bind fun cs => (newBlk σ cs).map fun (a, σ') => (.slice (some a) len len, σ') := by
      simp only [aop, buildSliceV]
      cases P.underlying t with
      | none => rfl
      | some d =>
        cases d <;> try rfl
        rename_i e'
        dsimp only
        cases szOf P e' with
        | none => rfl
        | some s =>
          cases zerosOf P e' len with
          | none => rfl
          | some zs =>
            dsimp only
            have : ((parts.map fun (i, x) => (i, ρa x)).all fun (_, x) => !junkB x) = (parts.all fun (_, x) => !junkB (ρa x)) := by
              rw [Array.all_map]; rfl
            rw [this]
            split
            · cases Instr.fill (fun i => some (i * s, s)) zs.toArray (parts.map fun (i, x) => (i, ρa x)).toList <;> rfl
            · rfl
    rw [hstep]
    exact vLit_sound hR h (by rw [Array.toList_map]; exact PsR.map_of hρ)
  | binOp op t x y ty =>
    simp only [vop] at h
    cases hl : vBin P op t (ρ x) (ρ y) with
    | none => rw [hl] at h; cases h
    | some u => rw [hl] at h; cases h; exact vBin_sound hR hl (hρ x) (hρ y)
  | unOp op t x =>
    simp only [vop] at h
    show Snd _ _ _ _ ((aPure P ρa ⟨dst, .unOp op t x, type, pos, after, guard⟩).map (·, σ))
    split at h
    · rename_i a ha
      have e1 := toVal_sound ha (hρ x)
      cases hu : unI op a with
      | none => rw [hu] at h; cases h
      | some y =>
        rw [hu] at h
        simp only [Option.bind_some] at h
        rw [aPure_un, e1, hu]
        exact mapSnd (ra := some y) hR h fun u hu => ⟨y, rfl, mkLit_sound hu⟩
    · cases h
  | convert src dt x =>
    simp only [vop] at h
    exact vConv_sound hR h (hρ x)
  | call c =>
    obtain ⟨callee, args, argTypes⟩ := c
    cases callee with
    | value f => simp only [vop] at h; cases h
    | invoke r m => simp only [vop] at h; cases h
    | builtin bb =>
      simp only [vop] at h
      split at h
      · rename_i s x t tx h1 h2
        have hstep : aop P q ρa ⟨dst, .call ⟨.builtin .append, args, argTypes⟩, type, pos, after, guard⟩ σ = aApp P q t tx (ρa s) (ρa x) σ := by
          simp only [aop, h1, h2]
        rw [hstep]
        unfold aApp
        split at h
        · rename_i k hk
          rw [hk]
          exact vZeros_sound hR h (hρ s) (hρ x)
        · rename_i hk
          split
          · rename_i k hk2; exact absurd hk2 (hk k)
          · exact vAppend_sound hR h (hρ s) (hρ x)
      · rename_i x t h1 h2
        split at h
        · rename_i hu hx
          cases h
          have e1 := hρ x
          rw [hx] at e1
          obtain ⟨e1, _⟩ := e1
          have hstep : aop P q ρa ⟨dst, .call ⟨.builtin .cap, args, argTypes⟩, type, pos, after, guard⟩ σ = some (.int .i64 0, σ) := by
            simp only [aop, h1, h2, hu, e1]
            rw [if_pos (by decide)]; rfl
          rw [hstep]
          exact .same hR ⟨rfl, rfl⟩
        · cases h
      · rename_i x y h1
        split at h
        · rename_i k m k' n hx hy
          cases h
          have ex := toVal_sound hx (hρ x)
          have ey := toVal_sound hy (hρ y)
          have hargs : args = #[x, y] := by rw [← Array.toArray_toList (xs := args), h1]
          subst hargs
          have hstep : aop P q ρa ⟨dst, .call ⟨.builtin .min, #[x, y], argTypes⟩, type, pos, after, guard⟩ σ = (aPure P ρa ⟨dst, .call ⟨.builtin .min, #[x, y], argTypes⟩, type, pos, after, guard⟩).map (·, σ) := by
            simp only [aop]
          rw [hstep, aPure_min ex ey]
          exact .same hR ⟨rfl, rfl⟩
        · cases h
      · rename_i x y h1
        split at h
        · rename_i k m k' n hx hy
          cases h
          have ex := toVal_sound hx (hρ x)
          have ey := toVal_sound hy (hρ y)
          have hargs : args = #[x, y] := by rw [← Array.toArray_toList (xs := args), h1]
          subst hargs
          have hstep : aop P q ρa ⟨dst, .call ⟨.builtin .max, #[x, y], argTypes⟩, type, pos, after, guard⟩ σ = (aPure P ρa ⟨dst, .call ⟨.builtin .max, #[x, y], argTypes⟩, type, pos, after, guard⟩).map (·, σ) := by
            simp only [aop]
          rw [hstep, aPure_max ex ey]
          exact .same hR ⟨rfl, rfl⟩
        · cases h
      · rename_i x t h1 h2
        split at h
        · rename_i s hu hx
          cases h
          have e1 := hρ x
          rw [hx] at e1
          obtain ⟨e1, _⟩ := e1
          have hargs : args = #[x] := by rw [← Array.toArray_toList (xs := args), h1]
          have hts : argTypes = #[t] := by rw [← Array.toArray_toList (xs := argTypes), h2]
          subst hargs; subst hts
          have hstep : aop P q ρa ⟨dst, .call ⟨.builtin .len, #[x], #[t]⟩, type, pos, after, guard⟩ σ = (aPure P ρa ⟨dst, .call ⟨.builtin .len, #[x], #[t]⟩, type, pos, after, guard⟩).map (·, σ) := by
            simp only [aop, hu]
          rw [hstep, aPure_len hu e1]
          exact .same hR ⟨rfl, rfl⟩
        cases hl : vLen P t H (ρ x) with
        | none => rw [hl] at h; cases h
        | some u =>
          rw [hl] at h; cases h
          unfold vLen at hl
          split at hl
          · rename_i e hu
            cases hn : lenOf H (ρ x) with
            | none => rw [hn] at hl; cases hl
            | some n =>
              rw [hn] at hl; cases hl
              obtain ⟨A, c, e1⟩ := lenOf_sound hR hn (hρ x)
              have hstep : aop P q ρa ⟨dst, .call ⟨.builtin .len, args, argTypes⟩, type, pos, after, guard⟩ σ = some (.int .i64 n, σ) := by
                simp only [aop, h1, h2, hu, e1]
              rw [hstep]
              exact .same hR ⟨rfl, rfl⟩
          · rename_i n e hu
            cases hl
            have hstep : aop P q ρa ⟨dst, .call ⟨.builtin .len, args, argTypes⟩, type, pos, after, guard⟩ σ = some (.int .i64 n, σ) := by
              simp only [aop, h1, h2, hu]
            rw [hstep]
            exact .same hR ⟨rfl, rfl⟩
          · cases hl
      · rename_i d s t tx h1 h2
        split at h
        · cases h
        · rename_i hq
          have hstep : aop P q ρa ⟨dst, .call ⟨.builtin .copy, args, argTypes⟩, type, pos, after, guard⟩ σ = copyA P t tx (ρa d) (ρa s) σ := by
            simp only [aop, h1, h2, copyA, if_neg hq]; rfl
          rw [hstep]
          exact vCopy_sound hR h (hρ d) (hρ s)
      · cases h
  | _ => simp only [vop] at h; cases h
end
end Go.Proofs.Ytenbclcfhjdcaaa.VM
end
section
set_option maxHeartbeats 8000000
set_option linter.unusedVariables false
set_option linter.unusedSimpArgs false
/- The machine of values: code. -/
namespace Go.Proofs.Ytenbclcfhjdcaaa.VM
open Go AM
section
variable {P : Program} {prim : CallF} {K K' : Kn} {φ φ' : List Rz} {H H' : Hp} {σ σ' : Heap} {v x y : V} {a b : Value} {q : Bool} {e e' : Ev} {ea : Env} {ops : Array Oper} {own : List Tmp}

theorem Post.le_len {n : Nat} {K K' : Kn} (h : Post n K φ K' φ') (hn : n ≤ φ.length) : n ≤ φ'.length := by
  by_cases h0 : n = 0
  · omega
  · obtain ⟨r', h1, _⟩ := h.rz (n - 1) φ[n - 1] (by omega) (List.getElem?_eq_getElem (by omega))
    have := get_lt h1
    omega
/-- A call comes to an answer. -/
def VC (P : Program) (prim : CallF) (f : FuncId) (args : List V) (H : Hp) (R : V → Hp → Prop) : Prop :=
  ∀ K φ σ (as : Array Value), Rel K φ H σ → VRs K args φ as.toList → AC P prim f as σ fun a σ' => ∃ K' φ' v H', Post φ.length K φ K' φ' ∧ Rel K' φ' H' σ' ∧ VR K' v φ' a ∧ R v H'
def Ob.lock : Ob → Ob
  | .mem cells _ => .mem cells false
  | .vec w rows s _ t => .vec w rows s false t
  | .fro w rows s => .fro w rows s
def lockV (H : Hp) : Hp := H.map Ob.lock
def Ob.rwOk : Ob → Prop
  | .mem _ rw | .vec _ _ _ rw _ => rw = true
  | .fro _ _ _ => True
/-- A step that the program does not see. -/
def Frz (H H0 : Hp) : Prop := ∀ K φ σ, Rel K φ H σ → ∃ K' φ', Post φ.length K φ K' φ' ∧ Rel K' φ' H0 σ
theorem Frz.refl : Frz H H := fun K φ σ hR => ⟨K, φ, .refl _ _ _, hR⟩
def VCq (P : Program) (prim : CallF) (q : Bool) (f : FuncId) (args : List V) (H : Hp) (R : V → Hp → Prop) : Prop :=
  ∃ H0, Frz H H0 ∧ if q then VC P prim f args (lockV H0) fun v T => ∃ X, T = lockV H0 ++ X ∧ (∀ o ∈ X, o.rwOk) ∧ R v (H0 ++ X) else VC P prim f args H0 R
theorem permOk_lock {p : Perm} {rw : Bool} (h : permOk rw p) : permOk false (if p = .full then .ro else p) := by
  unfold permOk at *
  cases p <;> cases rw <;> simp_all
theorem Rel.lock (hR : Rel K φ H σ) : Rel K φ (lockV H) (AM.lock σ) := by
  refine ⟨by simp [lockV, hR.len], fun b c hc => ?_, fun g x r hx hr => ?_, hR.inj, hR.apart⟩
  · obtain ⟨p, h1, h2⟩ := hR.kn b c hc
    refine ⟨_, by rw [lock_get, h1]; rfl, ?_⟩
    dsimp only
    split <;> simp_all
  · simp only [lockV, List.getElem?_map] at hx
    cases hg : H[g]? with
    | none => rw [hg] at hx; cases hx
    | some y =>
      rw [hg] at hx
      cases hx
      have hob := hR.ob g y r hg hr
      cases y with
      | mem cells rw =>
        cases r with
        | mem b =>
          obtain ⟨vals, p, h1, h2, h3⟩ := hob
          exact ⟨vals, _, by rw [lock_get, h1]; rfl, permOk_lock h2, h3⟩
        | vec _ _ _ => exact hob.elim
        | fro _ _ _ => exact hob.elim
      | vec w rows s rw t =>
        cases r with
        | mem b => exact hob.elim
        | vec val w' s' =>
          obtain ⟨h1, h2, h3, h4, h5, h6⟩ := hob
          refine ⟨h1, h2, h3, h4, h5, h6.imp id fun ⟨b, c, vals, rest, p, e1, e2, e3, e4, e5⟩ => ⟨b, c, vals, rest, _, e1, e2, by rw [lock_get, e3]; rfl, permOk_lock e4, e5⟩⟩
        | fro _ _ _ => exact hob.elim
      | fro w rows s =>
        cases r with
        | mem b => exact hob.elim
        | vec _ _ _ => exact hob.elim
        | fro _ _ _ => exact hob
theorem lock_same {y : Ob} {r r' : Rz} (h1 : ObR K φ σ y r) (h2 : ObR K' φ' σ' y.lock r') (hle : RzLe r r') : r' = r := by
  cases y with
  | mem cells rw =>
    cases r with
    | mem b => cases r' <;> simp only [RzLe] at hle; rw [hle]
    | vec _ _ _ => exact h1.elim
    | fro _ _ _ => exact h1.elim
  | vec w rows s rw t =>
    cases r with
    | mem b => exact h1.elim
    | vec val w1 s1 =>
      cases r' with
      | mem b => exact h2.elim
      | fro _ _ _ => exact h2.elim
      | vec val2 w2 s2 =>
        obtain ⟨a1, a2, a3⟩ := hle
        have e1 := h1.1
        have e2 := h2.1
        subst a1
        have : w1 = w2 := by rw [← e1]; exact e2
        subst this
        rw [a3 rfl]
    | fro _ _ _ => exact h1.elim
  | fro w rows s =>
    cases r with
    | mem b => exact h1.elim
    | vec _ _ _ => exact h1.elim
    | fro _ _ _ =>
      cases r' <;> simp only [RzLe] at hle
      obtain ⟨rfl, rfl, rfl⟩ := hle
      rfl
/-- A call that may change nothing that stands. -/
theorem quiet_sound (hR : Rel K φ H σ) {τ : Heap} (hle : Le (AM.lock σ) τ) {X : Hp} (hp : Post φ.length K φ K' φ') (hR' : Rel K' φ' (lockV H ++ X) τ) (hX : ∀ o ∈ X, o.rwOk) : Rel K' φ' (H ++ X) (σ ++ τ.drop σ.length) := by
  have hlen : σ.length ≤ τ.length := by have := hle.len; rwa [lock_len] at this
  have hlH : (lockV H).length = H.length := by simp [lockV]
  have lo : ∀ {b : Nat}, b < σ.length → (σ ++ τ.drop σ.length)[b]? = σ[b]? := fun hb => List.getElem?_append_left hb
  have hi : ∀ {b : Nat}, ¬ b < σ.length → (σ ++ τ.drop σ.length)[b]? = τ[b]? := fun {b} hb => by
    rw [List.getElem?_append_right (by omega), List.getElem?_drop]
    congr 1; omega
  have old : ∀ {b : Nat} {x : Blk}, b < σ.length → τ[b]? = some x → x.perm ≠ .full ∧ (x.perm ≠ .dead → ∃ p, σ[b]? = some ⟨x.cells, p⟩ ∧ p ≠ .dead) := fun {b x} hb hx => by
    obtain ⟨y, hy⟩ : ∃ y, σ[b]? = some y := ⟨_, List.getElem?_eq_getElem hb⟩
    obtain ⟨x', h1, h2, h3, h4⟩ := hle.blk b _ (by rw [lock_get, hy]; rfl)
    rw [hx] at h1; cases h1
    obtain ⟨yc, yp⟩ := y
    cases yp with
    | full =>
      have := h3 rfl
      rw [this]
      exact ⟨by simp, fun _ => ⟨_, hy, by simp⟩⟩
    | ro =>
      have := h3 rfl
      rw [this]
      exact ⟨by simp, fun _ => ⟨_, hy, by simp⟩⟩
    | dead =>
      have := h4 rfl
      rw [this]
      exact ⟨by simp, fun h => absurd rfl h⟩
  refine ⟨by rw [hR'.len]; simp [lockV], fun b c hc => ?_, fun g x r' hx hr' => ?_, hR'.inj, hR'.apart⟩
  · obtain ⟨p, h1, h2⟩ := hR'.kn b c hc
    by_cases hb : b < σ.length
    · rw [lo hb]
      exact (old hb h1).2 h2
    · rw [hi hb]
      exact ⟨p, h1, h2⟩
  · by_cases hg : g < H.length
    · rw [List.getElem?_append_left hg] at hx
      obtain ⟨r, hr⟩ : ∃ r, φ[g]? = some r := ⟨_, List.getElem?_eq_getElem (by rw [hR.len]; exact hg)⟩
      have hob := hR.ob g x r hx hr
      obtain ⟨r2, e1, e2⟩ := hp.rz g r (get_lt hr) hr
      rw [hr'] at e1; cases e1
      have hob' := hR'.ob g x.lock r' (by rw [List.getElem?_append_left (by rw [hlH]; exact hg)]; simp [lockV, hx]) hr'
      have := lock_same hob hob' e2
      subst this
      exact hob.keep (fun b hb => lo (hR.used_lt (.inr ⟨g, r', hr, hb⟩))) hp
    · have hx' : (lockV H ++ X)[g]? = some x := by
        rw [List.getElem?_append_right (by omega)] at hx
        rw [List.getElem?_append_right (by omega), hlH]; exact hx
      have hob' := hR'.ob g x r' hx' hr'
      have hrw : x.rwOk := hX x (by rw [List.getElem?_append_right (by omega)] at hx; exact List.mem_of_getElem? hx)
      refine hob'.keep (fun b hb => ?_) (.refl _ _ _)
      refine hi fun hlt => ?_
      cases x with
      | mem cells rw =>
        cases r' with
        | mem b' =>
          cases hb
          obtain ⟨vals, p, h1, h2, _⟩ := hob'
          have hrw : rw = true := hrw
          subst hrw
          have : p = .full := h2
          subst this
          exact (old hlt h1).1 rfl
        | vec _ _ _ => exact hob'.elim
        | fro _ _ _ => exact hob'.elim
      | vec w rows s rw t =>
        cases r' with
        | mem _ => exact hob'.elim
        | fro _ _ _ => exact hob'.elim
        | vec val w' s' =>
          obtain ⟨_, _, _, _, _, ⟨_, h6 | ⟨_, _, _, h6, _⟩⟩ | ⟨b', c, vals, rest, p, h6, h7, h8, h9, _⟩⟩ := hob'
          · subst h6; cases hb
          · subst h6; cases hb
          · rw [vec_blk h6 h7] at hb; cases hb
            have hrw : rw = true := hrw
            subst hrw
            have : p = .full := h9
            subst this
            exact (old hlt h8).1 rfl
      | fro w rows s =>
        cases r' with
        | mem _ => exact hob'.elim
        | vec _ _ _ => exact hob'.elim
        | fro _ _ _ => cases hb
def vupd (e : Ev) (d : Option Tmp) (v : V) : Ev := match d with
  | some i => fun j => if j = i then v else e j
  | none => e
theorem EvR.upd (h : EvR K φ e ea) (hv : VR K v φ a) (d : Option Tmp) : EvR K φ (vupd e d v) (AM.upd ea d a) := by
  cases d with
  | none => exact h
  | some i =>
    intro t
    unfold vupd AM.upd
    dsimp only
    split
    · exact hv
    · exact h t
def wantedV (ops : Array Oper) (o : Oper) (e : Ev) : Option Bool := match o.guard with
  | none => some true
  | some (j, want) => match (ops[j]?).bind (·.dst) with
    | none => some false
    | some d => match e d with
      | .lit (.bool b) => some (b == want)
      | .tup [] => some false
      | _ => none
theorem wantedV_sound {o : Oper} {t : Bool} (h : wantedV ops o e = some t) (hE : EvR K φ e ea) : wantedA ops o ea = some t := by
  unfold wantedV at h
  unfold wantedA
  split at h
  · rename_i hg; rw [hg]; exact h
  · rename_i j want hg
    rw [hg]; dsimp only
    split at h
    · rename_i hd; rw [hd]; exact h
    · rename_i d hd
      rw [hd]; dsimp only
      have he := hE d
      split at h
      · rename_i b hb
        rw [hb] at he
        rw [he.1]; exact h
      · rename_i hb
        rw [hb] at he
        obtain ⟨xs, e1, e2⟩ := he
        rw [e1]; exact h
      · cases h
def goCallV (ρ : Operand → V) (op : Op) : Option (FuncId × List V) := match op with
  | .call { callee := .value x, args, .. } => match ρ x with
    | .fn f first captured => some (f, first ++ args.toList.map ρ ++ captured)
    | _ => none
  | _ => none
def isGoCall : Op → Bool
  | .call { callee := .value _, .. } => true
  | _ => false
/-- Is it a slice held against nil? ('!=', how many elements) -/
def nilOp (P : Program) (ρ : Operand → V) (op : Op) (H : Hp) : Option (Bool × Nat) := match op with
  | .binOp .eql t x y _ => (nilCmp P H t (ρ x) (ρ y)).map (false, ·)
  | .binOp .neq t x y _ => (nilCmp P H t (ρ x) (ρ y)).map (true, ·)
  | _ => none
def vstep (P : Program) (prim : CallF) (own : List Tmp) (q : Bool) (ops : Array Oper) (o : Oper) (e : Ev) (H : Hp) (k : V → Hp → Prop) : Prop := match wantedV ops o e with
  | some true => if isGoCall o.op then (match goCallV (vev e) o.op with
    | some (f, args) => VCq P prim q f args H k
    | none => False) else (match nilOp P (vev e) o.op H with
      | some (neq, n) => ∀ b : Bool, (0 < n → b = neq) → k (.lit (.bool b)) H
      | none => (match vop P own q (vev e) o H with
        | some (v, H') => k v H'
        | none => False))
  | some false => k (.tup []) H
  | none => False
def vwo (P : Program) (prim : CallF) (own : List Tmp) (q : Bool) (ops : Array Oper) : List Oper → (Ev → Hp → Prop) → Ev → Hp → Prop
  | [], Q, e, H => Q e H
  | o :: l, Q, e, H => vstep P prim own q ops o e H fun v H' => vwo P prim own q ops l Q (vupd e o.dst v) H'
/-- A state that some state of values stands for. -/
def Sem (n : Nat) (K : Kn) (φ : List Rz) (Q : Ev → Hp → Prop) (ea : Env) (σ : Heap) : Prop := ∃ K' φ' e' H', Post n K φ K' φ' ∧ Rel K' φ' H' σ ∧ EvR K' φ' e' ea ∧ Q e' H'
theorem Sem.on {n : Nat} {K1 : Kn} {φ1 : List Rz} {Q : Ev → Hp → Prop} (hp : Post n K φ K1 φ1) (hn : n ≤ φ.length) {σ : Heap} (h : Sem φ1.length K1 φ1 Q ea σ) : Sem n K φ Q ea σ :=
  let ⟨K', φ', e', H', h1, h2, h3, h4⟩ := h; ⟨K', φ', e', H', hp.trans h1 (hp.le_len hn), h2, h3, h4⟩
theorem wo_mono {l : List Oper} {Q Q' : Env → Heap → Prop} {ea : Env} (h : WO P prim q ops l Q ea σ) (hq : ∀ e σ, Q e σ → Q' e σ) : WO P prim q ops l Q' ea σ :=
  let ⟨n, e', σ', h1, h2⟩ := h; ⟨n, e', σ', h1, hq _ _ h2⟩
theorem vwo_sound (hC : ∀ n, CallOk P (acall P prim n)) : ∀ (l : List Oper) {Q : Ev → Hp → Prop} {e : Ev} {H : Hp}, vwo P prim own q ops l Q e H → ∀ {K φ σ ea}, Rel K φ H σ → EvR K φ e ea → WO P prim q ops l (Sem φ.length K φ Q) ea σ
  | [], Q, e, H, h, K, φ, σ, ea, hR, hE => wo_nil.2 ⟨K, φ, e, H, .refl _ _ _, hR, hE, h⟩
  | o :: l, Q, e, H, h, K, φ, σ, ea, hR, hE => by
    have ih := @vwo_sound hC l
    refine wo_cons ?_
    unfold vwo vstep at h
    unfold StepR
    have next : ∀ {K' φ' v a H' σ'}, Post φ.length K φ K' φ' → Rel K' φ' H' σ' → VR K' v φ' a → vwo P prim own q ops l Q (vupd e o.dst v) H' → WO P prim q ops l (Sem φ.length K φ Q) (AM.upd ea o.dst a) σ' := fun h1 h2 h3 h4 =>
      wo_mono (ih h4 h2 ((hE.on h1).upd h3 o.dst)) fun _ _ hs => hs.on h1 (Nat.le_refl _)
    split at h
    · rename_i hw
      rw [wantedV_sound hw hE]; dsimp only
      split at h
      · rename_i hgc
        split at h
        · rename_i f args hga
          have hga' : ∃ as : Array Value, goCall (AM.ev ea) o.op = some (f, as) ∧ VRs K args φ as.toList := by
            unfold goCallV at hga
            unfold goCall
            split at hga
            · rename_i x as _ hop
              rw [hop]; dsimp only
              have hx := vev_sound hE x
              split at hga
              · rename_i f' fi cp hf
                rw [hf] at hx
                obtain ⟨fa, ca, e1, e2, e3⟩ := hx
                cases hga
                rw [e1]
                refine ⟨_, rfl, ?_⟩
                simp only [Array.toList_append, Array.toList_map]
                exact (e2.append (VRs.map_of (vev_sound hE))).append e3
              · cases hga
            · cases hga
          obtain ⟨as, g1, g2⟩ := hga'
          rw [g1]; dsimp only
          unfold VCq at h
          unfold ACq
          obtain ⟨H0, hfz, h⟩ := h
          obtain ⟨K0, φ0, p0, hR0⟩ := hfz K φ σ hR
          have g3 := g2.on p0
          have hl0 := p0.le_len (Nat.le_refl _)
          cases q with
          | false =>
            simp only [if_false, Bool.false_eq_true] at h ⊢
            exact (h K0 φ0 σ as hR0 g3).mono fun a σ' ⟨K', φ', v, H', h1, h2, h3, h4⟩ => next (p0.trans h1 hl0) h2 h3 h4
          | true =>
            simp only [if_true] at h ⊢
            obtain ⟨n, a, τ, hac, K', φ', v, T, h1, h2, h3, X, h4, h5, h6⟩ := h K0 φ0 (AM.lock σ) as hR0.lock g3
            refine ⟨n, a, τ, hac, ?_⟩
            subst h4
            have hle := ((hC n) _ _ _ _ _ hac).2.1
            exact next (p0.trans h1 hl0) (quiet_sound hR0 hle h1 h2 h5) h3 h6
        · exact h.elim
      · rename_i hgc
        have hg : goCall (AM.ev ea) o.op = none := by
          unfold isGoCall at hgc
          unfold goCall
          split at hgc
          · exact absurd rfl hgc
          · rename_i hno
            split
            · rename_i x as _ hop; exact absurd hop (hno _ _ _)
            · rfl
        rw [hg]; dsimp only
        unfold After
        split at h
        · rename_i neq n hn
          obtain ⟨dst, op, type, pos, after, guard⟩ := o
          unfold nilOp at hn
          dsimp only at hn h next ⊢
          split at hn
          · rename_i t x y ty
            cases hc : nilCmp P H t (vev e x) (vev e y) with
            | none => rw [hc] at hn; cases hn
            | some m =>
              rw [hc] at hn; cases hn
              obtain ⟨r, h1, h2⟩ := nilCmp_sound (ρ := AM.ev ea) (dst := dst) (type := type) (pos := pos) (after := after) (guard := guard) hR hc (vev_sound hE x) (vev_sound hE y)
              have h3 : aop P q (AM.ev ea) ⟨dst, .binOp .eql t x y ty, type, pos, after, guard⟩ σ = some (.bool r, σ) := (h2 x y ty rfl rfl).1
              rw [h3]
              exact next (.refl _ _ _) hR (v := .lit (.bool r)) ⟨rfl, rfl⟩ (h r h1)
          · rename_i t x y ty
            cases hc : nilCmp P H t (vev e x) (vev e y) with
            | none => rw [hc] at hn; cases hn
            | some m =>
              rw [hc] at hn; cases hn
              obtain ⟨r, h1, h2⟩ := nilCmp_sound (ρ := AM.ev ea) (dst := dst) (type := type) (pos := pos) (after := after) (guard := guard) hR hc (vev_sound hE x) (vev_sound hE y)
              have h3 : aop P q (AM.ev ea) ⟨dst, .binOp .neq t x y ty, type, pos, after, guard⟩ σ = some (.bool (!r), σ) := (h2 x y ty rfl rfl).2
              rw [h3]
              exact next (.refl _ _ _) hR (v := .lit (.bool (!r))) ⟨rfl, rfl⟩ (h (!r) fun h => by rw [h1 h]; rfl)
          · cases hn
        · split at h
          · rename_i v H' hv
            obtain ⟨a, σ', K', φ', h1, h2, h3, h4⟩ := vop_sound hR (vev_sound hE) hv
            rw [h1]
            exact next h2 h3 h4 h
          · exact h.elim
    · rename_i hw
      rw [wantedV_sound hw hE]
      exact next (.refl _ _ _) hR (v := .tup []) ⟨#[], rfl, rfl⟩ h
    · exact h.elim
end
end Go.Proofs.Ytenbclcfhjdcaaa.VM
end
section
set_option maxHeartbeats 8000000
set_option linter.unusedVariables false
set_option linter.unusedSimpArgs false
/- The machine of values: code, loops, functions; what is frozen or let go. -/
namespace Go.Proofs.Ytenbclcfhjdcaaa.VM
open Go AM
section
variable {P : Program} {prim : CallF} {K K' : Kn} {φ φ' : List Rz} {H H' : Hp} {σ σ' : Heap} {v x y : V} {a b : Value} {q : Bool} {e e' : Ev} {ea : Env} {ops : Array Oper} {own : List Tmp}

/-- What follows, where simp does not look. -/
class KVV where run : V → Hp → Prop
def ThenV (N : Ev → Hp → Prop) (Q : Ex → Ev → Hp → Prop) : Ex → Ev → Hp → Prop
  | .normal, e, H => N e H
  | x, e, H => Q x e H
def BlkV (id : Nat) (Q : Ex → Ev → Hp → Prop) : Ex → Ev → Hp → Prop
  | .exit i, e, H => if i = id then Q .normal e H else Q (.exit i) e H
  | x, e, H => Q x e H
def CondV (v : V) [c : PP] : Prop := match v with
  | .lit (.bool t) => (t = true → c.a) ∧ (t = false → c.b)
  | _ => False
def vdraw (P : Program) (prim : CallF) (own : List Tmp) (ops : Array Oper) (Q : Ev → Hp → Prop) (e : Ev) (H : Hp) : Prop := ∃ p, plan ops = some p ∧
  vwo P prim own true ops ((p.1.take p.2).map (ops.getD · default)) (vwo P prim own false ops ((p.1.drop p.2).map (ops.getD · default)) Q) e H
def SemX (n : Nat) (K : Kn) (φ : List Rz) (Q : Ex → Ev → Hp → Prop) : Ex → Env → Heap → Prop := fun x => Sem n K φ (Q x)
def SemW (P : Program) (prim : CallF) (c : Code) (Q : Ex → Ev → Hp → Prop) (e : Ev) (H : Hp) : Prop := ∀ K φ σ ea, Rel K φ H σ → EvR K φ e ea → W P prim c (SemX φ.length K φ Q) ea σ
def vw (P : Program) (prim : CallF) (own : List Tmp) : Code → (Ex → Ev → Hp → Prop) → Ev → Hp → Prop
  | .skip, Q, e, H => Q .normal e H
  | .label _, Q, e, H => Q .normal e H
  | .exit id, Q, e, H => Q (.exit id) e H
  | .ret, Q, e, H => Q .ret e H
  | .region _ ops draw, Q, e, H => if draw then vdraw P prim own ops (Q .normal) e H else vwo P prim own false ops ops.toList (Q .normal) e H
  | .seq a b, Q, e, H => vw P prim own a (ThenV (vw P prim own b Q) Q) e H
  | .cond x a b, Q, e, H => @CondV (vev e x) ⟨vw P prim own a Q e H, vw P prim own b Q e H⟩
  | .block id a, Q, e, H => vw P prim own a (BlkV id Q) e H
  | .loop a, Q, e, H => SemW P prim (.loop a) Q e H
  | .scope a, Q, e, H => vw P prim own a Q e H
  | _, _, _, _ => False
theorem vw_sound (hC : ∀ n, CallOk P (acall P prim n)) : ∀ (c : Code) {Q : Ex → Ev → Hp → Prop} {e : Ev} {H : Hp}, vw P prim own c Q e H → SemW P prim c Q e H
  | .skip, Q, e, H, h => fun K φ σ ea hR hE => w_skip ⟨K, φ, e, H, .refl _ _ _, hR, hE, h⟩
  | .label _, Q, e, H, h => fun K φ σ ea hR hE => w_label ⟨K, φ, e, H, .refl _ _ _, hR, hE, h⟩
  | .exit _, Q, e, H, h => fun K φ σ ea hR hE => w_exit ⟨K, φ, e, H, .refl _ _ _, hR, hE, h⟩
  | .ret, Q, e, H, h => fun K φ σ ea hR hE => w_ret ⟨K, φ, e, H, .refl _ _ _, hR, hE, h⟩
  | .region id ops draw, Q, e, H, h => fun K φ σ ea hR hE => by
    unfold vw at h
    cases draw with
    | false => exact w_region (vwo_sound hC _ h hR hE)
    | true =>
      obtain ⟨⟨ord, q⟩, hp, h⟩ := h
      refine w_draw hp (wo_mono (vwo_sound hC _ h hR hE) fun ea1 σ1 ⟨K1, φ1, e1, H1, h1, h2, h3, h4⟩ => ?_)
      exact wo_mono (vwo_sound hC _ h4 h2 h3) fun _ _ hs => hs.on h1 (Nat.le_refl _)
  | .seq a b, Q, e, H, h => fun K φ σ ea hR hE => by
    refine w_seq ((vw_sound hC a h K φ σ ea hR hE).mono fun x ea1 σ1 hs => ?_)
    cases x with
    | normal =>
      obtain ⟨K1, φ1, e1, H1, h1, h2, h3, h4⟩ := hs
      exact (vw_sound hC b h4 K1 φ1 σ1 ea1 h2 h3).mono fun x _ _ hs => hs.on h1 (Nat.le_refl _)
    | exit i => exact hs
    | ret => exact hs
  | .cond x a b, Q, e, H, h => fun K φ σ ea hR hE => by
    have hx := vev_sound hE x
    have h : @CondV (vev e x) ⟨vw P prim own a Q e H, vw P prim own b Q e H⟩ := h
    unfold CondV at h
    split at h
    · rename_i t ht
      rw [ht] at hx
      exact w_cond hx.1 (fun e1 => vw_sound hC a (h.1 e1) K φ σ ea hR hE) (fun e1 => vw_sound hC b (h.2 e1) K φ σ ea hR hE)
    · exact h.elim
  | .block id a, Q, e, H, h => fun K φ σ ea hR hE => by
    refine w_block ((vw_sound hC a h K φ σ ea hR hE).mono fun x ea1 σ1 hs => ?_)
    cases x with
    | normal => exact hs
    | ret => exact hs
    | exit i =>
      obtain ⟨K1, φ1, e1, H1, h1, h2, h3, h4⟩ := hs
      have h4 : if i = id then Q .normal e1 H1 else Q (.exit i) e1 H1 := h4
      show if i = id then SemX φ.length K φ Q .normal ea1 σ1 else SemX φ.length K φ Q (.exit i) ea1 σ1
      by_cases hi : i = id
      · rw [if_pos hi] at h4 ⊢; exact ⟨K1, φ1, e1, H1, h1, h2, h3, h4⟩
      · rw [if_neg hi] at h4 ⊢; exact ⟨K1, φ1, e1, H1, h1, h2, h3, h4⟩
  | .loop a, Q, e, H, h => h
  | .scope a, Q, e, H, h => fun K φ σ ea hR hE => w_scope (vw_sound hC a h K φ σ ea hR hE)
  | .rangeFunc _ _ _ _, _, _, _, h => h.elim
  | .goto _, _, _, _, h => h.elim
  | .refuse _, _, _, _, h => h.elim
/-- After steps that the program does not see. -/
def G (n : Nat) (Q : Ev → Hp → Prop) (e : Ev) (H : Hp) : Prop := ∀ K φ σ ea, Rel K φ H σ → EvR K φ e ea → Sem n K φ Q ea σ
theorem G.refl {n : Nat} {Q : Ev → Hp → Prop} (h : Q e H) : G n Q e H := fun K φ σ ea hR hE => ⟨K, φ, e, H, .refl _ _ _, hR, hE, h⟩
/-- What holds of a round's end, where simp does not look. -/
class KQ where run : Ev → Hp → Prop
def GH (n : Nat) (e : Ev) (H : Hp) [k : KQ] : Prop := G n k.run e H
theorem GH.of {n : Nat} {k : KQ} (h : G n k.run e H) : GH n e H := h
theorem GH.refl {n : Nat} {k : KQ} (h : k.run e H) : GH n e H := G.refl h
/-- A loop's first round. -/
theorem v_once (hC : ∀ n, CallOk P (acall P prim n)) {c : Code} {Q : Ex → Ev → Hp → Prop} (h : vw P prim own c (ThenV (vw P prim own (.loop c) Q) Q) e H) : vw P prim own (.loop c) Q e H := by
  intro K φ σ ea hR hE
  refine AM.w_once ((vw_sound hC c h K φ σ ea hR hE).mono fun x ea1 σ1 hs => ?_)
  cases x with
  | normal =>
    obtain ⟨K1, φ1, e1, H1, h1, h2, h3, h4⟩ := hs
    exact (h4 K1 φ1 σ1 ea1 h2 h3).mono fun x _ _ hs => hs.on h1 (Nat.le_refl _)
  | exit i => exact hs
  | ret => exact hs
theorem v_loopX (hC : ∀ n, CallOk P (acall P prim n)) {X : Type} {c : Code} {Q : Ex → Ev → Hp → Prop} (I : X → Ev → Hp → Prop) (m : X → Nat) (x0 : X) (h0 : G H.length (I x0) e H)
    (hr : ∀ x e' H', I x e' H' → vw P prim own c (ThenV (fun e2 H2 => @GH H.length e2 H2 ⟨fun e3 H3 => ∃ y, I y e3 H3 ∧ m y < m x⟩) Q) e' H') : vw P prim own (.loop c) Q e H := by
  intro K φ σ ea hR hE
  have hlen : φ.length = H.length := hR.len
  refine AM.w_loopX (fun x ea σ => Sem φ.length K φ (I x) ea σ) m x0 (by rw [hlen]; exact h0 K φ σ ea hR hE) ?_
  rintro x ea1 σ1 ⟨K1, φ1, e1, H1, h1, h2, h3, h4⟩
  refine (vw_sound hC c (hr x e1 H1 h4) K1 φ1 σ1 ea1 h2 h3).mono fun y ea2 σ2 hs => ?_
  cases y with
  | normal =>
    obtain ⟨K2, φ2, e2, H2, g1, g2, g3, g4⟩ := hs
    obtain ⟨K3, φ3, e3, H3, f1, f2, f3, z, f4, f5⟩ := g4 K2 φ2 σ2 ea2 g2 g3
    have hl1 := h1.le_len (Nat.le_refl _)
    have hl2 := g1.le_len (Nat.le_refl _)
    rw [← hlen] at f1
    exact ⟨z, ⟨K3, φ3, e3, H3, (h1.trans g1 hl1).trans f1 (Nat.le_refl _), f2, f3, f4⟩, f5⟩
  | exit i => exact Sem.on h1 (Nat.le_refl _) hs
  | ret => exact Sem.on h1 (Nat.le_refl _) hs
/-- What a function answers, after steps that the program does not see. -/
def GV (n : Nat) (R : V → Hp → Prop) (v : V) (H : Hp) : Prop := ∀ K φ σ a, Rel K φ H σ → VR K v φ a → ∃ K' φ' v' H', Post n K φ K' φ' ∧ Rel K' φ' H' σ ∧ VR K' v' φ' a ∧ R v' H'
theorem GV.refl {n : Nat} {R : V → Hp → Prop} (h : R v H) : GV n R v H := fun K φ σ a hR hv => ⟨K, φ, v, H, .refl _ _ _, hR, hv, h⟩
/-- The same, where simp does not look at what is claimed. -/
def GVH (n : Nat) (v : V) (H : Hp) [k : KVV] : Prop := GV n k.run v H
def vresult (P : Program) (e : Ev) (H : Hp) : ResultVar → Option V
  | .tmp t => some (e t)
  | .cell a t => vLoad P t H (e a)
def vresultL (P : Program) (e : Ev) (H : Hp) : List ResultVar → Option (List V)
  | [] => some []
  | r :: rs => match vresult P e H r, vresultL P e H rs with
    | some v, some vs => some (v :: vs)
    | _, _ => none
def vresults (P : Program) (rs : List ResultVar) (e : Ev) (H : Hp) : Option V := match rs with
  | [r] => vresult P e H r
  | rs => (vresultL P e H rs).map .tup
theorem vresult_sound {r : ResultVar} (hR : Rel K φ H σ) (hE : EvR K φ e ea) (h : vresult P e H r = some v) : ∃ a, resultOf P ea σ r = some a ∧ VR K v φ a := by
  cases r with
  | tmp t => cases h; exact ⟨_, rfl, hE t⟩
  | cell c t =>
    obtain ⟨b, o, y, e1, e2, e3⟩ := vLoad_sound hR h (hE c)
    exact ⟨y, by show (match ea c with | .pointer (some p) => loadV P t σ p | _ => none) = some y; rw [e1]; exact e2, e3⟩
theorem vresultL_sound (hR : Rel K φ H σ) (hE : EvR K φ e ea) : ∀ {rs : List ResultVar} {vs : List V}, vresultL P e H rs = some vs → ∃ as, rs.mapM (resultOf P ea σ) = some as ∧ VRs K vs φ as
  | [], vs, h => by cases h; exact ⟨[], rfl, rfl⟩
  | r :: rs, vs, h => by
    unfold vresultL at h
    split at h
    · rename_i v vs' h1 h2
      cases h
      obtain ⟨a, e1, e2⟩ := vresult_sound hR hE h1
      obtain ⟨as, e3, e4⟩ := vresultL_sound hR hE h2
      exact ⟨a :: as, by rw [List.mapM_cons, e1, e3]; rfl, a, as, rfl, e2, e4⟩
    · cases h
theorem vresults_sound {rs : List ResultVar} (hR : Rel K φ H σ) (hE : EvR K φ e ea) (h : vresults P rs e H = some v) : ∃ a, resultsOf P rs ea σ = some a ∧ VR K v φ a := by
  unfold vresults at h
  unfold resultsOf
  split at h
  · exact vresult_sound hR hE h
  · rename_i hne
    cases hl : vresultL P e H rs with
    | none => rw [hl] at h; cases h
    | some vs =>
      rw [hl] at h; cases h
      obtain ⟨as, e1, e2⟩ := vresultL_sound hR hE hl
      split
      · exact absurd rfl (hne _)
      · rw [e1]; exact ⟨_, rfl, _, rfl, by simpa using e2⟩
def BodyV (P : Program) (fn : Func) (n : Nat) [k : KVV] : Ex → Ev → Hp → Prop
  | .exit _, _, _ => False
  | _, e, H => ∃ v, vresults P fn.results.toList e H = some v ∧ @GVH n v H k
/-- Objects name objects. -/
def Ob.bel (n : Nat) : Ob → Prop
  | .mem cells _ => Bels n cells
  | .vec _ rows s _ _ => (∀ r ∈ rows, Bels n r) ∧ RowsOk s rows
  | .fro _ _ _ => True
def Cl (H : Hp) : Prop := ∀ o ∈ H, o.bel H.length
theorem Rel.cl (hR : Rel K φ H σ) : Cl H := by
  intro o ho
  obtain ⟨g, hg⟩ := List.getElem?_of_mem ho
  have hl : g < φ.length := by rw [hR.len]; exact get_lt hg
  have hob := hR.ob g o _ hg (List.getElem?_eq_getElem hl)
  rw [← hR.len]
  cases o with
  | mem cells rw =>
    revert hob
    cases φ[g] with
    | mem b => rintro ⟨vals, p, _, _, h⟩; exact h.bel
    | vec _ _ _ => exact fun h => h.elim
    | fro _ _ _ => exact fun h => h.elim
  | vec w rows s rw t =>
    revert hob
    cases φ[g] with
    | mem b => exact fun h => h.elim
    | vec _ _ _ =>
      rintro ⟨_, rfl, _, _, hok, ⟨h, _⟩ | ⟨b, c, vals, rest, p, _, _, _, _, h⟩⟩
      · exact ⟨fun r hr => by have := List.length_pos_of_mem hr; omega, hok⟩
      · exact ⟨h.bel, hok⟩
    | fro _ _ _ => exact fun h => h.elim
  | fro w rows s => trivial
theorem v_enter (hC : ∀ n, CallOk P (acall P prim n)) (own : List Tmp) {f : FuncId} {fn : Func} {c : Code} {args : List V} {R : V → Hp → Prop} (hp : ∀ as σ, prim f as σ = none) (hf : P.funcs[f]? = some fn) (hb : fn.body = some c) (hok : okFn fn = true) (hsz : args.length ≤ fn.ntmps)
    (h : Cl H → Bels H.length args → vw P prim own c (@BodyV P fn H.length ⟨R⟩) (fun i => args.getD i (.tup [])) H) : VC P prim f args H R := by
  intro K φ σ as hR ha
  have hl := ha.len
  simp only [Array.length_toList] at hl
  refine ac_enter (hp _ _) hf hb hok (by omega) ?_
  have hE : EvR K φ (fun i => args.getD i (.tup [])) (fun i => as.getD i undef) := fun t => by
    show VR K (args.getD t (.tup [])) φ (as.getD t undef)
    rw [List.getD_eq_getElem?_getD, Array.getD_eq_getD_getElem?]
    cases ht : args[t]? with
    | none =>
      have : as[t]? = none := by rw [Array.getElem?_eq_none]; rw [List.getElem?_eq_none_iff] at ht; omega
      rw [this]
      exact ⟨#[], rfl, rfl⟩
    | some v =>
      obtain ⟨a, h1, h2⟩ := ha.get ht
      have : as[t]? = some a := by simpa using h1
      rw [this]
      exact h2
  refine (vw_sound hC c (h hR.cl (by rw [← hR.len]; exact ha.bel)) K φ σ _ hR hE).mono fun x ea σ' hs => ?_
  obtain ⟨K1, φ1, e1, H1, h1, h2, h3, h4⟩ := hs
  have fin : (∃ v, vresults P fn.results.toList e1 H1 = some v ∧ @GVH H.length v H1 ⟨R⟩) → ∃ v, resultsOf P fn.results.toList ea σ' = some v ∧ ∃ K' φ' u H', Post φ.length K φ K' φ' ∧ Rel K' φ' H' σ' ∧ VR K' u φ' v ∧ R u H' := fun ⟨v, g1, g2⟩ => by
    obtain ⟨a, f1, f2⟩ := vresults_sound h2 h3 g1
    obtain ⟨K2, φ2, u, H2, k1, k2, k3, k4⟩ := g2 K1 φ1 σ' a h2 f2
    rw [← hR.len] at k1
    exact ⟨a, f1, K2, φ2, u, H2, h1.trans k1 (Nat.le_refl _), k2, k3, k4⟩
  cases x with
  | exit i => exact h4.elim
  | normal => exact fin h4
  | ret => exact fin h4
theorem VC.known {f : FuncId} {R : V → Hp → Prop} {y : Value} (hp : ∀ σ, prim f #[] σ = some (y, σ)) (hs : scalarB y = true) (h : R (.lit y) H) : VC P prim f [] H R := by
  intro K φ σ as hR ha
  have has : as = #[] := by simp only [VRs] at ha; exact Array.toList_eq_nil_iff.1 ha
  subst has
  exact ac_prim (hp σ) ⟨K, φ, .lit y, H, .refl _ _ _, hR, ⟨rfl, hs⟩, h⟩
theorem VC.mono {f : FuncId} {args : List V} {R R' : V → Hp → Prop} (h : VC P prim f args H R) (hr : ∀ v H', R v H' → R' v H') : VC P prim f args H R' := fun K φ σ as hR ha =>
  (h K φ σ as hR ha).mono fun a σ' ⟨K', φ', v, H', h1, h2, h3, h4⟩ => ⟨K', φ', v, H', h1, h2, h3, hr _ _ h4⟩
end
end Go.Proofs.Ytenbclcfhjdcaaa.VM
end
section
set_option maxHeartbeats 8000000
set_option linter.unusedVariables false
set_option linter.unusedSimpArgs false
/- The machine of values: objects are frozen, dropped, kept. -/
namespace Go.Proofs.Ytenbclcfhjdcaaa.VM
open Go AM
section
variable {P : Program} {prim : CallF} {K K' : Kn} {φ φ' : List Rz} {H H' H1 : Hp} {σ σ' : Heap} {v x y : V} {a b : Value} {n : Nat} {L E : List Nat} {e e' : Ev} {ea : Env}

mutual
/-- From the second to the first value, where the objects below n stay, those of L are kept behind them, behind those new empty rows (E: their sizes), and all others are frozen. -/
def Up (n : Nat) (L E : List Nat) (H1 : Hp) : V → V → Prop
  | .fsl k s rows, u => (∃ k0, u = .fsl k0 s rows ∧ (k = true → k0 = true)) ∨ (u = .lit (.slice none 0 0) ∧ rows.length = 0 ∧ s < 4294967296) ∨
      (∀ r ∈ rows, pureVs r = true) ∧ ∃ g w rows0, u = .own g w ∧ ((∃ rw t, H1[g]? = some (.vec w rows0 s rw t) ∧ n ≤ g ∧ g ∉ L ∧ UpR n L E H1 rows rows0) ∨ (H1[g]? = some (.fro w rows0 s) ∧ rows = rows0))
  | .fptr cs, u => u = .fptr cs ∨ (pureVs cs = true ∧ ∃ g o cells rw, u = .ptr g o ∧ H1[g]? = some (.mem cells rw) ∧ n ≤ g ∧ g ∉ L ∧ o ≤ cells.length ∧ Ups n L E H1 cs (cells.drop o))
  | .own g w, u => (g < n ∧ u = .own g w) ∨ (∃ g0, u = .own g0 w ∧ n ≤ g ∧ L[g - n]? = some g0) ∨ (n + L.length ≤ g ∧ g < n + L.length + E.length ∧ w = 0 ∧ u = .lit (.slice none 0 0))
  | .ptr g o, u => (g < n ∧ u = .ptr g o) ∨ (∃ g0, u = .ptr g0 o ∧ n ≤ g ∧ L[g - n]? = some g0)
  | .elt g w k o, u => (g < n ∧ u = .elt g w k o) ∨ (∃ g0, u = .elt g0 w k o ∧ n ≤ g ∧ L[g - n]? = some g0)
  | .lit v, u => u = .lit v
  | .junk, _ => True
  | .fn f fi cp, u => ∃ fi0 cp0, u = .fn f fi0 cp0 ∧ Ups n L E H1 fi fi0 ∧ Ups n L E H1 cp cp0
  | .ifc t v, u => ∃ v0, u = .ifc t v0 ∧ Up n L E H1 v v0
  | .agg cs, u => ∃ cs0, u = .agg cs0 ∧ Ups n L E H1 cs cs0
  | .tup cs, u => ∃ cs0, u = .tup cs0 ∧ Ups n L E H1 cs cs0
def Ups (n : Nat) (L E : List Nat) (H1 : Hp) : List V → List V → Prop
  | [], us => us = []
  | v :: vs, us => ∃ u us', us = u :: us' ∧ Up n L E H1 v u ∧ Ups n L E H1 vs us'
def UpR (n : Nat) (L E : List Nat) (H1 : Hp) : List (List V) → List (List V) → Prop
  | [], us => us = []
  | v :: vs, us => ∃ u us', us = u :: us' ∧ Ups n L E H1 v u ∧ UpR n L E H1 vs us'
end
def UpO (n : Nat) (L E : List Nat) (H1 : Hp) : Ob → Ob → Prop
  | .mem cells rw, .mem cells0 rw0 => rw = rw0 ∧ Ups n L E H1 cells cells0
  | .vec w rows s rw t, .vec w0 rows0 s0 rw0 t0 => w = w0 ∧ s = s0 ∧ rw = rw0 ∧ t = t0 ∧ RowsOk s rows ∧ UpR n L E H1 rows rows0
  | .fro w rows s, .fro w0 rows0 s0 => w = w0 ∧ s = s0 ∧ rows = rows0
  | _, _ => False
mutual
theorem Up.self : ∀ {v : V}, Bel n v → Up n L E H1 v v
  | .lit _, _ => rfl
  | .fsl k _ _, _ => .inl ⟨k, rfl, id⟩
  | .fptr _, _ => .inl rfl
  | .ptr _ _, h => .inl ⟨h, rfl⟩
  | .own _ _, h => .inl ⟨h, rfl⟩
  | .elt _ _ _ _, h => .inl ⟨h, rfl⟩
  | .junk, _ => trivial
  | .fn f fi cp, h => ⟨fi, cp, rfl, Ups.self h.1, Ups.self h.2⟩
  | .ifc t v, h => ⟨v, rfl, Up.self (v := v) h⟩
  | .agg cs, h => ⟨cs, rfl, Ups.self (v := cs) h⟩
  | .tup cs, h => ⟨cs, rfl, Ups.self (v := cs) h⟩
theorem Ups.self : ∀ {v : List V}, Bels n v → Ups n L E H1 v v
  | [], _ => rfl
  | v :: vs, h => ⟨v, vs, rfl, Up.self h.1, Ups.self h.2⟩
end
mutual
theorem pure_bel : ∀ {v : V}, pureV v = true → Bel n v
  | .lit _, _ => trivial
  | .fsl _ _ _, _ => trivial
  | .fptr _, _ => trivial
  | .ptr _ _, h => by cases h
  | .own _ _, h => by cases h
  | .elt _ _ _ _, h => by cases h
  | .junk, _ => trivial
  | .fn f fi cp, h => by
    simp only [pureV, Bool.and_eq_true] at h
    exact ⟨pures_bel h.1, pures_bel h.2⟩
  | .ifc t v, h => pure_bel (v := v) h
  | .agg cs, h => pures_bel (v := cs) h
  | .tup cs, h => pures_bel (v := cs) h
theorem pures_bel : ∀ {v : List V}, pureVs v = true → Bels n v
  | [], _ => trivial
  | v :: vs, h => by
    simp only [pureVs, Bool.and_eq_true] at h
    exact ⟨pure_bel h.1, pures_bel h.2⟩
end
theorem UpR.self : ∀ {v : List (List V)}, (∀ r ∈ v, pureVs r = true) → UpR n L E H1 v v
  | [], _ => rfl
  | v :: vs, h => ⟨v, vs, rfl, Ups.self (pures_bel (h v (by simp))), UpR.self fun r hr => h r (by simp [hr])⟩
theorem UpR.selfB : ∀ {v : List (List V)}, (∀ r ∈ v, Bels n r) → UpR n L E H1 v v
  | [], _ => rfl
  | v :: vs, h => ⟨v, vs, rfl, Ups.self (h v (by simp)), UpR.selfB fun r hr => h r (by simp [hr])⟩
/-- What the objects are afterwards. -/
def phi2 (n : Nat) (L E : List Nat) (φ : List Rz) : List Rz := φ.take n ++ L.map (fun g => φ.getD g (.mem 0)) ++ E.map (fun s => .vec (.slice none 0 0) 0 s)
/-- What is frozen afterwards. -/
noncomputable def kn2 (n : Nat) (L : List Nat) (K : Kn) (φ : List Rz) (σ : Heap) : Kn := fun b =>
  open Classical in if ∃ g r, φ[g]? = some r ∧ n ≤ g ∧ g ∉ L ∧ r.blk = some b then (match σ[b]? with | some x => if x.perm = .dead then none else some x.cells | none => none) else K b
theorem phi2_lt (hn : n ≤ φ.length) {g : Nat} (hg : g < n) : (phi2 n L E φ)[g]? = φ[g]? := by
  unfold phi2
  rw [List.append_assoc, List.getElem?_append_left (by simp; omega), List.getElem?_take, if_pos hg]
theorem phi2_keep (hn : n ≤ φ.length) {g g0 : Nat} {r : Rz} (hg : n ≤ g) (h : L[g - n]? = some g0) (hr : φ[g0]? = some r) : (phi2 n L E φ)[g]? = some r := by
  unfold phi2
  have hl := get_lt h
  have ht : (φ.take n).length = n := by simp; omega
  rw [List.append_assoc, List.getElem?_append_right (by omega), List.getElem?_append_left (by simp; omega), ht, List.getElem?_map, h]
  simp [List.getD_eq_getElem?_getD, hr]
theorem phi2_new (hn : n ≤ φ.length) {g s : Nat} (hg : n + L.length ≤ g) (h : E[g - (n + L.length)]? = some s) : (phi2 n L E φ)[g]? = some (.vec (.slice none 0 0) 0 s) := by
  unfold phi2
  rw [List.getElem?_append_right (by simp; omega), List.getElem?_map]
  have : g - (List.take n φ ++ List.map (fun g => φ.getD g (Rz.mem 0)) L).length = g - (n + L.length) := by simp; omega
  rw [this, h]; rfl
theorem phi2_len (hn : n ≤ φ.length) : (phi2 n L E φ).length = n + L.length + E.length := by unfold phi2; simp; omega
/-- Where an object afterwards comes from. -/
theorem phi2_get (hn : n ≤ φ.length) (hL : ∀ g ∈ L, n ≤ g ∧ g < φ.length) {g : Nat} {r : Rz} (h : (phi2 n L E φ)[g]? = some r) :
    (g < n ∧ φ[g]? = some r) ∨ (n ≤ g ∧ ∃ g0, L[g - n]? = some g0 ∧ φ[g0]? = some r) ∨ (n + L.length ≤ g ∧ ∃ s, E[g - (n + L.length)]? = some s ∧ r = .vec (.slice none 0 0) 0 s) := by
  by_cases h1 : g < n
  · rw [phi2_lt hn h1] at h; exact .inl ⟨h1, h⟩
  · by_cases h2 : g - n < L.length
    · obtain ⟨g0, hg0⟩ : ∃ g0, L[g - n]? = some g0 := ⟨_, List.getElem?_eq_getElem h2⟩
      have := hL g0 (List.mem_of_getElem? hg0)
      obtain ⟨r0, hr0⟩ : ∃ r0, φ[g0]? = some r0 := ⟨_, List.getElem?_eq_getElem this.2⟩
      rw [phi2_keep hn (by omega) hg0 hr0] at h
      cases h
      exact .inr (.inl ⟨by omega, g0, hg0, hr0⟩)
    · have hl := get_lt h
      rw [phi2_len hn] at hl
      obtain ⟨s, hs⟩ : ∃ s, E[g - (n + L.length)]? = some s := ⟨_, List.getElem?_eq_getElem (by omega)⟩
      rw [phi2_new hn (by omega) hs] at h
      cases h
      exact .inr (.inr ⟨by omega, s, hs, rfl⟩)
theorem kn2_le (hR : Rel K φ H1 σ) {b : Nat} {c : List Value} (h : K b = some c) : kn2 n L K φ σ b = some c := by
  unfold kn2
  split
  · rename_i hx
    obtain ⟨g, r, h1, _, _, h2⟩ := hx
    rw [hR.apart g r b h1 h2] at h; cases h
  · exact h
theorem kn2_drop (hR : Rel K φ H1 σ) {g b : Nat} {r : Rz} {x : Blk} (hr : φ[g]? = some r) (hg : n ≤ g) (hL : g ∉ L) (hb : r.blk = some b) (hx : σ[b]? = some x) (hp : x.perm ≠ .dead) : kn2 n L K φ σ b = some x.cells := by
  unfold kn2
  rw [if_pos ⟨g, r, hr, hg, hL, hb⟩, hx]
  simp [hp]
theorem permOk_alive {rw : Bool} {p : Perm} (h : permOk rw p) : p ≠ .dead := by
  unfold permOk at h
  cases rw <;> simp_all
set_option linter.unusedSectionVars false
variable (hR : Rel K φ H1 σ) (hn : n ≤ φ.length) (hL : ∀ g ∈ L, n ≤ g ∧ g < φ.length) (hE : ∀ s ∈ E, 0 < s ∧ s ≤ 1048576)
include hR hn hL hE
mutual
theorem Up.sound : ∀ {v u : V} {a : Value}, Up n L E H1 v u → VR K u φ a → VR (kn2 n L K φ σ) v (phi2 n L E φ) a
  | .lit v, u, a, h, hv => by simp only [Up] at h; subst h; exact hv
  | .junk, _, _, _, _ => trivial
  | .fsl k s rows, u, a, h, hv => by
    have hpost : Post 0 K φ (kn2 n L K φ σ) (phi2 n L E φ) := ⟨fun b c h => kn2_le hR h, fun g r hg => by omega⟩
    simp only [Up] at h
    rcases h with ⟨k0, h, hkk⟩ | ⟨h, h0, h1⟩ | ⟨hpu, g, w, rows0, h, hq⟩
    · subst h
      have hv2 : VR (kn2 n L K φ σ) (.fsl k0 s rows) (phi2 n L E φ) a := hv.mono hpost trivial
      obtain ⟨A, c, v1, v2, v3, v4⟩ := hv2
      exact ⟨A, c, v1, v2, fun h => v3 (hkk h), v4⟩
    · subst h
      obtain ⟨rfl, _⟩ := hv
      refine ⟨none, 0, by rw [h0], fun _ => rfl, (fun _ => by simp [AM.dng]), ?_, h1, .inl ⟨h0, rfl⟩⟩
      rw [h0]; unfold capOK; rw [capOf_exact_eq (by decide)]; exact Nat.le_refl _
    · subst h
      obtain ⟨r, val, w', s', g1, g2, g3, g4, _⟩ := hv
      rcases hq with ⟨rw, t, h1, h2, h3, h4⟩ | ⟨h1, h2⟩
      · have hob := hR.ob g _ r h1 g1
        cases r with
        | mem _ => exact hob.elim
        | fro _ _ _ => exact hob.elim
        | vec val1 w1 s1 =>
          cases g2
          obtain ⟨f1, f2, f3, f4, f5, f6⟩ := hob
          subst f1; subst f2
          rw [g4 rfl]
          rcases f6 with ⟨f6, f7⟩ | ⟨b, c, vals, rest, p, f6, f7, f8, f9, f10⟩
          · have e0 : rows0 = [] := List.eq_nil_of_length_eq_zero f6
            subst e0
            have : rows = [] := by
              cases rows with
              | nil => rfl
              | cons r rs => simp only [UpR] at h4; obtain ⟨_, _, e, _⟩ := h4; cases e
            subst this
            have hcap : capOK 0 s 0 := by unfold capOK; rw [capOf_exact_eq (by decide)]; exact Nat.le_refl _
            rcases f7 with f7 | ⟨b, o, cells, f7, f8, f9⟩
            · subst f7; exact ⟨none, 0, rfl, fun _ => rfl, (fun _ => by simp [AM.dng]), hcap, by omega, .inl ⟨rfl, rfl⟩⟩
            · subst f7; exact ⟨_, 0, rfl, (fun e => by cases e), (fun _ => by simp [AM.dng]), hcap, by omega, .inr ⟨b, o, cells, rfl, kn2_le hR f8, by simpa using f9, by simp [RowsR]⟩⟩
          · obtain ⟨hrows, hl⟩ := UpR.sound h4 f10
            have hpr := hrows.pure hpu
            have hvl := hrows.len
            have hk := kn2_drop (L := L) hR g1 h2 h3 (vec_blk f6 f7) f8 (permOk_alive f9)
            subst f6
            refine ⟨_, c, by rw [hl], (fun e => by cases e), (fun _ => f7.dng), ?_, by omega, .inr ⟨b, 0, _, rfl, hk, ?_, ?_⟩⟩
            · rw [hl]; exact f7.ok
            · simp; omega
            · rw [List.drop_zero, ← hvl, List.take_left]
              exact hpr
      · subst h2
        have hob := hR.ob g _ r h1 g1
        cases r with
        | mem _ => exact hob.elim
        | vec _ _ _ => exact hob.elim
        | fro val1 w1 s1 =>
          cases g2
          obtain ⟨f1, f2, f3⟩ := hob
          subst f1; subst f2
          rw [g4 rfl]
          have hv2 : VR (kn2 n L K φ σ) (.fsl true s rows) (phi2 n L E φ) val := f3.monoN (n := 0) ⟨hpost.kn, fun g r hg => by omega⟩
          obtain ⟨A, c, v1, v2, v3, v4⟩ := hv2
          exact ⟨A, c, v1, v2, fun _ => v3 rfl, v4⟩
  | .fptr cs, u, a, h, hv => by
    have hpost : Post 0 K φ (kn2 n L K φ σ) (phi2 n L E φ) := ⟨fun b c h => kn2_le hR h, fun g r hg => by omega⟩
    simp only [Up] at h
    rcases h with h | ⟨hpu, g, o, cells, rw, h, h1, h2, h3, h4, h5⟩
    · subst h; exact hv.mono hpost trivial
    · subst h
      obtain ⟨b, g1, g2⟩ := hv
      obtain ⟨vals, p, f1, f2, f3⟩ := hR.ob g _ _ h1 g1
      have hs := Ups.sound h5 (f3.drop o)
      have hk := kn2_drop (L := L) hR g1 h2 h3 rfl f1 (permOk_alive f2)
      have hl := hs.len
      rw [List.length_drop] at hl
      have hl2 := f3.len
      refine ⟨b, o, _, g2, hk, by simp only; omega, ?_⟩
      simp only
      rw [← hl, ← List.length_drop, List.take_length]
      exact hs.pure hpu
  | .own g w, u, a, h, hv => by
    simp only [Up] at h
    rcases h with ⟨h1, h2⟩ | ⟨g0, h1, h2, h3⟩ | ⟨h1, h2, h3, h4⟩
    · subst h2
      obtain ⟨r, val, w', s', g1, g2⟩ := hv
      exact ⟨r, val, w', s', by rw [phi2_lt hn h1]; exact g1, g2⟩
    · subst h1
      obtain ⟨r, val, w', s', g1, g2⟩ := hv
      exact ⟨r, val, w', s', phi2_keep hn h2 h3 g1, g2⟩
    · subst h3; subst h4
      obtain ⟨rfl, _⟩ := hv
      obtain ⟨s, hs⟩ : ∃ s, E[g - (n + L.length)]? = some s := ⟨_, List.getElem?_eq_getElem (by omega)⟩
      exact ⟨_, _, 0, s, phi2_new hn h1 hs, rfl, Nat.le_refl _, fun _ => rfl, _, _, _, rfl⟩
  | .ptr g o, u, a, h, hv => by
    simp only [Up] at h
    rcases h with ⟨h1, h2⟩ | ⟨g0, h1, h2, h3⟩
    · subst h2
      obtain ⟨b, g1, g2⟩ := hv
      exact ⟨b, by rw [phi2_lt hn h1]; exact g1, g2⟩
    · subst h1
      obtain ⟨b, g1, g2⟩ := hv
      exact ⟨b, phi2_keep hn h2 h3 g1, g2⟩
  | .elt g w k o, u, a, h, hv => by
    simp only [Up] at h
    rcases h with ⟨h1, h2⟩ | ⟨g0, h1, h2, h3⟩
    · subst h2
      obtain ⟨r, val, w', s', g1, g2⟩ := hv
      exact ⟨r, val, w', s', by rw [phi2_lt hn h1]; exact g1, g2⟩
    · subst h1
      obtain ⟨r, val, w', s', g1, g2⟩ := hv
      exact ⟨r, val, w', s', phi2_keep hn h2 h3 g1, g2⟩
  | .fn f fi cp, u, a, h, hv => by
    simp only [Up] at h
    obtain ⟨fi0, cp0, rfl, h1, h2⟩ := h
    obtain ⟨fa, ca, e1, e2, e3⟩ := hv
    exact ⟨fa, ca, e1, Ups.sound h1 e2, Ups.sound h2 e3⟩
  | .ifc t v, u, a, h, hv => by
    simp only [Up] at h
    obtain ⟨v0, rfl, h1⟩ := h
    obtain ⟨x, e1, e2⟩ := hv
    exact ⟨x, e1, Up.sound h1 e2⟩
  | .agg cs, u, a, h, hv => by
    simp only [Up] at h
    obtain ⟨v0, rfl, h1⟩ := h
    obtain ⟨x, e1, e2⟩ := hv
    exact ⟨x, e1, Ups.sound h1 e2⟩
  | .tup cs, u, a, h, hv => by
    simp only [Up] at h
    obtain ⟨v0, rfl, h1⟩ := h
    obtain ⟨x, e1, e2⟩ := hv
    exact ⟨x, e1, Ups.sound h1 e2⟩
theorem Ups.sound : ∀ {v u : List V} {a : List Value}, Ups n L E H1 v u → VRs K u φ a → VRs (kn2 n L K φ σ) v (phi2 n L E φ) a
  | [], u, a, h, hv => by simp only [Ups] at h; subst h; exact hv
  | v :: vs, u, a, h, hv => by
    simp only [Ups] at h
    obtain ⟨u0, us, rfl, h1, h2⟩ := h
    obtain ⟨a0, as, e1, e2, e3⟩ := hv
    exact ⟨a0, as, e1, Up.sound h1 e2, Ups.sound h2 e3⟩
theorem UpR.sound : ∀ {s : Nat} {v u : List (List V)} {a : List Value}, UpR n L E H1 v u → RowsR K s u φ a → RowsR (kn2 n L K φ σ) s v (phi2 n L E φ) a ∧ v.length = u.length
  | s, [], u, a, h, hv => by simp only [UpR] at h; subst h; exact ⟨hv, rfl⟩
  | s, v :: vs, u, a, h, hv => by
    simp only [UpR] at h
    obtain ⟨u0, us, rfl, h1, h2⟩ := h
    obtain ⟨a0, as, e1, e2, e3, e4⟩ := hv
    obtain ⟨f1, f2⟩ := UpR.sound h2 e4
    have h3 := Ups.sound h1 e3
    have l1 := h3.len
    have l2 := e3.len
    exact ⟨⟨a0, as, e1, by omega, h3, f1⟩, by simp [f2]⟩
end
end
end Go.Proofs.Ytenbclcfhjdcaaa.VM
end
