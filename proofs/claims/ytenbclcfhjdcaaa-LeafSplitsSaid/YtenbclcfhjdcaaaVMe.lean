/- The machine of values: the other operations. -/
import Derived.Test.YtenbclcfhjdcaaaVMd
namespace Go.Proofs.Ytenbclcfhjdcaaa.VM
open Go AM
section
variable {P : Program} {K K' : Kn} {φ φ' : List Rz} {H H' : Hp} {σ σ' : Heap} {v x : V} {a : Value} {q : Bool} {ρ : Operand → Value}

def intOptV : Option V → Option (Option Int)
  | none => some none
  | some v => (isInt v).map some
def OptR (K : Kn) (φ : List Rz) : Option V → Option Value → Prop
  | none, none => True
  | some v, some a => VR K v φ a
  | _, _ => False
theorem intOptV_sound {v : Option V} {a : Option Value} {j : Option Int} (h : intOptV v = some j) (hr : OptR K φ v a) : intOpt a = some j := by
  cases v with
  | none =>
    cases a with
    | none => cases h; rfl
    | some a => exact hr.elim
  | some v =>
    cases a with
    | none => exact hr.elim
    | some a =>
      simp only [intOptV] at h
      cases hj : isInt v with
      | none => rw [hj] at h; cases h
      | some j' =>
        rw [hj] at h; cases h
        obtain ⟨k, rfl⟩ := isInt_sound hj hr
        rfl
theorem capOf_dng : capOf AM.dng = .dng := by unfold capOf; simp [top, AM.dng]
def vSliceR (k : Bool) (s : Nat) (rows : List (List V)) (lo hi mx : Option Int) : Option V := (bounds rows.length rows.length lo hi mx).map fun p => .fsl (k && lo.isNone) s ((rows.take p.2.1).drop p.1)
/-- A slice expression on what is frozen. -/
def vSlice (P : Program) (t : TypeId) (H : Hp) (x : V) (lo hi mx : Option V) : Option V := match intOptV lo, intOptV hi, intOptV mx with
  | some lo, some hi, some mx => match P.underlying t with
    | some (.slice e) => match szOf P e with
      | some s => match x with
        | .lit (.slice none 0 0) => (bounds 0 0 lo hi mx).map fun _ => x
        | .fsl k s' rows => if s' = s then vSliceR k s rows lo hi mx else none
        | .own g w => match H[g]? with
          | some (.fro w' rows s') => if w = w' ∧ s' = s then vSliceR true s rows lo hi mx else none
          | _ => none
        | _ => none
      | none => none
    | _ => none
  | _, _, _ => none
theorem bounds_cap {n C l h m : Nat} {lo hi mx : Option Int} (hb : bounds n n lo hi mx = some (l, h, m)) (hC : n ≤ C) : ∃ m', bounds n C lo hi mx = some (l, h, m') ∧ l ≤ h ∧ h ≤ n ∧ h ≤ m' ∧ m' ≤ C := by
  unfold bounds at hb ⊢
  split at hb <;> (try (split at hb)) <;> (try (cases hb; done)) <;> cases hb
  · exact ⟨C, rfl, by omega, by omega, by omega, by omega⟩
  · rename_i hc; exact ⟨C, if_pos (by omega), by omega, by omega, by omega, by omega⟩
  · rename_i hc; exact ⟨C, if_pos (by omega), by omega, by omega, by omega, by omega⟩
  · rename_i hc; exact ⟨C, if_pos (by omega), by omega, by omega, by omega, by omega⟩
  · rename_i m hc; exact ⟨m.toNat, if_pos (by omega), by omega, by omega, by omega, by omega⟩
  · rename_i m hc; exact ⟨m.toNat, if_pos (by omega), by omega, by omega, by omega, by omega⟩
theorem unk_lt {c es lb : Nat} (hC : capOf c = .unk es lb) : lb < top := by
  unfold capOf at hC
  split at hC
  · cases hC
  · split at hC
    · cases hC; exact Nat.mod_lt _ (by simp [top])
    · cases hC
theorem capOK_of {c s lb n : Nat} (h : capOf c = .unk s lb) (h3 : n ≤ lb) : capOK c s n := by
  unfold capOK
  rw [h]
  exact ⟨rfl, h3⟩
theorem capOK_unk {s lb n : Nat} (h1 : lb < top) (h2 : s < 4294967296) (h3 : n ≤ lb) : capOK (unk s lb) s n := capOK_of (capOf_unk_eq h1 h2) h3
theorem fsl_main {rows : List (List V)} {cells : List Value} {s b o l hh c' : Nat} {k : Bool} (hk : k = true → c' < AM.dng) (e6 : K b = some cells) (e7 : o + rows.length * s ≤ cells.length) (e8 : RowsR K s rows [] ((cells.drop o).take (rows.length * s))) (e3' : s < 4294967296)
    (hlh1 : l ≤ hh) (hhn : hh ≤ rows.length) (hc' : capOK c' s (hh - l)) : VR K (.fsl k s ((rows.take hh).drop l)) φ (.slice (some ⟨b, o + l * s, none⟩) (hh - l) c') := by
  have hlen : ((rows.take hh).drop l).length = hh - l := by simp; omega
  have hls : l * s ≤ hh * s := Nat.mul_le_mul_right _ hlh1
  have hhs : hh * s ≤ rows.length * s := Nat.mul_le_mul_right _ hhn
  have hsub : (hh - l) * s = hh * s - l * s := Nat.sub_mul ..
  have hrows : RowsR K s ((rows.take hh).drop l) [] ((cells.drop (o + l * s)).take ((hh - l) * s)) := by
    have := (e8.takeR hh hhn).dropR l (by simp; omega)
    rw [List.take_take, Nat.min_eq_left hhs, show ((cells.drop o).take (hh * s)).drop (l * s) = (cells.drop (o + l * s)).take (hh * s - l * s) by rw [List.drop_take, List.drop_drop]] at this
    rw [hsub]; exact this
  refine ⟨_, c', by rw [hlen], (fun e => by cases e), hk, by rw [hlen]; exact hc', e3', .inr ⟨b, o + l * s, cells, rfl, e6, ?_, by rw [hlen]; exact hrows⟩⟩
  rw [hlen, hsub]
  have : o + l * s + (hh * s - l * s) = o + hh * s := by omega
  omega
theorem fsl_empt {rows : List (List V)} {cells : List Value} {s b o l hh c' : Nat} {k : Bool} (hk : k = true → c' < AM.dng) (e6 : K b = some cells) (e7 : o ≤ cells.length) (e3' : s < 4294967296) (e : hh ≤ l) (hc' : capOK c' s 0) : VR K (.fsl k s ((rows.take hh).drop l)) φ (.slice (some ⟨b, o, none⟩) 0 c') := by
  have h0 : ((rows.take hh).drop l).length = 0 := by simp; omega
  rw [List.eq_nil_of_length_eq_zero h0]
  exact ⟨_, c', rfl, (fun e => by cases e), hk, hc', e3', .inr ⟨b, o, cells, rfl, e6, by simp; omega, by simp [RowsR]⟩⟩
theorem lo_none {n C l h m : Nat} {lo hi mx : Option Int} (hb : bounds n C lo hi mx = some (l, h, m)) (hl : lo = none) : l = 0 := by
  subst hl
  unfold bounds at hb
  split at hb <;> (try (split at hb)) <;> simp_all
theorem vSliceR_sound {s t e : Nat} {k : Bool} {rows : List (List V)} {lo hi mx : Option Int} {loA hiA mxA : Option Value} (hu : P.underlying t = some (.slice e)) (hs : szOf P e = some s)
    (h1 : intOpt loA = some lo) (h2 : intOpt hiA = some hi) (h3 : intOpt mxA = some mx) (h : vSliceR k s rows lo hi mx = some v) (hr : VR K (.fsl k s rows) [] a) : ∃ y, aSlice P t a loA hiA mxA = some y ∧ VR K v φ y := by
  unfold vSliceR at h
  cases hb : bounds rows.length rows.length lo hi mx with
  | none => rw [hb] at h; cases h
  | some p =>
    obtain ⟨l, hh, m⟩ := p
    rw [hb] at h
    cases h
    obtain ⟨A, c, e1, e2, ek, e3, e3', e4⟩ := hr
    subst e1
    unfold aSlice
    rw [h1, h2, h3]; dsimp only
    rw [hu]; dsimp only
    rw [hs]; dsimp only
    rcases e4 with ⟨e4, e5⟩ | ⟨b, o, cells, e5, e6, e7, e8⟩
    · subst e5
      dsimp only
      rw [e4] at hb
      rw [if_pos ⟨e4, e2 rfl⟩, hb]
      refine ⟨_, rfl, none, 0, ?_, fun _ => rfl, (fun _ => by simp [AM.dng]), ?_, e3', ?_⟩
      · have : rows = [] := List.eq_nil_of_length_eq_zero e4
        subst this; simp
      · have : rows = [] := List.eq_nil_of_length_eq_zero e4
        subst this; unfold capOK; rw [capOf_exact_eq (by decide)]; simp
      · have : rows = [] := List.eq_nil_of_length_eq_zero e4
        subst this; simp
    · subst e5
      dsimp only
      have hlh : ∀ C, rows.length ≤ C → ∃ m', bounds rows.length C lo hi mx = some (l, hh, m') ∧ l ≤ hh ∧ hh ≤ rows.length ∧ hh ≤ m' ∧ m' ≤ C := fun C hC => bounds_cap hb hC
      obtain ⟨_, _, hlh1, hhn, _, _⟩ := hlh _ (Nat.le_refl _)
      have main : ∀ c', ((k && lo.isNone) = true → c' < AM.dng) → capOK c' s (hh - l) → VR K (.fsl (k && lo.isNone) s ((rows.take hh).drop l)) φ (.slice (some ⟨b, o + l * s, none⟩) (hh - l) c') := fun c' hkc hc' => fsl_main hkc e6 e7 e8 e3' hlh1 hhn hc'
      have empt : ∀ c', ((k && lo.isNone) = true → c' < AM.dng) → hh = l → capOK c' s 0 → VR K (.fsl (k && lo.isNone) s ((rows.take hh).drop l)) φ (.slice (some ⟨b, o, none⟩) 0 c') := fun c' hkc e hc' => fsl_empt hkc e6 (by omega) e3' (by omega) hc'
      unfold capOK at e3
      split at e3
      · rename_i C hC
        obtain ⟨hCc, hCt⟩ := capOf_exact hC
        rw [hC]; dsimp only
        obtain ⟨m', f1, _, _, f2, f3⟩ := hlh C e3
        rw [f1]
        refine ⟨_, rfl, ?_⟩
        dsimp only
        have hkd : m' - l < AM.dng := by simp only [top, AM.dng] at *; omega
        have hcap : capOK (m' - l) s (hh - l) := by unfold capOK; rw [capOf_exact_eq (by omega)]; simp only; omega
        split
        · rename_i hml
          have : hh = l := by omega
          rw [show hh - l = 0 by omega]
          exact empt _ (fun _ => hkd) this (by rw [show hh - l = 0 by omega] at hcap; exact hcap)
        · rw [Addr.add_lit]; exact main _ (fun _ => hkd) hcap
      · rename_i es lb hC
        obtain ⟨hes, hlb⟩ := e3
        rw [hes] at hC
        have hlbt : lb < top := unk_lt hC
        rw [hC]; dsimp only
        obtain ⟨m', f1, _, _, f2, f3⟩ := hlh lb hlb
        rw [f1]; dsimp only
        have hc2 : capOK (unk s (lb - l)) s (hh - l) := capOK_unk (Nat.lt_of_le_of_lt (Nat.sub_le _ _) hlbt) e3' (Nat.sub_le_sub_right (Nat.le_trans hhn hlb) l)
        revert hc2
        generalize unk s (lb - l) = u
        intro hc2
        split
        · refine ⟨_, rfl, ?_⟩
          have hkd : m' - l < AM.dng := by simp only [top, AM.dng] at *; omega
          have hcap : capOK (m' - l) s (hh - l) := by unfold capOK; rw [capOf_exact_eq (by omega)]; simp only; omega
          split
          · rename_i hml
            have : hh = l := by omega
            rw [show hh - l = 0 by omega]
            exact empt _ (fun _ => hkd) this (by rw [show hh - l = 0 by omega] at hcap; exact hcap)
          · rw [Addr.add_lit]; exact main _ (fun _ => hkd) hcap
        · split
          · rename_i h0
            subst h0
            refine ⟨_, rfl, ?_⟩
            have := main c (fun h => ek (by simp at h; exact h.1)) (by unfold capOK; rw [hC]; exact ⟨rfl, by omega⟩)
            simpa using this
          · rename_i h0
            split
            · rename_i hc
              refine ⟨_, rfl, ?_⟩
              rw [Addr.add_lit]
              exact main _ (fun h => absurd (lo_none hb (by simp at h; exact h.2)) h0) hc2
            · rename_i hnc
              have hq : l = hh := by
                have : ¬ l < hh := fun h => hnc ⟨h, rfl⟩
                omega
              rw [if_pos hq]
              refine ⟨_, rfl, empt _ (fun h => absurd (lo_none hb (by simp at h; exact h.2)) h0) hq.symm (by unfold capOK; rw [capOf_dng])⟩
      · rename_i hC
        rw [hC]; dsimp only
        rw [e3] at hb
        rw [hb]
        refine ⟨_, rfl, empt _ (fun h => absurd (ek (by simp at h; exact h.1)) (by have := AM.capOf_dng hC; omega)) (by omega) (by unfold capOK; rw [capOf_dng])⟩
theorem vSlice_sound (hR : Rel K φ H σ) {t : TypeId} {lo hi mx : Option V} {loA hiA mxA : Option Value} (h : vSlice P t H x lo hi mx = some v) (hx : VR K x φ a) (h1 : OptR K φ lo loA) (h2 : OptR K φ hi hiA) (h3 : OptR K φ mx mxA) :
    (∃ y, aSlice P t a loA hiA mxA = some y ∧ VR K v φ y) ∧ ∀ s, a ≠ .string s := by
  unfold vSlice at h
  split at h
  · rename_i lo' hi' mx' i1 i2 i3
    have j1 := intOptV_sound i1 h1
    have j2 := intOptV_sound i2 h2
    have j3 := intOptV_sound i3 h3
    split at h
    · rename_i e hu
      split at h
      · rename_i s hs
        split at h
        · obtain ⟨rfl, _⟩ := hx
          refine ⟨?_, fun s e => by cases e⟩
          cases hb : bounds 0 0 lo' hi' mx' with
          | none => rw [hb] at h; cases h
          | some p =>
            rw [hb] at h; cases h
            refine ⟨.slice none 0 0, ?_, rfl, rfl⟩
            unfold aSlice
            rw [j1, j2, j3]; dsimp only
            rw [hu]; dsimp only
            rw [hs]; dsimp only
            rw [if_pos ⟨rfl, rfl⟩, hb]; rfl
        · split at h
          · rename_i e; subst e
            have hx' : VR K (.fsl _ _ _) [] a := hx
            refine ⟨vSliceR_sound hu hs j1 j2 j3 h hx', fun s e => ?_⟩
            obtain ⟨A, c, e1, _⟩ := hx'
            rw [e1] at e; cases e
          · cases h
        · rename_i g w
          split at h
          · rename_i w' rows s' hg
            split at h
            · rename_i hc
              obtain ⟨rfl, rfl⟩ := hc
              obtain ⟨r, val, w', s1, g1, g2, g3, g4, A, n, c, g5⟩ := hx
              refine ⟨?_, fun s e => by rw [g5] at e; cases e⟩
              have hob := hR.ob g _ _ hg g1
              cases r with
              | mem _ => cases g2
              | vec _ _ _ => exact hob.elim
              | fro val1 w2 s2 =>
                cases g2
                obtain ⟨e1, e2, e3⟩ := hob
                subst e1; subst e2
                rw [g4 rfl]
                exact vSliceR_sound hu hs j1 j2 j3 h e3
            · cases h
          · cases h
        · cases h
      · cases h
    · cases h
  · cases h
/-- How many elements. -/
def lenOf (H : Hp) : V → Option Nat
  | .lit (.slice none 0 0) => some 0
  | .fsl _ _ rows => some rows.length
  | .own g w => (rowsAt H g w).map List.length
  | _ => none
theorem lenOf_sound (hR : Rel K φ H σ) {n : Nat} (h : lenOf H x = some n) (hx : VR K x φ a) : ∃ A c, a = .slice A n c := by
  unfold lenOf at h
  split at h
  · cases h; exact ⟨_, _, hx.1⟩
  · cases h; obtain ⟨A, c, h1, _⟩ := hx; exact ⟨_, _, h1⟩
  · rename_i g w
    cases hr : rowsAt H g w with
    | none => rw [hr] at h; cases h
    | some rows =>
      rw [hr] at h; cases h
      obtain ⟨r, val, w', s1, g1, g2, g3, g4, _⟩ := hx
      obtain ⟨e, A, c, e1, _⟩ := rowsAt_sound hR hr g1 g2
      rw [g4 e]
      exact ⟨_, _, e1⟩
  · cases h
def vLen (P : Program) (t : TypeId) (H : Hp) (x : V) : Option V := match P.underlying t with
  | some (.slice _) => (lenOf H x).map fun n => .lit (.int .i64 n)
  | some (.array n _) => some (.lit (.int .i64 n))
  | _ => none
section
variable {P : Program} {ρ : Operand → Value} {dst : Option Tmp} {type : TypeId} {pos : String} {after : Array Edge} {guard : Option (Nat × Bool)}
theorem aPure_min {x y : Operand} {ts : Array TypeId} {k k' : IntKind} {m n : Int} (hx : ρ x = .int k m) (hy : ρ y = .int k' n) : aPure P ρ ⟨dst, .call { callee := .builtin .min, args := #[x, y], argTypes := ts }, type, pos, after, guard⟩ = some (.int k (if n < m then n else m)) := by
  unfold aPure
  rw [if_pos (by simp [Op.operands, Call.operands, hx, hy, flatB, scalarB])]
  simp [execOp, resolve, invoke, builtin, Builtin.min_, hx, hy, Builtin.min2, pureRun_bind, flatB, scalarB]
theorem aPure_max {x y : Operand} {ts : Array TypeId} {k k' : IntKind} {m n : Int} (hx : ρ x = .int k m) (hy : ρ y = .int k' n) : aPure P ρ ⟨dst, .call { callee := .builtin .max, args := #[x, y], argTypes := ts }, type, pos, after, guard⟩ = some (.int k (if n > m then n else m)) := by
  unfold aPure
  rw [if_pos (by simp [Op.operands, Call.operands, hx, hy, flatB, scalarB])]
  simp [execOp, resolve, invoke, builtin, Builtin.max_, hx, hy, Builtin.max2, pureRun_bind, flatB, scalarB]
theorem aPure_nil {t ty e : TypeId} {x y : Operand} (hu : P.underlying t = some (.pointer e)) (hx : ρ x = .pointer none) (hy : ρ y = .pointer none) :
    aPure P ρ ⟨dst, .binOp .eql t x y ty, type, pos, after, guard⟩ = some (.bool true) ∧ aPure P ρ ⟨dst, .binOp .neq t x y ty, type, pos, after, guard⟩ = some (.bool false) := by
  have hq : pureRun P (Op.equal t (.pointer none) (.pointer none)) = some true := by
    show pureRun P (Op.equalIn (9999 + 1) t (.pointer none) (.pointer none)) = _
    generalize 9999 = d
    unfold Op.equalIn
    rw [pureRun_bind, pureRun_underlying, hu]
    rfl
  have hop : ∀ op, ((Op.binOp op t x y ty).operands.all fun x => flatB (ρ x)) = true := fun op => by simp [Op.operands, hx, hy, flatB, scalarB]
  refine ⟨?_, ?_⟩
  · unfold aPure
    rw [if_pos (hop _)]
    simp only [execOp, hx, hy]
    have : pureRun P (do eqGuard .eql t x y (.pointer none) (.pointer none); binOp .eql t (.pointer none) (.pointer none)) = some (.bool true) := by
      rw [eqGuard_at_pointer, pureRun_bind]
      simp only [pureRun_pure, Option.bind_some, binOp]
      rw [pureRun_bind, hq]; rfl
    rw [pureRun_bind, this]
    rfl
  · unfold aPure
    rw [if_pos (hop _)]
    simp only [execOp, hx, hy]
    have : pureRun P (do eqGuard .neq t x y (.pointer none) (.pointer none); binOp .neq t (.pointer none) (.pointer none)) = some (.bool false) := by
      rw [eqGuard_at_pointer, pureRun_bind]
      simp only [pureRun_pure, Option.bind_some, binOp]
      rw [pureRun_bind, hq]; rfl
    rw [pureRun_bind, this]
    rfl
theorem aPure_len {t : TypeId} {x : Operand} {s : ByteArray} (hu : P.underlying t = some .string) (hx : ρ x = .string s) : aPure P ρ ⟨dst, .call { callee := .builtin .len, args := #[x], argTypes := #[t] }, type, pos, after, guard⟩ = some (.int .i64 s.size) := by
  unfold aPure
  rw [if_pos (by simp [Op.operands, Call.operands, hx, flatB, scalarB])]
  simp [execOp, resolve, invoke, builtin, Builtin.len_, hx, pureRun_bind, pureRun_underlying, hu, flatB, scalarB, goInt]
end
/-- '==' against nil. -/
def vEq (P : Program) (t : TypeId) (x y : V) : Option Bool := match P.underlying t with
  | some (.pointer _) => match x, y with
    | .ptr _ _, .lit (.pointer none) | .fptr _, .lit (.pointer none) | .elt _ _ _ _, .lit (.pointer none) => some false
    | .lit (.pointer none), .ptr _ _ | .lit (.pointer none), .fptr _ | .lit (.pointer none), .elt _ _ _ _ => some false
    | _, _ => none
  | some (.func _ _ _) => match x, y with
    | .fn _ _ _, .lit .nilFunc | .lit .nilFunc, .fn _ _ _ => some false
    | _, _ => none
  | _ => none
def mkLit (v : Value) : Option V := if scalarB v = true then some (.lit v) else none
theorem mkLit_sound {y : Value} (h : mkLit y = some v) : VR K v φ y := by
  unfold mkLit at h
  split at h
  · rename_i hs; cases h; exact ⟨rfl, hs⟩
  · cases h
/-- '==' of two nil pointers. -/
def nilI (P : Program) (op : BinOp) (t : TypeId) (x y : Value) : Option V := match P.underlying t, x, y, op with
  | some (.pointer _), .pointer none, .pointer none, .eql => some (.lit (.bool true))
  | some (.pointer _), .pointer none, .pointer none, .neq => some (.lit (.bool false))
  | _, _, _, _ => none
def vBin (P : Program) (op : BinOp) (t : TypeId) (x y : V) : Option V := match toVal x, toVal y with
  | some a, some b => match strEq op a b with
    | some r => some (.lit (.bool r))
    | none => match binI P op t a b with
      | some y => mkLit y
      | none => nilI P op t a b
  | _, _ => match op with
    | .eql => (vEq P t x y).map fun b => .lit (.bool b)
    | .neq => (vEq P t x y).map fun b => .lit (.bool (!b))
    | _ => none
end
section
variable {P : Program} {K K' : Kn} {φ φ' : List Rz} {H H' : Hp} {σ σ' : Heap} {v x y : V} {a b : Value} {q : Bool} {ρ : Operand → Value}
variable {dst : Option Tmp} {type : TypeId} {pos : String} {after : Array Edge} {guard : Option (Nat × Bool)}
theorem vEq_sound {t : TypeId} {r : Bool} (h : vEq P t x y = some r) (hx : VR K x φ a) (hy : VR K y φ b) : aEq P t a b = some r ∧ (flatB a && flatB b) = false ∧ ∀ op, strEq op a b = none := by
  unfold vEq at h
  split at h
  · rename_i p hu
    split at h <;> cases h
    all_goals
      first
      | (obtain ⟨rfl, _⟩ := hy)
      | (obtain ⟨rfl, _⟩ := hx)
    · obtain ⟨b', _, rfl⟩ := hx; exact ⟨by unfold aEq; rw [hu], rfl, fun op => by cases op <;> rfl⟩
    · obtain ⟨b', o, c, rfl, _⟩ := hx; exact ⟨by unfold aEq; rw [hu], rfl, fun op => by cases op <;> rfl⟩
    · obtain ⟨_, _, _, _, _, _, _, _, _, rfl⟩ := hx; exact ⟨by unfold aEq; rw [hu], rfl, fun op => by cases op <;> rfl⟩
    · obtain ⟨b', _, rfl⟩ := hy; exact ⟨by unfold aEq; rw [hu], rfl, fun op => by cases op <;> rfl⟩
    · obtain ⟨b', o, c, rfl, _⟩ := hy; exact ⟨by unfold aEq; rw [hu], rfl, fun op => by cases op <;> rfl⟩
    · obtain ⟨_, _, _, _, _, _, _, _, _, rfl⟩ := hy; exact ⟨by unfold aEq; rw [hu], rfl, fun op => by cases op <;> rfl⟩
  · rename_i p _ _ hu
    split at h <;> cases h
    · obtain ⟨rfl, _⟩ := hy; obtain ⟨_, _, rfl, _⟩ := hx; exact ⟨by unfold aEq; rw [hu], rfl, fun op => by cases op <;> rfl⟩
    · obtain ⟨rfl, _⟩ := hx; obtain ⟨_, _, rfl, _⟩ := hy; exact ⟨by unfold aEq; rw [hu], rfl, fun op => by cases op <;> rfl⟩
  · cases h
/-- How many elements a slice has that is held against nil. -/
def nilCmp (P : Program) (H : Hp) (t : TypeId) (x y : V) : Option Nat := match P.underlying t with
  | some (.slice _) => match x, y with
    | .fsl _ _ rows, .lit (.slice none 0 0) => some rows.length
    | .lit (.slice none 0 0), .fsl _ _ rows => some rows.length
    | .own g w, .lit (.slice none 0 0) => (rowsAt H g w).map List.length
    | .lit (.slice none 0 0), .own g w => (rowsAt H g w).map List.length
    | _, _ => none
  | _ => none
theorem nilCmp_sound (hR : Rel K φ H σ) {t : TypeId} {n : Nat} (h : nilCmp P H t x y = some n) (hx : VR K x φ a) (hy : VR K y φ b) : ∃ r : Bool, (0 < n → r = false) ∧
    (∀ ox oy ty, ρ ox = a → ρ oy = b → binV P .eql t ox oy ty ρ ⟨dst, .binOp .eql t ox oy ty, type, pos, after, guard⟩ σ = some (.bool r, σ) ∧ binV P .neq t ox oy ty ρ ⟨dst, .binOp .neq t ox oy ty, type, pos, after, guard⟩ σ = some (.bool (!r), σ)) := by
  unfold nilCmp at h
  split at h
  · rename_i e hu
    have fin : ∀ A c, (A = none → c = 0 ∧ n = 0) → (a = .slice A n c ∧ b = .slice none 0 0 ∨ a = .slice none 0 0 ∧ b = .slice A n c) → ∃ r : Bool, (0 < n → r = false) ∧
      (∀ ox oy ty, ρ ox = a → ρ oy = b → binV P .eql t ox oy ty ρ ⟨dst, .binOp .eql t ox oy ty, type, pos, after, guard⟩ σ = some (.bool r, σ) ∧ binV P .neq t ox oy ty ρ ⟨dst, .binOp .neq t ox oy ty, type, pos, after, guard⟩ σ = some (.bool (!r), σ)) := fun A c hA hab => by
      cases A with
      | none =>
        obtain ⟨rfl, rfl⟩ := hA rfl
        have ha : a = .slice none 0 0 := by rcases hab with ⟨h, _⟩ | ⟨h, _⟩ <;> exact h
        have hb : b = .slice none 0 0 := by rcases hab with ⟨_, h⟩ | ⟨_, h⟩ <;> exact h
        refine ⟨true, fun h => by omega, fun ox oy ty e1 e2 => ?_⟩
        rw [ha] at e1; rw [hb] at e2
        have g1 := binI_sound (P := P) (ρ := ρ) (dst := dst) (type := type) (pos := pos) (after := after) (guard := guard) (op := .eql) (t := t) (ty := ty) (x := ox) (y := oy) (v := .bool true) (by rw [e1, e2]; simp only [binI, hu])
        have g2 := binI_sound (P := P) (ρ := ρ) (dst := dst) (type := type) (pos := pos) (after := after) (guard := guard) (op := .neq) (t := t) (ty := ty) (x := ox) (y := oy) (v := .bool false) (by rw [e1, e2]; simp only [binI, hu])
        unfold binV
        rw [show strEq .eql (ρ ox) (ρ oy) = none by rw [e1, e2]; rfl, show strEq .neq (ρ ox) (ρ oy) = none by rw [e1, e2]; rfl]
        dsimp only
        rw [if_pos (by rw [e1, e2]; rfl), if_pos (by rw [e1, e2]; rfl), g1, g2]
        exact ⟨rfl, rfl⟩
      | some A =>
        refine ⟨false, fun _ => rfl, fun ox oy ty e1 e2 => ?_⟩
        rcases hab with ⟨ha, hb⟩ | ⟨ha, hb⟩
        · rw [ha] at e1; rw [hb] at e2
          unfold binV
          rw [show strEq .eql (ρ ox) (ρ oy) = none by rw [e1, e2]; rfl, show strEq .neq (ρ ox) (ρ oy) = none by rw [e1, e2]; rfl]
          dsimp only
          rw [if_neg (by rw [e1, e2]; simp), if_neg (by rw [e1, e2]; simp), e1, e2]
          simp only [aEq, hu]
          exact ⟨rfl, rfl⟩
        · rw [ha] at e1; rw [hb] at e2
          unfold binV
          rw [show strEq .eql (ρ ox) (ρ oy) = none by rw [e1, e2]; rfl, show strEq .neq (ρ ox) (ρ oy) = none by rw [e1, e2]; rfl]
          dsimp only
          rw [if_neg (by rw [e1, e2]; simp), if_neg (by rw [e1, e2]; simp), e1, e2]
          simp only [aEq, hu]
          exact ⟨rfl, rfl⟩
    have own : ∀ {g w : Nat} {rows : List (List V)} {a : Value}, rowsAt H g w = some rows → VR K (.own g w) φ a → ∃ A c, a = .slice A rows.length c ∧ (A = none → c = 0 ∧ rows.length = 0) := fun {g w rows a} hr hx => by
      obtain ⟨r, val, w', s, g1, g2, g3, g4, _⟩ := hx
      obtain ⟨e, A, c, e1, e2, e3, _, e4⟩ := rowsAt_sound hR hr g1 g2
      rw [g4 e]
      refine ⟨A, c, e1, fun hn => ⟨e2 hn, ?_⟩⟩
      rcases e4 with ⟨e4, _⟩ | ⟨b, o, vals, e4, _⟩
      · exact e4
      · rw [hn] at e4; cases e4
    have fsl : ∀ {k : Bool} {s : Nat} {rows : List (List V)} {a : Value}, VR K (.fsl k s rows) φ a → ∃ A c, a = .slice A rows.length c ∧ (A = none → c = 0 ∧ rows.length = 0) := fun {k s rows a} hx => by
      obtain ⟨A, c, e1, e2, _, e3, _, e4⟩ := hx
      refine ⟨A, c, e1, fun hn => ⟨e2 hn, ?_⟩⟩
      rcases e4 with ⟨e4, _⟩ | ⟨b, o, vals, e4, _⟩
      · exact e4
      · rw [hn] at e4; cases e4
    split at h
    · cases h
      obtain ⟨A, c, e1, e2⟩ := fsl hx
      exact fin A c e2 (.inl ⟨e1, hy.1⟩)
    · cases h
      obtain ⟨A, c, e1, e2⟩ := fsl hy
      exact fin A c e2 (.inr ⟨hx.1, e1⟩)
    · rename_i g w
      cases hr : rowsAt H g w with
      | none => rw [hr] at h; cases h
      | some rows =>
        rw [hr] at h; cases h
        obtain ⟨A, c, e1, e2⟩ := own hr hx
        exact fin A c e2 (.inl ⟨e1, hy.1⟩)
    · rename_i g w
      cases hr : rowsAt H g w with
      | none => rw [hr] at h; cases h
      | some rows =>
        rw [hr] at h; cases h
        obtain ⟨A, c, e1, e2⟩ := own hr hy
        exact fin A c e2 (.inr ⟨hx.1, e1⟩)
    · cases h
  · cases h
theorem vBin_sound (hR : Rel K φ H σ) {op : BinOp} {t ty : TypeId} {ox oy : Operand} (h : vBin P op t x y = some v) (hx : VR K x φ (ρ ox)) (hy : VR K y φ (ρ oy)) : Snd K φ v H (binV P op t ox oy ty ρ ⟨dst, .binOp op t ox oy ty, type, pos, after, guard⟩ σ) := by
  unfold vBin at h
  split at h
  · rename_i a b ha hb
    have ea := toVal_sound ha hx
    have eb := toVal_sound hb hy
    split at h
    · rename_i r hr
      cases h
      unfold binV
      rw [ea, eb, hr]
      exact .same hR ⟨rfl, rfl⟩
    · rename_i hr
      split at h
      · rename_i y hbi
        have hs := binI_sound (P := P) (ρ := ρ) (dst := dst) (type := type) (pos := pos) (after := after) (guard := guard) (ty := ty) (x := ox) (y := oy) (by rw [ea, eb]; exact hbi)
        unfold binV
        rw [show strEq op (ρ ox) (ρ oy) = none by rw [ea, eb]; exact hr]
        have hflat : (flatB (ρ ox) && flatB (ρ oy)) = true := by
          unfold aPure at hs
          split at hs
          · rename_i hc
            simpa [Op.operands] using hc
          · cases hs
        dsimp only
        rw [if_pos hflat, hs]
        exact .same hR (mkLit_sound h)
      · unfold nilI at h
        split at h
        · rename_i hu _
          cases h
          have hs := (aPure_nil (ρ := ρ) (dst := dst) (type := type) (pos := pos) (after := after) (guard := guard) (ty := ty) hu ea eb).1
          unfold binV
          rw [show strEq .eql (ρ ox) (ρ oy) = none by rw [ea, eb]; exact hr]
          dsimp only
          rw [if_pos (by rw [ea, eb]; rfl), hs]
          exact .same hR ⟨rfl, rfl⟩
        · rename_i hu _
          cases h
          have hs := (aPure_nil (ρ := ρ) (dst := dst) (type := type) (pos := pos) (after := after) (guard := guard) (ty := ty) hu ea eb).2
          unfold binV
          rw [show strEq .neq (ρ ox) (ρ oy) = none by rw [ea, eb]; exact hr]
          dsimp only
          rw [if_pos (by rw [ea, eb]; rfl), hs]
          exact .same hR ⟨rfl, rfl⟩
        · cases h
  · split at h
    · cases hq : vEq P t x y with
      | none => rw [hq] at h; cases h
      | some r =>
        rw [hq] at h; cases h
        obtain ⟨h1, h2, h3⟩ := vEq_sound hq hx hy
        unfold binV
        rw [h3, h2, h1]
        exact .same hR ⟨rfl, rfl⟩
    · cases hq : vEq P t x y with
      | none => rw [hq] at h; cases h
      | some r =>
        rw [hq] at h; cases h
        obtain ⟨h1, h2, h3⟩ := vEq_sound hq hx hy
        unfold binV
        rw [h3, h2, h1]
        exact .same hR ⟨rfl, rfl⟩
    · cases h
end
end Go.Proofs.Ytenbclcfhjdcaaa.VM
