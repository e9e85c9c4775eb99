/- The machine of values: literals, conversions; all operations. -/
import Derived.Test.YtenbclcfhjdcaaaVMe
namespace Go.Proofs.Ytenbclcfhjdcaaa.VM
open Go AM
section
variable {P : Program} {K K' : Kn} {φ φ' : List Rz} {H H' : Hp} {σ σ' : Heap} {v x y : V} {a b : Value} {q : Bool} {ρ : Operand → V} {ρa : Operand → Value}
variable {dst : Option Tmp} {type : TypeId} {pos : String} {after : Array Edge} {guard : Option (Nat × Bool)}

mutual
/-- It names no object. -/
def pureV : V → Bool
  | .lit _ | .fsl _ _ _ | .fptr _ => true
  | .ptr _ _ | .own _ _ | .elt _ _ _ _ | .junk => false
  | .fn _ fi cp => pureVs fi && pureVs cp
  | .ifc _ v => pureV v
  | .agg cs | .tup cs => pureVs cs
def pureVs : List V → Bool
  | [] => true
  | v :: vs => pureV v && pureVs vs
end
mutual
theorem VR.pure : ∀ {v : V} {a : Value}, VR K v φ a → pureV v = true → VR K v [] a
  | .lit _, _, h, _ => h
  | .fsl _ _ _, _, h, _ => h
  | .fptr _, _, h, _ => h
  | .ptr _ _, _, _, hp => by cases hp
  | .own _ _, _, _, hp => by cases hp
  | .elt _ _ _ _, _, _, hp => by cases hp
  | .junk, _, _, hp => by cases hp
  | .fn f fi cp, a, ⟨fa, ca, h1, h2, h3⟩, hp => by
    simp only [pureV, Bool.and_eq_true] at hp
    exact ⟨fa, ca, h1, VRs.pure h2 hp.1, VRs.pure h3 hp.2⟩
  | .ifc t v, a, ⟨x, h1, h2⟩, hp => ⟨x, h1, VR.pure h2 hp⟩
  | .agg cs, a, ⟨x, h1, h2⟩, hp => ⟨x, h1, VRs.pure h2 hp⟩
  | .tup cs, a, ⟨x, h1, h2⟩, hp => ⟨x, h1, VRs.pure h2 hp⟩
theorem VRs.pure : ∀ {v : List V} {a : List Value}, VRs K v φ a → pureVs v = true → VRs K v [] a
  | [], _, h, _ => h
  | v :: vs, _, ⟨a, as, h1, h2, h3⟩, hp => by
    simp only [pureVs, Bool.and_eq_true] at hp
    exact ⟨a, as, h1, VR.pure h2 hp.1, VRs.pure h3 hp.2⟩
end
theorem RowsR.pure {s : Nat} : ∀ {v : List (List V)} {a : List Value}, RowsR K s v φ a → (∀ r ∈ v, pureVs r = true) → RowsR K s v [] a
  | [], _, h, _ => h
  | v :: vs, _, ⟨a, as, h1, h2, h3, h4⟩, hp => ⟨a, as, h1, h2, h3.pure (hp v (by simp)), RowsR.pure h4 fun r hr => hp r (by simp [hr])⟩
/-- A new object of cells. -/
theorem newMem (hR : Rel K φ H σ) {cs : List V} {vals : List Value} (h : VRs K cs φ vals) (hc : cs.all V.isCell = true) : Snd K φ (.ptr H.length 0) (H ++ [.mem cs true]) ((newBlk σ vals).map fun (a, σ') => (.pointer (some a), σ')) := by
  unfold newBlk
  rw [if_pos (h.cells hc)]
  have hp : Post φ.length K φ K (φ ++ [.mem σ.length]) := ⟨fun _ _ h => h, fun k q hk hq => ⟨q, by rw [List.getElem?_append_left hk]; exact hq, .refl _⟩⟩
  obtain ⟨h5, h6⟩ := (hR.new vals .full).snoc (r := .mem σ.length) (y := .mem cs true) ⟨vals, .full, by simp, rfl, h.on hp⟩ (fun b hb => by cases hb; exact hR.not_used)
  exact ⟨_, _, K, _, rfl, h6, h5, σ.length, by rw [← hR.len]; simp, rfl⟩
/-- New rows of one's own. -/
theorem newVec (hR : Rel K φ H σ) {s c : Nat} {rows : List (List V)} {vals : List Value} (h : RowsR K s rows φ vals) (ho : RowsOk s rows) (hs : 0 < s) (hs1 : s ≤ 1048576) (hcap : (c = 0 ∧ rows.length = 0) ∨ CapV true c s rows.length (rows.length * s)) :
    Snd K φ (.own H.length 0) (H ++ [.vec 0 rows s true true]) ((newBlk σ vals).map fun (a, σ') => (.slice (some a) rows.length c, σ')) := by
  unfold newBlk
  rw [if_pos (h.cells ho)]
  have hvl := h.len
  rcases hcap with ⟨hc0, hr0⟩ | hcap
  · have hr : rows = [] := List.eq_nil_of_length_eq_zero hr0
    subst hr; subst hc0
    have hv : vals = [] := h
    subst hv
    obtain ⟨h3, h4⟩ := (hR.new [] .full).know (b := σ.length) (c := []) (p := .full) (by simp) (by simp) (fun g r hg hb => hR.not_used (.inr ⟨g, r, hg, hb⟩))
    obtain ⟨h5, h6⟩ := h3.snoc (r := .vec (.slice (some ⟨σ.length, 0, none⟩) 0 0) 0 s) (y := .vec 0 [] s true true)
      ⟨rfl, rfl, hs, hs1, ho, .inl ⟨rfl, .inr ⟨σ.length, 0, [], rfl, by simp [Kn.add], by simp⟩⟩⟩ (fun b hb => by cases hb)
    exact ⟨_, _, _, _, rfl, h4.trans h6 (Nat.le_refl _), h5, .vec (.slice (some ⟨σ.length, 0, none⟩) 0 0) 0 s, _, 0, s, by rw [← hR.len]; simp, rfl, Nat.le_refl _, fun _ => rfl, _, _, _, rfl⟩
  have hp : Post φ.length K φ K (φ ++ [.vec (.slice (some ⟨σ.length, 0, none⟩) rows.length c) 0 s]) := ⟨fun _ _ h => h, fun k q hk hq => ⟨q, by rw [List.getElem?_append_left hk]; exact hq, .refl _⟩⟩
  obtain ⟨h5, h6⟩ := (hR.new vals .full).snoc (r := .vec (.slice (some ⟨σ.length, 0, none⟩) rows.length c) 0 s) (y := .vec 0 rows s true true)
    ⟨rfl, rfl, hs, hs1, ho, .inr ⟨σ.length, c, vals, [], .full, rfl, by simpa [hvl] using hcap, by simp, rfl, h.on hp⟩⟩ (fun b hb => by rw [vec_blk rfl hcap] at hb; cases hb; exact hR.not_used)
  exact ⟨_, _, K, _, rfl, h6, h5, .vec (.slice (some ⟨σ.length, 0, none⟩) rows.length c) 0 s, _, 0, s, by rw [← hR.len]; simp, rfl, Nat.le_refl _, fun _ => rfl, _, _, _, rfl⟩
/-- Room just for what there is. -/
theorem capX {s n : Nat} (h : n ≤ 17179869184) : (n = 0 ∧ n = 0) ∨ CapV true n s n (n * s) := by
  by_cases h0 : n = 0
  · exact .inl ⟨h0, h0⟩
  · exact .inr ⟨h0, n, Nat.le_refl _, Nat.le_refl _, fun _ => rfl, .inl (capOf_exact_eq (by simp only [top]; omega))⟩
/-- New frozen rows. -/
theorem newFsl (hR : Rel K φ H σ) {s c : Nat} {rows : List (List V)} {vals : List Value} (h : RowsR K s rows φ vals) (ho : RowsOk s rows) (hpu : ∀ r ∈ rows, pureVs r = true) (hs1 : s < 4294967296) (hcd : c < AM.dng) (hcap : capOK c s rows.length) :
    Snd K φ (.fsl true s rows) H ((newBlk σ vals).map fun (a, σ') => (.slice (some a) rows.length c, σ')) := by
  unfold newBlk
  rw [if_pos (h.cells ho)]
  obtain ⟨h5, h6⟩ := (hR.new vals .full).know (b := σ.length) (c := vals) (p := .full) (by simp) (by simp) (fun g r hg hb => hR.not_used (.inr ⟨g, r, hg, hb⟩))
  refine ⟨_, _, K.add σ.length vals, φ, rfl, h6, h5, _, c, rfl, (fun e => by cases e), (fun _ => hcd), hcap, hs1, .inr ⟨σ.length, 0, vals, rfl, by simp [Kn.add], ?_, ?_⟩⟩
  · rw [h.len]; omega
  · rw [List.drop_zero, ← h.len, List.take_length]
    exact (h.pure hpu).monoN (n := 0) ⟨h6.kn, fun g r hg => by omega⟩
def litCells (l : List Value) : Option (List V) := if l.all (fun x => scalarB x && cellB x) = true then some (l.map .lit) else none
theorem litCells_sound {l : List Value} {cs : List V} (h : litCells l = some cs) : VRs K cs φ l ∧ cs.all V.isCell = true := by
  unfold litCells at h
  split at h
  · rename_i hc
    cases h
    rw [List.all_eq_true] at hc
    refine ⟨VRs.lits fun x hx => by have := hc x hx; simp only [Bool.and_eq_true] at this; exact this.1, ?_⟩
    rw [List.all_map, List.all_eq_true]
    intro x hx
    have := hc x hx; simp only [Bool.and_eq_true] at this; exact this.2
  · cases h
def partVV (P : Program) (t : TypeId) (cs : List V) (off : Nat) : Option V := match aggOf P t, szOf P t with
  | some true, some n => some (.agg ((cs.drop off).take n))
  | some false, _ => cs[off]?
  | _, _ => none
theorem partVV_sound {t : TypeId} {cs : List V} {xs : Array Value} {off : Nat} (h : partVV P t cs off = some v) (hr : VRs K cs φ xs.toList) : ∃ y, partV P t xs off = some y ∧ VR K v φ y := by
  unfold partVV at h
  unfold partV
  split at h
  · rename_i n h1 h2
    cases h
    rw [h1, h2]
    refine ⟨_, rfl, _, rfl, ?_⟩
    have := (hr.drop off).take n
    rw [Array.toList_extract]
    simp only [List.extract_eq_take_drop]
    rw [Nat.add_sub_cancel_left]
    exact this
  · rename_i h1
    rw [h1]
    obtain ⟨y, e1, e2⟩ := hr.get h
    exact ⟨y, by simpa using e1, e2⟩
  · cases h
def vFieldAddr (P : Program) (t : TypeId) (x : V) (f : Nat) : Option V := match fieldOf P t f with
  | some (off, ft) => match szOf P ft with
    | some (_ + 1) => match x with
      | .ptr g o => some (.ptr g (o + off))
      | .fptr cs => if off ≤ cs.length then some (.fptr (cs.drop off)) else none
      | .elt g w k o => some (.elt g w k (o + off))
      | _ => none
    | _ => none
  | none => none
theorem vFieldAddr_sound {t : TypeId} {f : Nat} (h : vFieldAddr P t x f = some v) (hr : VR K x φ a) : ∃ off ft n ad, fieldOf P t f = some (off, ft) ∧ szOf P ft = some (n + 1) ∧ a = .pointer (some ad) ∧ VR K v φ (.pointer (some (ad.add off))) := by
  unfold vFieldAddr at h
  split at h
  · rename_i off ft h1
    split at h
    · rename_i n h2
      refine ⟨off, ft, n, ?_⟩
      split at h
      · cases h
        obtain ⟨b, e1, rfl⟩ := hr
        exact ⟨_, h1, h2, rfl, b, e1, by rw [Addr.add_lit]⟩
      · rename_i cs
        split at h
        · cases h
          obtain ⟨b, o, cells, rfl, e2, e3, e4⟩ := hr
          refine ⟨_, h1, h2, rfl, b, o + off, cells, by rw [Addr.add_lit], e2, by rw [List.length_drop]; omega, ?_⟩
          have := e4.drop off
          rw [List.drop_take, List.drop_drop] at this
          rw [List.length_drop]; exact this
        · cases h
      · cases h
        obtain ⟨r, val, w', s, e1, e2, e3, e4, ad, rfl⟩ := hr
        refine ⟨ad, h1, h2, rfl, r, val, w', s, e1, e2, e3, fun e => ?_, _, rfl⟩
        obtain ⟨b, oo, n, c, f1, f2⟩ := e4 e
        cases f2
        exact ⟨b, oo, n, c, f1, by rw [Addr.add_lit, Nat.add_assoc]⟩
      · cases h
    · cases h
  · cases h
/-- A literal's cells. -/
def fillV (place : Nat → Option (Nat × Nat)) (cells : List V) : List (Nat × V) → Option (List V)
  | [] => some cells
  | (i, v) :: rest => match place i with
    | none => none
    | some (off, size) => if v.cells.length = size ∧ off + size ≤ cells.length ∧ v.cells.all V.isCell = true then fillV place (spl cells off v.cells) rest else none
theorem foldl_set (off : Nat) : ∀ (l : List Value) (k : Nat) (cs : Array Value), off + k + l.length ≤ cs.size → ((l.zipIdx k).foldl (fun cs (c, j) => cs.setIfInBounds (off + j) c) cs).toList = AM.splice cs.toList (off + k) l
  | [], k, cs, _ => by simp [AM.splice]
  | c :: l, k, cs, h => by
    simp only [List.length_cons] at h
    rw [List.zipIdx_cons, List.foldl_cons, foldl_set off l (k + 1) _ (by simp; omega)]
    unfold AM.splice
    have h1 : off + k < cs.toList.length := by simp; omega
    apply List.ext_getElem?
    intro i
    simp only [Array.toList_setIfInBounds, List.getElem?_append, List.length_append, List.length_take, List.length_set, List.getElem?_take, List.getElem?_set, List.getElem?_drop, List.length_cons]
    have h2 : min (off + (k + 1)) cs.toList.length = off + k + 1 := by omega
    have h3 : min (off + k) cs.toList.length = off + k := by omega
    simp only [h2, h3]
    rcases Nat.lt_trichotomy i (off + k) with hi | hi | hi
    · simp [show i < off + k + 1 by omega, hi, show off + k ≠ i by omega, show i < off + k + 1 + l.length by omega, show i < off + (k + 1) by omega, show i < off + k + (l.length + 1) by omega]
    · subst hi
      have h5 : off + k - min (off + k) cs.toList.length = 0 := by omega
      have h6 : off + k < cs.size := by simpa using h1
      simp [show off + k < off + (k + 1) by omega, h6]
      intro h; omega
    · have e1 : i - (off + k) = (i - (off + k + 1)) + 1 := by omega
      simp only [show ¬ i < off + k + 1 by omega, show ¬ i < off + k by omega, if_false, e1, List.getElem?_cons_succ]
      by_cases h4 : i < off + k + 1 + l.length
      · rw [if_pos (by omega), if_pos (by omega)]
      · rw [if_neg (by omega), if_neg (by omega), if_neg (by omega)]
        congr 1; omega
def PsR (K : Kn) (φ : List Rz) : List (Nat × V) → List (Nat × Value) → Prop
  | [], l => l = []
  | (i, v) :: ps, l => ∃ a as, l = (i, a) :: as ∧ VR K v φ a ∧ PsR K φ ps as
theorem fillV_sound {place : Nat → Option (Nat × Nat)} : ∀ {ps : List (Nat × V)} {cells : List V} {r : List V} {psA : List (Nat × Value)} {xs : Array Value}, fillV place cells ps = some r → VRs K cells φ xs.toList →
    PsR K φ ps psA → ∃ ys, Instr.fill place xs psA = some ys ∧ VRs K r φ ys.toList
  | [], cells, r, _, xs, h, hx, hp => by cases h; simp only [PsR] at hp; subst hp; exact ⟨xs, rfl, hx⟩
  | (i, v) :: ps, cells, r, _, xs, h, hx, ⟨a, psA, h1, h2, h3⟩ => by
    subst h1
    unfold fillV at h
    unfold Instr.fill
    split at h
    · cases h
    · rename_i off size hpl
      rw [hpl]
      split at h
      · rename_i hc
        obtain ⟨c1, c2, c3⟩ := hc
        obtain ⟨hv, _⟩ := h2.cells c3
        have hl := hv.len
        have hxl := hx.len
        simp only [Array.length_toList] at hl hxl
        dsimp only
        generalize a.cells = A at hv hl ⊢
        have hcond : ¬ ((A.size ≠ size || off + A.size > xs.size) = true) := by
          have e1 : A.size = size := by omega
          have e2 : ¬ (off + size > xs.size) := by omega
          simp [e1]; omega
        rw [if_neg hcond]
        refine fillV_sound h ?_ h3
        have := foldl_set off A.toList 0 xs (by simp; omega)
        rw [← Array.foldl_toList, Array.toList_zipIdx, this, Nat.add_zero]
        exact hx.splice hv
      · cases h
def vBuild (P : Program) (t : TypeId) (parts : List (Nat × V)) : Option V := match zeroOf P t, placesOf P t with
  | some (.agg zs), some pl => if flatB (.agg zs) = true then (fillV (fun x => pl.toArray[x]?) (zs.toList.map .lit) parts).map .agg else none
  | _, _ => none
theorem junk_of (h : VR K v φ a) (hc : v.cells.all V.isCell = true) : junkB a = false := by
  cases v with
  | agg cs => obtain ⟨xs, rfl, _⟩ := h; rfl
  | _ =>
    have := (h.cell (by simpa [V.cells] using hc)).1
    simp only [cellB, Bool.and_eq_true, Bool.not_eq_true'] at this
    exact this.2
theorem fillV_cells {place : Nat → Option (Nat × Nat)} : ∀ {ps : List (Nat × V)} {cells r : List V}, fillV place cells ps = some r → ∀ p ∈ ps, p.2.cells.all V.isCell = true
  | [], _, _, _, p, hp => by simp at hp
  | (i, v) :: ps, cells, r, h, p, hp => by
    unfold fillV at h
    split at h
    · cases h
    · split at h
      · rename_i hc
        rcases List.mem_cons.1 hp with rfl | hp
        · exact hc.2.2
        · exact fillV_cells h p hp
      · cases h
theorem forall2_junk : ∀ {ps : List (Nat × V)} {psA : List (Nat × Value)}, PsR K φ ps psA → (∀ p ∈ ps, p.2.cells.all V.isCell = true) → ∀ p ∈ psA, (!junkB p.2) = true
  | [], _, h, _, p, hp => by simp only [PsR] at h; subst h; simp at hp
  | (i, v) :: ps, _, ⟨a, psA, h1, h2, h3⟩, hc, p, hp => by
    subst h1
    rcases List.mem_cons.1 hp with rfl | hp
    · rw [junk_of h2 (hc (i, v) (by simp))]; rfl
    · exact forall2_junk h3 (fun p hp => hc p (by simp [hp])) p hp
theorem vBuild_sound {t : TypeId} {ps : List (Nat × V)} {psA : Array (Nat × Value)} (h : vBuild P t ps = some v) (hps : PsR K φ ps psA.toList) : ∃ y, buildV P t psA = some y ∧ VR K v φ y := by
  unfold vBuild at h
  split at h
  · rename_i zs pl h1 h2
    split at h
    · rename_i hf
      cases hfi : fillV (fun x => pl.toArray[x]?) (zs.toList.map .lit) ps with
      | none => rw [hfi] at h; cases h
      | some r =>
        rw [hfi] at h; cases h
        have hz : VRs K (zs.toList.map .lit) φ zs.toList := VRs.lits (List.all_eq_true.1 (by rw [Array.all_toList]; exact hf))
        obtain ⟨ys, e1, e2⟩ := fillV_sound hfi hz hps
        rw [buildV_struct h1 hf h2]
        have hj : (psA.all fun (_, x) => !junkB x) = true := by
          rw [← Array.all_toList, List.all_eq_true]
          exact forall2_junk hps (fillV_cells hfi)
        rw [if_pos hj, e1]
        exact ⟨_, rfl, ys, rfl, e2⟩
    · cases h
  · cases h
end
end Go.Proofs.Ytenbclcfhjdcaaa.VM
