/- The machine of values: a law's arguments as they lie in the world's memory. -/
import Derived.Test.YtenbclcfhjdcaaaVMn
namespace Go.Proofs.Ytenbclcfhjdcaaa.VM
open Go Go.RowKit AM
section
variable {P : Program} {prim : CallF} {w : World} {v : Value} {x : V}
open Classical in
/-- A cell as the abstract machine may read it; an empty slice of unknown place. -/
noncomputable def cl (h : Array Obj) (v : Value) : Value := match v with
  | .slice (some _) 0 _ => .slice (some ⟨h.size, 0, none⟩) 0 AM.dng
  | v => if Val (idMu h) v v then v else .chan (some 0)
theorem cl_val (h : Array Obj) (v : Value) : Val (idMu h) (cl h v) v := by
  unfold cl
  split
  · exact .sld (Nat.le_refl _)
  · split
    · assumption
    · exact .junk 0 _
theorem cl_same {h : Array Obj} {v : Value} (hv : Val (idMu h) v v) (hne : ∀ a c, v ≠ .slice (some a) 0 c) : cl h v = v := by
  unfold cl
  split
  · exact absurd rfl (hne _ _)
  · rw [if_pos hv]
/-- The memory of a world, all of it to be read alone, and an empty block behind. -/
noncomputable def heapC (h : Array Obj) : Heap := (h.toList.map fun o => match o with
  | .cells c _ _ => ⟨c.toList.map (cl h), .ro⟩
  | _ => ⟨[], .dead⟩) ++ [⟨[], .ro⟩]
theorem heapC_len (h : Array Obj) : (heapC h).length = h.size + 1 := by simp [heapC]
theorem heapC_get {h : Array Obj} {l : Nat} (hl : l < h.size) : (heapC h)[l]? = (h[l]?).map fun o => match o with
    | .cells c _ _ => ⟨c.toList.map (cl h), .ro⟩
    | _ => ⟨[], .dead⟩ := by
  unfold heapC
  rw [List.getElem?_append_left (by simpa using hl)]
  simp
theorem heapC_end (h : Array Obj) : (heapC h)[h.size]? = some ⟨[], .ro⟩ := by
  unfold heapC
  rw [List.getElem?_append_right (by simp)]
  simp
theorem heapC_full {h : Array Obj} {l : Nat} : ¬ isFull (heapC h) l := by
  rintro ⟨x, hx, hp⟩
  by_cases hl : l < h.size
  · rw [heapC_get hl] at hx
    cases ho : h[l]? with
    | none => rw [ho] at hx; cases hx
    | some o =>
      rw [ho] at hx
      cases o <;> (cases hx; cases hp)
  · have := get_lt hx
    rw [heapC_len] at this
    have e : l = h.size := by omega
    subst e
    rw [heapC_end] at hx
    cases hx; cases hp
theorem sim_startC (h : Array Obj) : Sim (idMu h) (heapC h) h := by
  refine ⟨fun l b N hm => ?_, fun l1 l2 b N1 N2 _ _ _ hf _ => heapC_full hf, fun l b N x hm hx hd => ?_⟩
  · unfold idMu at hm
    split at hm
    · rename_i c e fr ho
      cases hm
      exact (Array.getElem?_eq_some_iff.1 ho).1
    · cases hm
  · unfold idMu at hm
    split at hm
    · rename_i c e fr ho
      cases hm
      have hl : l < h.size := (Array.getElem?_eq_some_iff.1 ho).1
      rw [heapC_get hl, ho] at hx
      cases hx
      refine ⟨c, e, fr, ho, rfl, fun hp => (by cases hp), fun j v hj => ?_⟩
      simp only [List.getElem?_map, Option.map_eq_some_iff] at hj
      obtain ⟨u, hu, rfl⟩ := hj
      exact ⟨u, by simpa using hu, cl_val h u⟩
    · cases hm
theorem startC (hm : P.follows .mixedOrders = true) (hprim : CallOk P prim) {n : Nat} {f : FuncId} {args args' : Array Value} {σ' : Heap} (ha : ValL (idMu w.heap) args'.toList args.toList) (h : acall P prim n f args' (heapC w.heap) = some (v, σ')) (hv : scalarB v = true) :
    Calls P f args w fun e w' => e = .returned v ∧ Below w.heap.size w w' := by
  obtain ⟨_, hle, hc⟩ := acall_sound hm hprim n _ _ _ _ _ h
  refine Calls.mono (hc args (idMu w.heap) w ha (sim_startC _) (fun l h1 _ => ?_)) fun e w' ⟨v', μ', he, k1, k2, k3⟩ => ?_
  · rw [heapC_len] at h1
    unfold idMu
    rw [Array.getElem?_eq_none (by omega)]
  · subst he
    rw [scalar_val hv k1]
    exact ⟨rfl, k3.os, k3.tape, k3.output, k3.size, fun b hb => k3.keep b hb fun l N _ hf => heapC_full hf⟩
def KOf (w : World) (K : Kn) : Prop := ∀ b x, (heapC w.heap)[b]? = some x → x.perm ≠ .dead → K b = some x.cells
/-- A cell of the world's memory reads as a value. -/
def CellV (w : World) (x : V) (u : Value) : Prop := ∀ K, KOf w K → VR K x [] (cl w.heap u)
def CellsV (w : World) : List V → List Value → Prop
  | [], us => us = []
  | x :: xs, us => ∃ u us', us = u :: us' ∧ CellV w x u ∧ CellsV w xs us'
theorem CellsV.vrs {K : Kn} (hK : KOf w K) : ∀ {xs : List V} {us : List Value}, CellsV w xs us → VRs K xs [] (us.map (cl w.heap))
  | [], _, h => by simp only [CellsV] at h; subst h; rfl
  | x :: xs, _, ⟨u, us, h1, h2, h3⟩ => by subst h1; exact ⟨_, _, rfl, h2 K hK, h3.vrs hK⟩
theorem CellsV.len : ∀ {xs : List V} {us : List Value}, CellsV w xs us → us.length = xs.length
  | [], _, h => by simp only [CellsV] at h; subst h; rfl
  | x :: xs, _, ⟨u, us, h1, h2, h3⟩ => by subst h1; simp [h3.len]
theorem CellV.lit {u : Value} (h : scalarB u = true) : CellV w (.lit u) u := fun K _ => by rw [cl_same (.scal h) (fun a c e => by subst e; simp [scalarB] at h)]; exact ⟨rfl, h⟩
/-- Rows of cells. -/
def RowsV (w : World) (s : Nat) : List (List V) → List Value → Prop
  | [], us => us = []
  | r :: rs, us => ∃ a as, us = a ++ as ∧ r.length = s ∧ CellsV w r a ∧ RowsV w s rs as
theorem RowsV.rows {K : Kn} (hK : KOf w K) {s : Nat} : ∀ {rs : List (List V)} {us : List Value}, RowsV w s rs us → RowsR K s rs [] (us.map (cl w.heap))
  | [], _, h => by simp only [RowsV] at h; subst h; rfl
  | r :: rs, _, ⟨a, as, h1, h2, h3, h4⟩ => by subst h1; exact ⟨_, _, by rw [List.map_append], h2, h3.vrs hK, h4.rows hK⟩
theorem RowsV.len {s : Nat} : ∀ {rs : List (List V)} {us : List Value}, RowsV w s rs us → us.length = rs.length * s
  | [], _, h => by simp only [RowsV] at h; subst h; simp
  | r :: rs, _, ⟨a, as, h1, h2, h3, h4⟩ => by subst h1; rw [List.length_append, h3.len, h2, h4.len, List.length_cons, Nat.add_mul]; omega
/-- A slice. -/
theorem CellV.slice {A : Option Addr} {n c s : Nat} {rows : List (List V)} {us : List Value} (hs : 0 < s) (hs1 : s ≤ 1048576) (h0 : A = none → n = 0 ∧ c = 0) (hnc : n ≤ c) (hc : c ≤ maxLen) (hn : rows.length = n) (hr : RowsV w s rows us)
    (hm : 0 < n → ∃ g o, A = some ⟨g, o, none⟩ ∧ ∀ j u, us[j]? = some u → w.cell? ⟨g, o + j, none⟩ = some u) : ∃ k, CellV w (.fsl k s rows) (.slice A n c) := by
  have hct : c < top := by simp only [top, maxLen] at *; omega
  have hcd : c < AM.dng := by simp only [AM.dng, maxLen] at *; omega
  have hlen := hr.len
  by_cases hn0 : n = 0
  · have hr0 : rows = [] := List.eq_nil_of_length_eq_zero (by omega)
    subst hr0
    cases A with
    | none =>
      obtain ⟨e1, e2⟩ := h0 rfl
      subst e1; subst e2
      refine ⟨true, fun K hK => ?_⟩
      rw [cl_same (.scal rfl) (fun a c e => by cases e)]
      exact ⟨none, 0, rfl, fun _ => rfl, fun _ => hcd, by unfold capOK; rw [capOf_exact_eq (by decide)]; exact Nat.le_refl _, by omega, .inl ⟨rfl, rfl⟩⟩
    | some a =>
      subst hn0
      refine ⟨false, fun K hK => ?_⟩
      show VR K _ [] (.slice (some ⟨w.heap.size, 0, none⟩) 0 AM.dng)
      exact ⟨_, AM.dng, rfl, (fun e => by cases e), (fun h => by cases h), by unfold capOK; rw [capOf_dng]; rfl, by omega, .inr ⟨w.heap.size, 0, [], rfl, hK _ _ (heapC_end _) (by simp), by simp, by simp [RowsR]⟩⟩
  · obtain ⟨g, o, rfl, hcell⟩ := hm (by omega)
    have hpos : 0 < us.length := by rw [hlen, hn]; exact Nat.mul_pos (by omega) hs
    obtain ⟨C, e, fr, ho, hC⟩ : ∃ C e fr, w.heap[g]? = some (.cells C e fr) ∧ ∀ j u, us[j]? = some u → C[o + j]? = some u := by
      have h1 := hcell 0 us[0] (List.getElem?_eq_getElem hpos)
      unfold World.cell? at h1
      split at h1
      · rename_i C e fr ho
        refine ⟨C, e, fr, ho, fun j u hj => ?_⟩
        have h2 := hcell j u hj
        unfold World.cell? at h2
        simp only at ho
        rw [ho] at h2
        simpa using h2
      · cases h1
    have hl : g < w.heap.size := (Array.getElem?_eq_some_iff.1 ho).1
    have hv : Val (idMu w.heap) (.slice (some ⟨g, o, none⟩) n c) (.slice (some ⟨g, o, none⟩) n c) := .sl (N := C.size) (by unfold idMu; rw [ho]) hct
    refine ⟨true, fun K hK => ?_⟩
    rw [cl_same hv (fun a c e => by cases e; exact hn0 rfl)]
    have hk := hK g ⟨C.toList.map (cl w.heap), .ro⟩ (by rw [heapC_get hl, ho]; rfl) (by simp)
    have hfit : o + us.length ≤ C.size := by
      have := hC (us.length - 1) us[us.length - 1] (List.getElem?_eq_getElem (by omega))
      have := (Array.getElem?_eq_some_iff.1 this).1
      omega
    refine ⟨_, c, by rw [hn], (fun e => by cases e), (fun _ => hcd), by unfold capOK; rw [capOf_exact_eq hct, hn]; exact hnc, by omega, .inr ⟨g, o, _, rfl, hk, by simp only [List.length_map, Array.length_toList]; omega, ?_⟩⟩
    have heq : ((C.toList.map (cl w.heap)).drop o).take (rows.length * s) = us.map (cl w.heap) := by
      apply List.ext_getElem?
      intro j
      rw [List.getElem?_take, List.getElem?_drop, List.getElem?_map, List.getElem?_map]
      by_cases hj : j < us.length
      · rw [if_pos (by omega)]
        have := hC j us[j] (List.getElem?_eq_getElem hj)
        rw [List.getElem?_eq_getElem hj, Array.getElem?_toList, this]
      · rw [if_neg (by omega), List.getElem?_eq_none (by omega)]; rfl
    rw [heq]
    exact hr.rows hK
/-- Arguments. -/
def ArgV (w : World) (x : V) (u : Value) : Prop := ∃ a, Val (idMu w.heap) a u ∧ ∀ K, KOf w K → VR K x [] a
theorem CellV.arg {u : Value} (h : CellV w x u) : ArgV w x u := ⟨cl w.heap u, cl_val _ _, h⟩
theorem CellsV.arg {xs : List V} {us : Array Value} (h : CellsV w xs us.toList) : ArgV w (.agg xs) (.agg us) := by
  refine ⟨.agg (us.map (cl w.heap)), .agg (by simp) fun i v v' h1 h2 => ?_, fun K hK => ⟨_, rfl, by rw [Array.toList_map]; exact h.vrs hK⟩⟩
  rw [Array.getElem?_map] at h1
  rw [h2] at h1
  cases h1
  exact cl_val _ _
def ArgsV (w : World) : List V → List Value → Prop
  | [], us => us = []
  | x :: xs, us => ∃ u us', us = u :: us' ∧ ArgV w x u ∧ ArgsV w xs us'
theorem ArgsV.get : ∀ {xs : List V} {us : List Value}, ArgsV w xs us → ∃ as : List Value, ValL (idMu w.heap) as us ∧ ∀ K, KOf w K → VRs K xs [] as
  | [], _, h => by simp only [ArgsV] at h; subst h; exact ⟨[], .nil, fun K _ => rfl⟩
  | x :: xs, _, ⟨u, us, h1, ⟨a, h2, h3⟩, h4⟩ => by
    subst h1
    obtain ⟨as, h5, h6⟩ := h4.get
    refine ⟨a :: as, ⟨by simp [h5.1], fun i v v' e1 e2 => ?_⟩, fun K hK => ⟨a, as, rfl, h3 K hK, h6 K hK⟩⟩
    cases i with
    | zero => simp at e1 e2; subst e1; subst e2; exact h2
    | succ i => exact h5.2 i v v' (by simpa using e1) (by simpa using e2)
/-- A law that is walked holds. -/
theorem Ans.law (hm : P.follows .mixedOrders = true) (hprim : CallOk P prim) {f : FuncId} {xs : List V} {us : Array Value} (h : Ans P prim f xs (.lit (.bool true))) (ha : ArgsV w xs us.toList) : Calls P f us w fun e w' => e = .returned (.bool true) ∧ Below w.heap.size w w' := by
  obtain ⟨as, h1, h2⟩ := ha.get
  obtain ⟨n, σ', h3⟩ := VC.start (as := as.toArray) (σ := heapC w.heap) (h []) (fun K hK => by simpa using h2 K hK) (fun v H' ⟨e, _⟩ => e)
  exact startC hm hprim (args' := as.toArray) (by simpa using h1) h3 rfl
end
end Go.Proofs.Ytenbclcfhjdcaaa.VM
