/- Operations of the abstract machine, and of the model: moves, fields, elements, blocks, loads, stores. -/
import Derived.Test.YtenbclcfhjdcaaaAMc
namespace Go.Proofs.Ytenbclcfhjdcaaa.AM
open Go
section
variable {P : Program} {q : Bool} {o : Oper} {ρ ρ' : Operand → Value} {μ : Mu} {σ σ' : Heap} {w w' : World} {v v' : Value}

theorem Val.bool {t : Bool} (h : Val μ (.bool t) v') : v' = .bool t := scalar_val rfl h
theorem Val.int {k : IntKind} {n : Int} (h : Val μ (.int k n) v') : v' = .int k n := scalar_val rfl h
theorem Val.str {s : ByteArray} (h : Val μ (.string s) v') : v' = .string s := scalar_val rfl h
theorem Val.ptr_inv {a : Addr} (h : Val μ (.pointer (some a)) v') : ∃ b N, a.spot = none ∧ μ a.block = some (b, N) ∧ v' = .pointer (some ⟨b, a.off, none⟩) := by
  cases h with
  | scal h => simp [scalarB] at h
  | ptr h => exact ⟨_, _, rfl, h, rfl⟩
theorem Val.tup_inv {a : Array Value} (h : Val μ (.tuple a) v') : ∃ a', v' = .tuple a' ∧ a'.size = a.size ∧ ∀ (i : Nat) (v v' : Value), a[i]? = some v → a'[i]? = some v' → Val μ v v' := by
  cases h with
  | scal h => simp [scalarB] at h
  | tup h1 h2 => exact ⟨_, rfl, h1, h2⟩
theorem Val.agg_inv {a : Array Value} (h : Val μ (.agg a) v') : ∃ a', v' = .agg a' ∧ a'.size = a.size ∧ ∀ (i : Nat) (v v' : Value), a[i]? = some v → a'[i]? = some v' → Val μ v v' := by
  cases h with
  | scal h => simp [scalarB] at h
  | agg h1 h2 => exact ⟨_, rfl, h1, h2⟩
theorem Val.func_inv {f : FuncId} {a b : Array Value} (h : Val μ (.func (.func f) a b) v') : ∃ a' b', v' = .func (.func f) a' b' ∧ ValL μ a.toList a'.toList ∧ ValL μ b.toList b'.toList := by
  cases h with
  | scal h => simp [scalarB] at h
  | func h1 h2 h3 h4 => exact ⟨_, _, rfl, .ofA h1 h3, .ofA h2 h4⟩
theorem get_val {a a' : Array Value} (hs : a'.size = a.size) (h : ∀ (i : Nat) (v v' : Value), a[i]? = some v → a'[i]? = some v' → Val μ v v') {i : Nat} {v : Value} (hi : a[i]? = some v) : ∃ v', a'[i]? = some v' ∧ Val μ v v' := by
  obtain ⟨h1, _⟩ := Array.getElem?_eq_some_iff.1 hi
  have : i < a'.size := by omega
  exact ⟨_, Array.getElem?_eq_getElem this, h i _ _ hi (Array.getElem?_eq_getElem this)⟩
theorem Val.oneCell (hv : Val μ v v') (hc : cellB v = true) : v'.oneCell' = true := by
  cases hv <;> first | rfl | (simp [cellB, junkB, Value.oneCell'] at hc; done) | skip
  rename_i h; simp [cellB] at hc; exact hc.1
theorem Val.cells (hv : Val μ v v') (hc : v.cells.toList.all cellB = true) : ValL μ v.cells.toList v'.cells.toList := by
  cases hv with
  | agg h1 h2 => exact .ofA h1 h2
  | scal h => cases v <;> first | exact ValL.one (.scal h) | (simp [scalarB] at h; done)
  | junk r v => simp [Value.cells, cellB, junkB] at hc
  | tup h1 h2 => simp [Value.cells, cellB, Value.oneCell'] at hc
  | ptr h => exact .one (.ptr h)
  | sl h1 h2 => exact .one (.sl h1 h2)
  | slu h1 h2 h3 h4 h5 h6 h7 => exact .one (.slu h1 h2 h3 h4 h5 h6 h7)
  | sld h => exact .one (.sld h)
  | func h1 h2 h3 h4 => exact .one (.func h1 h2 h3 h4)
  | iface h => exact .one (.iface h)
theorem ValL.oneCell {vs vs' : List Value} (h : ValL μ vs vs') (hc : vs.all cellB = true) : ∀ u ∈ vs', u.oneCell' = true := by
  intro u hu
  obtain ⟨i, hi, rfl⟩ := List.getElem_of_mem hu
  obtain ⟨x, hx, hv⟩ := h.get' (List.getElem?_eq_getElem hi)
  refine hv.oneCell ?_
  rw [List.all_eq_true] at hc
  exact hc x (List.mem_of_getElem? hx)
theorem flat_cells {z : Value} (h : flatB z = true) {j : Nat} {v : Value} (hj : z.cells[j]? = some v) : Val μ v v := by
  cases z with
  | agg a =>
    obtain ⟨hi, rfl⟩ := Array.getElem?_eq_some_iff.1 hj
    have h : a.all scalarB = true := h
    rw [Array.all_eq_true] at h
    exact .scal (h j hi)
  | _ =>
    simp only [Value.cells] at hj
    cases j with
    | zero => simp at hj; subst hj; exact val_flat h
    | succ j => simp at hj
theorem zerosOf_val {t : TypeId} {n : Nat} {zs : List Value} (h : zerosOf P t n = some zs) : ∃ i z, P.info? t = some i ∧ i.zero = some z ∧ flatB z = true ∧ z.cells.size = i.size ∧ zs = (List.replicate n z.cells.toList).flatten := by
  unfold zerosOf zeroOf szOf at h
  cases hi : P.info? t with
  | none => simp [hi] at h
  | some i =>
    cases hz : i.zero with
    | none => simp [hi, hz] at h
    | some z =>
      simp [hi, hz] at h
      exact ⟨i, z, rfl, hz, h.1.1, h.1.2, h.2.symm⟩
theorem newBlk_spec {cs : List Value} {a : Addr} (h : newBlk σ cs = some (a, σ')) : a = ⟨σ.length, 0, none⟩ ∧ σ' = σ ++ [⟨cs, .full⟩] ∧ cs.all cellB = true := by
  unfold newBlk at h
  split at h
  · rename_i hc; cases h; exact ⟨rfl, rfl, hc⟩
  · cases h
theorem frOk0 (c : Array Value) : frOk c (0, 0) := .inl rfl

theorem aPure_sound (hS : Sim μ σ w.heap) (hρ : ∀ x ∈ o.op.operands, Val μ (ρ x) (ρ' x)) (hsel : ∀ cs b, o.op ≠ .select cs b) (h : aPure P ρ o = some v) : Out P q o ρ' μ σ w v σ := by
  unfold aPure at h
  split at h
  · rename_i hf
    have hc : execOp ρ' o = execOp ρ o := execOp_congr o hsel (fun x hx => by
      rw [Array.all_eq_true] at hf
      obtain ⟨i, hi, rfl⟩ := Array.getElem_of_mem hx
      exact flat_val (hf i hi) (hρ _ hx))
    split at h
    · rename_i u hu
      split at h
      · rename_i hfu
        cases h
        exact .same hS (.inl (by rw [hc]; exact pureRun_run _ hu w)) (val_flat hfu)
      · cases h
    · cases h
  · cases h
theorem aPure_map (hS : Sim μ σ w.heap) (hρ : ∀ x ∈ o.op.operands, Val μ (ρ x) (ρ' x)) (hsel : ∀ cs b, o.op ≠ .select cs b) (h : (aPure P ρ o).map (·, σ) = some (v, σ')) : Out P q o ρ' μ σ w v σ' := by
  cases ha : aPure P ρ o with
  | none => rw [ha] at h; cases h
  | some u => rw [ha] at h; cases h; exact aPure_sound hS hρ hsel ha

variable {dst : Option Tmp} {type : TypeId} {pos : String} {after : Array Edge} {guard : Option (Nat × Bool)}
theorem move_sound {x : Operand} (hS : Sim μ σ w.heap) (hx : Val μ (ρ x) (ρ' x)) : Out P q ⟨dst, .move x, type, pos, after, guard⟩ ρ' μ σ w (ρ x) σ := .same hS (.inl rfl) hx
theorem assign_sound {x : Operand} (hS : Sim μ σ w.heap) (hx : Val μ (ρ x) (ρ' x)) : Out P q ⟨dst, .assign x, type, pos, after, guard⟩ ρ' μ σ w (ρ x) σ := .same hS (.inl rfl) hx
theorem pick_sound {c a b : Operand} {t : Bool} (hS : Sim μ σ w.heap) (hc : Val μ (ρ c) (ρ' c)) (ha : Val μ (ρ a) (ρ' a)) (hb : Val μ (ρ b) (ρ' b)) (ht : ρ c = .bool t) :
    Out P q ⟨dst, .pick c a b, type, pos, after, guard⟩ ρ' μ σ w (if t then ρ a else ρ b) σ := by
  rw [ht] at hc
  refine .same (v' := if t then ρ' a else ρ' b) hS (.inl ?_) ?_
  · simp [execOp, hc.bool, asBool]
  · cases t <;> simp <;> assumption
theorem extract_sound {x : Operand} {i : Nat} {vs : Array Value} (hS : Sim μ σ w.heap) (hx : Val μ (ρ x) (ρ' x)) (ht : ρ x = .tuple vs) (hi : vs[i]? = some v) :
    Out P q ⟨dst, .extract x i, type, pos, after, guard⟩ ρ' μ σ w v σ := by
  rw [ht] at hx
  obtain ⟨a', e, h1, h2⟩ := hx.tup_inv
  obtain ⟨v', h3, h4⟩ := get_val h1 h2 hi
  exact .same hS (.inl (by simp [execOp, e, Instr.extract, h3])) h4
theorem alloc_sound {t : TypeId} {zs : List Value} {a : Addr} (hS : Sim μ σ w.heap) (hU : μ σ.length = none) (hz : zerosOf P t 1 = some zs) (hb : newBlk σ zs = some (a, σ')) :
    Out P q ⟨dst, .alloc t, type, pos, after, guard⟩ ρ' μ σ w (.pointer (some a)) σ' := by
  obtain ⟨i, z, hi, hz1, hf, _, rfl⟩ := zerosOf_val hz
  obtain ⟨rfl, rfl, _⟩ := newBlk_spec hb
  refine .new (w' := w.alloc (.cells z.cells t)) (v' := .pointer (some ⟨w.heap.size, 0, none⟩)) hS hU (.inl ?_) rfl (frOk0 _) (fun j u hj => ⟨u, ?_, ?_⟩) rfl rfl rfl (fun μ' h => .ptr h)
  · simp [execOp, Instr.alloc, zeroValue, typeInfo, hi, hz1, newVar, newRow]
  · simpa using hj
  · exact flat_cells hf (j := j) (by simpa using hj)
theorem box_sound {t : TypeId} {x : Operand} {a : Addr} (hS : Sim μ σ w.heap) (hU : μ σ.length = none) (hx : Val μ (ρ x) (ρ' x)) (hb : newBlk σ (ρ x).cells.toList = some (a, σ')) :
    Out P q ⟨dst, .box t x, type, pos, after, guard⟩ ρ' μ σ w (.pointer (some a)) σ' := by
  obtain ⟨rfl, rfl, hc⟩ := newBlk_spec hb
  have hl := hx.cells hc
  refine .new (w' := w.alloc (.cells (ρ' x).cells t)) (v' := .pointer (some ⟨w.heap.size, 0, none⟩)) hS hU (.inl ?_) rfl (frOk0 _) (fun j u hj => ?_) rfl rfl rfl (fun μ' h => .ptr h)
  · simp [execOp, Instr.box, newVar, newRow]
  · obtain ⟨u', h1, h2⟩ := hl.get hj
    exact ⟨u', by simpa using h1, h2⟩
theorem aggOf_run {t : TypeId} {b : Bool} (h : aggOf P t = some b) (w : World) : (isAgg t).run P w = .ok b w := by
  unfold aggOf at h
  unfold isAgg
  cases hu : P.underlying t with
  | none => simp [hu] at h
  | some d => cases d <;> simp [hu] at h <;> simp [run_underlying hu, h]
theorem szOf_run {t : TypeId} {n : Nat} (h : szOf P t = some n) (w : World) : (Go.sizeOf t).run P w = .ok n w := by
  unfold szOf at h
  cases hi : P.info? t with
  | none => simp [hi] at h
  | some i => simp [hi] at h; simp [Go.sizeOf, typeInfo, hi, h]
theorem loadV_sound {t : TypeId} {a : Addr} {b N : Nat} (hS : Sim μ σ w.heap) (hm : μ a.block = some (b, N)) (hs : a.spot = none) (h : loadV P t σ a = some v) :
    ∃ v', (loadVar t ⟨b, a.off, none⟩).run P w = .ok v' w ∧ Val μ v v' := by
  unfold loadV at h
  split at h
  · rename_i n hagg hsz
    cases hr : readN σ a n with
    | none => rw [hr] at h; cases h
    | some vs =>
      rw [hr] at h; cases h
      obtain ⟨_, vs', h1, h2, h3, _⟩ := read_sim hS hm hr
      refine ⟨.agg vs'.toArray, ?_, .aggL (by simpa using h1)⟩
      have hl := run_loadCells_list (P := P) w ⟨b, a.off, none⟩ vs' (fun j u hj => by
        rw [Addr.add_lit]; exact h3 j u hj)
      have hn : vs'.length = n := h1.1.trans h2
      rw [hn] at hl
      simp [loadVar, aggOf_run hagg, szOf_run hsz, hl]
  · rename_i hagg
    cases hr : readN σ a 1 with
    | none => rw [hr] at h; cases h
    | some vs =>
      rw [hr] at h
      obtain ⟨_, vs', h1, h2, h3, _⟩ := read_sim hS hm hr
      obtain ⟨v', h4, h5⟩ := h1.get (i := 0) (by simpa using h)
      have := h3 0 v' h4
      refine ⟨v', ?_, h5⟩
      simp at this
      simp [loadVar, aggOf_run hagg, this]
  · cases h
theorem load_sound {t : TypeId} {x : Operand} {a : Addr} (hS : Sim μ σ w.heap) (hx : Val μ (ρ x) (ρ' x)) (ht : ρ x = .pointer (some a)) (h : loadV P t σ a = some v) :
    Out P q ⟨dst, .load t x, type, pos, after, guard⟩ ρ' μ σ w v σ := by
  rw [ht] at hx
  obtain ⟨b, N, hs, hm, e⟩ := hx.ptr_inv
  obtain ⟨v', h1, h2⟩ := loadV_sound hS hm hs h
  exact .same hS (.inl (by simp [execOp, e, Instr.loadAt, Instr.sureAddr, h1])) h2
theorem store_sound {t : TypeId} {x y : Operand} {a : Addr} {n : Nat} (hS : Sim μ σ w.heap) (hx : Val μ (ρ x) (ρ' x)) (hy : Val μ (ρ y) (ρ' y)) (ht : ρ x = .pointer (some a)) (hn : szOf P t = some n)
    (hsz : (ρ y).cells.size = n) (h : writeN σ a (ρ y).cells.toList = some σ') : Out P false ⟨dst, .store t x y, type, pos, after, guard⟩ ρ' μ σ w undef σ' := by
  rw [ht] at hx
  obtain ⟨b, N, hs, hm, e⟩ := hx.ptr_inv
  have hcell : (ρ y).cells.toList.all cellB = true := by
    unfold writeN at h
    split at h
    · split at h
      · rename_i hc; exact hc.2.2
      · cases h
    · cases h
  have hl := hy.cells hcell
  obtain ⟨_, h1, h2, h3, _, h5, h6, _⟩ := write_sim hS hm h hl
  have hst := run_storeCells_cells (P := P) b a.off (ρ' y).cells.toList 0 w (by simpa using h5) (by simpa using h6) (hl.oneCell hcell)
  have hsz' : (ρ' y).cells.size = n := by have := hl.1; simp at this; omega
  exact ⟨undef, _, μ, .inr ⟨by simp [execOp, e, Instr.storeAt, Instr.sureAddr, storeVar, szOf_run hn, hsz', hst], rfl⟩, .undef, h1, h2, h3⟩
theorem fieldOf_spec {t : TypeId} {f off : Nat} {ft : TypeId} (h : fieldOf P t f = some (off, ft)) : ∃ fs x, P.underlying t = some (.struct fs) ∧ fs[f]? = some x ∧ x.offset = off ∧ x.type = ft := by
  unfold fieldOf at h
  split at h
  · rename_i fs hu
    cases hx : fs[f]? with
    | none => rw [hx] at h; cases h
    | some x => rw [hx] at h; cases h; exact ⟨fs, x, hu, hx, rfl, rfl⟩
  · cases h
theorem fieldAddr_sound {t : TypeId} {x : Operand} {a : Addr} {f off k : Nat} {ft : TypeId} (hS : Sim μ σ w.heap) (hx : Val μ (ρ x) (ρ' x)) (ht : ρ x = .pointer (some a)) (hf : fieldOf P t f = some (off, ft))
    (hk : szOf P ft = some (k + 1)) : Out P q ⟨dst, .fieldAddr t x f, type, pos, after, guard⟩ ρ' μ σ w (.pointer (some (a.add off))) σ := by
  rw [ht] at hx
  obtain ⟨b, N, hs, hm, e⟩ := hx.ptr_inv
  obtain ⟨fs, fd, hu, hfd, rfl, rfl⟩ := fieldOf_spec hf
  obtain ⟨l, ao, sp⟩ := a
  simp only at hs hm; subst hs
  refine .same (v' := .pointer (some ((⟨b, ao, none⟩ : Addr).add fd.offset))) hS (.inl ?_) ?_
  · simp [execOp, e, Instr.fieldAt, run_underlying hu, hfd, Instr.sureAddr, fieldPlace, szOf_run hk]
  · rw [Addr.add_lit, Addr.add_lit]; exact .ptr hm
theorem partV_sound {t : TypeId} {cs cs' : Array Value} {off : Nat} (hc : ValL μ cs.toList cs'.toList) (h : partV P t cs off = some v) (w : World) : ∃ v', (part t cs' off).run P w = .ok v' w ∧ Val μ v v' := by
  unfold partV at h
  split at h
  · rename_i n hagg hsz
    cases h
    refine ⟨.agg (cs'.extract off (off + n)), by simp [part, aggOf_run hagg, szOf_run hsz], .aggL ?_⟩
    have := (hc.drop off).take n
    simpa [Array.toList_extract, List.extract] using this
  · rename_i hagg
    obtain ⟨v', h1, h2⟩ := hc.get (i := off) (by simpa using h)
    refine ⟨v', ?_, h2⟩
    simp at h1
    simp [part, aggOf_run hagg, h1]
  · cases h
theorem field_sound {t : TypeId} {x : Operand} {cs : Array Value} {f off : Nat} {ft : TypeId} (hS : Sim μ σ w.heap) (hx : Val μ (ρ x) (ρ' x)) (ht : ρ x = .agg cs) (hf : fieldOf P t f = some (off, ft))
    (h : partV P ft cs off = some v) : Out P q ⟨dst, .field t x f, type, pos, after, guard⟩ ρ' μ σ w v σ := by
  rw [ht] at hx
  obtain ⟨a', e, h1, h2⟩ := hx.agg_inv
  obtain ⟨fs, fd, hu, hfd, rfl, rfl⟩ := fieldOf_spec hf
  obtain ⟨v', h3, h4⟩ := partV_sound (.ofA h1 h2) h w
  exact .same hS (.inl (by simp [execOp, e, Instr.field, run_underlying hu, hfd, asAgg, h3])) h4
theorem indexAddr_slice_sound {t e : TypeId} {x i : Operand} {a : Addr} {n c s : Nat} {k : IntKind} {j : Int} (hS : Sim μ σ w.heap) (hx : Val μ (ρ x) (ρ' x)) (hi : Val μ (ρ i) (ρ' i)) (hu : P.underlying t = some (.slice e))
    (h1 : ρ x = .slice (some a) n c) (h2 : ρ i = .int k j) (hs : szOf P e = some s) (h0 : 0 ≤ j) (hn : j < n) : Out P q ⟨dst, .indexAddr t x i, type, pos, after, guard⟩ ρ' μ σ w (.pointer (some (a.add (j.toNat * s)))) σ := by
  rw [h2] at hi; rw [h1] at hx
  have hi := hi.int
  have key : ∃ b N c', a.spot = none ∧ μ a.block = some (b, N) ∧ ρ' x = .slice (some ⟨b, a.off, none⟩) n c' := by
    generalize ρ' x = y at hx
    cases hx with
    | scal h => simp [scalarB] at h
    | sl h _ => exact ⟨_, _, _, rfl, h, rfl⟩
    | slu h _ _ _ _ _ _ => exact ⟨_, _, _, rfl, h, rfl⟩
    | sld h => omega
  obtain ⟨b, N, c', e1, e2, e3⟩ := key
  obtain ⟨l, ao, sp⟩ := a
  simp only at e1 e2 e3; subst e1
  refine .same (v' := .pointer (some ((⟨b, ao, none⟩ : Addr).add (j.toNat * s)))) hS (.inl ?_) ?_
  · simp [execOp, e3, hi, Instr.indexAt, asIntOf, run_underlying hu, szOf_run hs, h0, hn]
  · rw [Addr.add_lit, Addr.add_lit]; exact .ptr e2
theorem indexAddr_array_sound {t e : TypeId} {x i : Operand} {a : Addr} {n s : Nat} {k : IntKind} {j : Int} (hS : Sim μ σ w.heap) (hx : Val μ (ρ x) (ρ' x)) (hi : Val μ (ρ i) (ρ' i)) (hu : P.underlying t = some (.array n e))
    (h1 : ρ x = .pointer (some a)) (h2 : ρ i = .int k j) (hs : szOf P e = some s) (h0 : 0 ≤ j) (hn : j < n) : Out P q ⟨dst, .indexAddr t x i, type, pos, after, guard⟩ ρ' μ σ w (.pointer (some (a.add (j.toNat * s)))) σ := by
  rw [h2] at hi; rw [h1] at hx
  have hi := hi.int
  obtain ⟨b, N, hs0, hm, e3⟩ := hx.ptr_inv
  obtain ⟨l, ao, sp⟩ := a
  simp only at hs0 hm e3; subst hs0
  refine .same (v' := .pointer (some ((⟨b, ao, none⟩ : Addr).add (j.toNat * s)))) hS (.inl ?_) ?_
  · simp [execOp, e3, hi, Instr.indexAt, asIntOf, run_underlying hu, Instr.sureAddr, szOf_run hs, h0, hn]
  · rw [Addr.add_lit, Addr.add_lit]; exact .ptr hm
theorem index_sound {t e : TypeId} {x i : Operand} {cs : Array Value} {n s : Nat} {k : IntKind} {j : Int} (hS : Sim μ σ w.heap) (hx : Val μ (ρ x) (ρ' x)) (hi : Val μ (ρ i) (ρ' i)) (hu : P.underlying t = some (.array n e))
    (h1 : ρ x = .agg cs) (h2 : ρ i = .int k j) (hs : szOf P e = some s) (h0 : 0 ≤ j) (hn : j < n) (h : partV P e cs (j.toNat * s) = some v) : Out P q ⟨dst, .index t x i, type, pos, after, guard⟩ ρ' μ σ w v σ := by
  rw [h2] at hi; rw [h1] at hx
  have hi := hi.int
  obtain ⟨a', e3, g1, g2⟩ := hx.agg_inv
  obtain ⟨v', h3, h4⟩ := partV_sound (.ofA g1 g2) h w
  exact .same hS (.inl (by simp [execOp, e3, hi, Instr.index, asIntOf, run_underlying hu, szOf_run hs, h0, hn, h3])) h4
theorem map_valL {l : Array Operand} (h : ∀ x ∈ l, Val μ (ρ x) (ρ' x)) : ValL μ (l.map ρ).toList (l.map ρ').toList := by
  refine ⟨by simp, fun i v v' h1 h2 => ?_⟩
  simp only [Array.toList_map, List.getElem?_map, Option.map_eq_some_iff] at h1 h2
  obtain ⟨x, hx, rfl⟩ := h1
  obtain ⟨y, hy, rfl⟩ := h2
  rw [hx] at hy; cases hy
  exact h x (by have := List.mem_of_getElem? hx; simpa using this)
theorem makeFunc_sound {f : FuncId} {a b : Array Operand} (hS : Sim μ σ w.heap) (ha : ∀ x ∈ a, Val μ (ρ x) (ρ' x)) (hb : ∀ x ∈ b, Val μ (ρ x) (ρ' x)) :
    Out P q ⟨dst, .makeFunc (.func f) a b, type, pos, after, guard⟩ ρ' μ σ w (.func (.func f) (a.map ρ) (b.map ρ)) σ := by
  have h1 := map_valL ha
  have h2 := map_valL hb
  refine .same (v' := .func (.func f) (a.map ρ') (b.map ρ')) hS (.inl (by simp [execOp, Instr.makeFunc])) (.func (by simp) (by simp) (fun i v v' e1 e2 => h1.2 i v v' (by simpa using e1) (by simpa using e2)) (fun i v v' e1 e2 => h2.2 i v v' (by simpa using e1) (by simpa using e2)))
theorem makeInterface_sound {t : TypeId} {x : Operand} (hS : Sim μ σ w.heap) (hx : Val μ (ρ x) (ρ' x)) (hc : P.concrete t = true) : Out P q ⟨dst, .makeInterface t x, type, pos, after, guard⟩ ρ' μ σ w (.iface t (ρ x)) σ :=
  .same hS (.inl (by simp [execOp, run_makeInterface w t (ρ' x) hc])) (.iface hx)
end
end Go.Proofs.Ytenbclcfhjdcaaa.AM
