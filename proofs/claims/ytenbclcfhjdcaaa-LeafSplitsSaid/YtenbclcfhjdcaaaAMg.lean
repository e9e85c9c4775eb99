/- Operations of the abstract machine, and of the model: literals, make, copy, clear, comparisons, conversions; and all of them. -/
import Derived.Test.YtenbclcfhjdcaaaAMf
import Derived.Lib.AppendZeros
namespace Go.Proofs.Ytenbclcfhjdcaaa.AM
open Go
section
variable {P : Program} {q : Bool} {o : Oper} {ρ ρ' : Operand → Value} {μ : Mu} {σ σ' : Heap} {w w' : World} {v v' : Value}
variable {dst : Option Tmp} {type : TypeId} {pos : String} {after : Array Edge} {guard : Option (Nat × Bool)}

theorem made_eq (z : Array Value) : ∀ n : Nat, (madeCells z (n * z.size)).toList = (List.replicate n z.toList).flatten
  | 0 => by simp [madeCells, Array.range_zero']
  | n + 1 => by
    have ih := made_eq z n
    rw [List.replicate_succ', List.flatten_append, ← ih]
    unfold madeCells
    rw [show (n + 1) * z.size = n * z.size + z.size by rw [Nat.add_mul, Nat.one_mul]]
    simp only [Array.toList_map, Array.toList_range, List.flatten_cons, List.flatten_nil, List.append_nil]
    rw [List.range_add, List.map_append]
    congr 1
    apply List.ext_getElem
    · simp
    · intro i h1 h2
      simp at h1
      simp [Nat.mul_add_mod_of_lt h1, Nat.mul_comm n, h1, Nat.mul_add_mod, Nat.mod_eq_of_lt h1]
theorem made_all (z : Array Value) (n : Nat) (hz : ∀ (j : Nat) v, z[j]? = some v → Val μ v v) : ∀ (j : Nat) v, ((List.replicate n z.toList).flatten)[j]? = some v → Val μ v v := fun j v h => by
  have hm := List.mem_of_getElem? h
  simp only [List.mem_flatten, List.mem_replicate] at hm
  obtain ⟨l, ⟨_, rfl⟩, hv⟩ := hm
  obtain ⟨i, hi, rfl⟩ := List.getElem_of_mem hv
  exact hz i _ (by simp)
theorem makeSlice_sound {t e : TypeId} {l c : Operand} {kl kc : IntKind} {il ic : Int} {bytes : Nat} {zs : List Value} {a : Addr} (hS : Sim μ σ w.heap) (hU : μ σ.length = none) (hl : Val μ (ρ l) (ρ' l)) (hc : Val μ (ρ c) (ρ' c))
    (hu : P.underlying t = some (.slice e)) (h1 : ρ l = .int kl il) (h2 : ρ c = .int kc ic) (hb : byOf P e = some bytes) (h0 : 0 ≤ il) (hlc : il ≤ ic) (hmax : ic ≤ 17179869184) (hby : bytes ≤ 4096)
    (hz : zerosOf P e ic.toNat = some zs) (hn : newBlk σ zs = some (a, σ')) : Out P q ⟨dst, .makeSlice t l c, type, pos, after, guard⟩ ρ' μ σ w (.slice (some a) il.toNat ic.toNat) σ' := by
  rw [h1] at hl; rw [h2] at hc
  have hl := hl.int
  have hc := hc.int
  obtain ⟨i, z, hi, hz1, hf, hzs, rfl⟩ := zerosOf_val hz
  obtain ⟨rfl, rfl, _⟩ := newBlk_spec hn
  have hbb : i.bytes = bytes := by unfold byOf at hb; rw [hi] at hb; simpa using hb
  have hle : (i.bytes : Int) * ic ≤ 281474976710656 := by
    calc (i.bytes : Int) * ic ≤ 4096 * 17179869184 := Int.mul_le_mul (by omega) hmax (by omega) (by omega)
      _ ≤ _ := by omega
  have hr := run_make (P := P) w t e i z hu hi hz1 kl kc il ic h0 hlc hle (by omega)
  have hm := made_eq z.cells ic.toNat
  rw [hzs] at hm
  refine .new (w' := w.alloc _) hS hU (.inl (by simp [execOp, hl, hc, hr]; rfl)) rfl (frOk0 _) (fun j u hj => ⟨u, ?_, ?_⟩) rfl rfl rfl (fun μ' h => .sl h ?_)
  · rw [← hm] at hj; simpa using hj
  · exact made_all (μ := μ) z.cells ic.toNat (fun j v h => flat_cells hf h) j u hj
  · unfold top; omega
theorem appZeros_sound {t tx : TypeId} {s x : Operand} (hS : Sim μ σ w.heap) (hU : ∀ l, σ.length ≤ l → l < σ'.length → μ l = none) (hs : Val μ (ρ s) (ρ' s)) (hx : Val μ (ρ x) (ρ' x)) {kn : IntKind} (htx : P.underlying tx = some (.int kn))
    (h : aZeros P t (ρ s) (ρ x) σ = some (v, σ')) : Out P q ⟨dst, .call { callee := .builtin .append, args := #[s, x], argTypes := #[t, tx] }, type, pos, after, guard⟩ ρ' μ σ w v σ' := by
  have hexec : ∀ {r : Value} {w1 : World}, (Builtin.append_ #[t, tx] type #[ρ' s, ρ' x]).run P w = .ok r w1 → Runs P ⟨dst, .call { callee := .builtin .append, args := #[s, x], argTypes := #[t, tx] }, type, pos, after, guard⟩ ρ' w r w1 := fun {r w1} hr => .inl (by
    simp [execOp, resolve, invoke, builtin, hr])
  unfold aZeros at h
  split at h
  · rename_i e k n hu hse hxe
    rw [hse] at hs
    rw [hxe] at hx
    have es := scalar_val (by rfl) hs
    have ex := hx.int
    split at h
    · rename_i size bytes zs hsz hby hzz
      split at h
      · rename_i hcond
        obtain ⟨h0, hn, hs0, hs1, hb4⟩ := hcond
        obtain ⟨i, z, hi, hz1, hf, hzs, rfl⟩ := zerosOf_val hzz
        have hsz' : i.size = size := by unfold szOf at hsz; rw [hi] at hsz; simpa using hsz
        have hby' : i.bytes = bytes := by unfold byOf at hby; rw [hi] at hby; simpa using hby
        subst hsz'
        subst hby'
        cases hb : newBlk σ (List.replicate n.toNat z.cells.toList).flatten with
        | none => rw [hb] at h; cases h
        | some r =>
          obtain ⟨a1, σ1⟩ := r
          rw [hb] at h; cases h
          obtain ⟨rfl, rfl, _⟩ := newBlk_spec hb
          have hnn : ((n.toNat : Nat) : Int) = n := by omega
          have hby3 : n.toNat * i.bytes ≤ 281474976710656 := by
            calc n.toNat * i.bytes ≤ 17179869184 * 4096 := Nat.mul_le_mul (by omega) hb4
              _ ≤ _ := by omega
          have hr := Lib.run_append_nil_zeros (P := P) w t tx type e i z k kn hu htx hi hz1 n.toNat (by omega) hs0 (by omega) hby3
          rw [hnn] at hr
          have hcap := le_grown w (need := n.toNat) (old := 0) (e := e)
          have hcap2 : grownCap w n.toNat 0 e ≤ maxLen := grownCap_le_maxLen w n.toNat 0 e (by simp only [maxLen]; omega)
          have hzc : (Builtin.zeroCells z.cells n.toNat).toList = (List.replicate n.toNat z.cells.toList).flatten := by
            rw [← made_eq]; rfl
          have hcs : (Builtin.zeroCells z.cells n.toNat ++ Builtin.zeroCells z.cells (grownCap w n.toNat 0 e - n.toNat)).size = grownCap w n.toNat 0 e * i.size := by
            simp only [Array.size_append, Builtin.zeroCells, Array.size_map, Array.size_range, hzs]
            rw [← Nat.add_mul]
            congr 1
            omega
          have hpre : ∀ (j : Nat) v, (List.replicate n.toNat z.cells.toList).flatten[j]? = some v → ∃ v', (Builtin.zeroCells z.cells n.toNat ++ Builtin.zeroCells z.cells (grownCap w n.toNat 0 e - n.toNat))[j]? = some v' ∧ Val μ v v' := fun j u hj => by
            refine ⟨u, ?_, ?_⟩
            · rw [← hzc] at hj
              have hjl := get_lt hj
              rw [Array.getElem?_append_left (by simpa using hjl)]
              simpa using hj
            · exact made_all (μ := μ) z.cells n.toNat (fun j v h => flat_cells hf h) j u hj
          rw [← es, ← ex] at hr
          refine .new (w' := w.drew.alloc _) hS (hU _ (Nat.le_refl _) (by simp)) (hexec hr) rfl (frOk0 _) hpre rfl rfl rfl (fun μ' hμ => ?_)
          exact .slu hμ (by simp only [maxLen]; omega) hcap hcap hcap2 (by rw [hcs, Nat.zero_add]; exact Nat.le_refl _) hs1
      · cases h
    · cases h
  · cases h
theorem app_sound {t tx : TypeId} {s x : Operand} (hS : Sim μ σ w.heap) (hU : ∀ l, σ.length ≤ l → l < σ'.length → μ l = none) (hs : Val μ (ρ s) (ρ' s)) (hx : Val μ (ρ x) (ρ' x))
    (h : aApp P q t tx (ρ s) (ρ x) σ = some (v, σ')) : Out P q ⟨dst, .call { callee := .builtin .append, args := #[s, x], argTypes := #[t, tx] }, type, pos, after, guard⟩ ρ' μ σ w v σ' := by
  unfold aApp at h
  split at h
  · rename_i kn htx; exact appZeros_sound hS hU hs hx htx h
  · exact append_sound hS hU hs hx h
theorem Val.cells' (hv : Val μ v v') (hj : junkB v = false) : ValL μ v.cells.toList v'.cells.toList := by
  cases hv with
  | agg h1 h2 => exact .ofA h1 h2
  | scal h => cases v <;> first | exact ValL.one (.scal h) | (simp [scalarB] at h; done)
  | junk r v => simp [junkB] at hj
  | tup h1 h2 => exact .one (.tup h1 h2)
  | ptr h => exact .one (.ptr h)
  | sl h1 h2 => exact .one (.sl h1 h2)
  | slu h1 h2 h3 h4 h5 h6 h7 => exact .one (.slu h1 h2 h3 h4 h5 h6 h7)
  | sld h => exact .one (.sld h)
  | func h1 h2 h3 h4 => exact .one (.func h1 h2 h3 h4)
  | iface h => exact .one (.iface h)
theorem fold_val (off : Nat) : ∀ (l l' : List Value) (k : Nat) (c c' : Array Value), ValL μ l l' → ValL μ c.toList c'.toList →
    ValL μ ((l.zipIdx k).foldl (fun cs (x : Value × Nat) => cs.setIfInBounds (off + x.2) x.1) c).toList ((l'.zipIdx k).foldl (fun cs (x : Value × Nat) => cs.setIfInBounds (off + x.2) x.1) c').toList
  | [], l', k, c, c', h, hc => by
    have : l' = [] := List.eq_nil_of_length_eq_zero (by simpa using h.1)
    subst this; exact hc
  | v :: l, l', k, c, c', h, hc => by
    cases l' with
    | nil => have := h.1; simp at this
    | cons v' l' =>
      simp only [List.zipIdx_cons, List.foldl_cons]
      have hv : Val μ v v' := h.2 0 v v' rfl rfl
      refine fold_val off l l' (k + 1) _ _ ⟨by simpa using h.1, fun i u u' h1 h2 => h.2 (i + 1) u u' (by simpa using h1) (by simpa using h2)⟩ ⟨by simpa using hc.1, fun i u u' h1 h2 => ?_⟩
      have hsz : c'.size = c.size := by simpa using hc.1
      simp only [Array.toList_setIfInBounds, List.getElem?_set, Array.length_toList, Array.getElem?_toList] at h1 h2
      split at h1
      · rename_i e
        rw [if_pos e] at h2
        split at h1
        · rename_i e2
          rw [if_pos (by omega)] at h2
          cases h1; cases h2; exact hv
        · cases h1
      · rename_i e
        rw [if_neg e] at h2
        exact hc.2 i u u' (by simpa using h1) (by simpa using h2)
theorem fill_val {place : Nat → Option (Nat × Nat)} : ∀ (ps ps' : List (Nat × Value)) (c c' : Array Value) {r : Array Value}, ps'.map (·.1) = ps.map (·.1) → (∀ (i : Nat) (p p' : Nat × Value), ps[i]? = some p → ps'[i]? = some p' → Val μ p.2 p'.2 ∧ junkB p.2 = false) →
    ValL μ c.toList c'.toList → Instr.fill place c ps = some r → ∃ r', Instr.fill place c' ps' = some r' ∧ ValL μ r.toList r'.toList
  | [], ps', c, c', r, hm, _, hc, h => by
    have : ps' = [] := by simpa using hm
    subst this
    simp only [Instr.fill] at h ⊢
    cases h
    exact ⟨_, rfl, hc⟩
  | (i, v) :: ps, ps', c, c', r, hm, hp, hc, h => by
    cases ps' with
    | nil => simp at hm
    | cons p' ps' =>
      obtain ⟨i', v'⟩ := p'
      simp only [List.map_cons, List.cons.injEq] at hm
      obtain ⟨rfl, hm⟩ := hm
      have h0 := hp 0 _ _ rfl rfl
      have hcells := h0.1.cells' h0.2
      have e1 : v'.cells.size = v.cells.size := by simpa using hcells.1
      have e2 : c'.size = c.size := by simpa using hc.1
      simp only [Instr.fill] at h ⊢
      cases hpl : place i' with
      | none => rw [hpl] at h; cases h
      | some os =>
        obtain ⟨off, size⟩ := os
        rw [hpl] at h
        simp only [e1, e2] at h ⊢
        split at h
        · cases h
        · rename_i hcond
          rw [if_neg hcond]
          refine fill_val ps ps' _ _ hm (fun j p p' h1 h2 => hp (j + 1) p p' (by simpa using h1) (by simpa using h2)) ?_ h
          have := fold_val (μ := μ) off v.cells.toList v'.cells.toList 0 c c' hcells hc
          simp only [← Array.foldl_toList, Array.toList_zipIdx]
          exact this
theorem parts_val {parts : Array (Nat × Operand)} (hp : ∀ p ∈ parts, Val μ (ρ p.2) (ρ' p.2)) (hj : (parts.all fun (_, x) => !junkB (ρ x)) = true) :
    (((parts.map fun (i, x) => (i, ρ' x)).toList.map (·.1)) = (parts.map fun (i, x) => (i, ρ x)).toList.map (·.1)) ∧
    (∀ (i : Nat) (p p' : Nat × Value), (parts.map fun (i, x) => (i, ρ x)).toList[i]? = some p → (parts.map fun (i, x) => (i, ρ' x)).toList[i]? = some p' → Val μ p.2 p'.2 ∧ junkB p.2 = false) := by
  constructor
  · simp [Function.comp_def]
  · intro i p p' h1 h2
    simp only [Array.toList_map, List.getElem?_map, Option.map_eq_some_iff] at h1 h2
    obtain ⟨x, hx, rfl⟩ := h1
    obtain ⟨y, hy, rfl⟩ := h2
    rw [hx] at hy; cases hy
    have hm : x ∈ parts := by have := List.mem_of_getElem? hx; simpa using this
    refine ⟨hp x hm, ?_⟩
    rw [Array.all_eq_true] at hj
    obtain ⟨k, hk, rfl⟩ := Array.getElem_of_mem hm
    have := hj k hk
    simpa using this
theorem zero_val {z : Value} (h : flatB z = true) : ValL μ z.cells.toList z.cells.toList := ⟨rfl, fun i v v' h1 h2 => by
  rw [h1] at h2; cases h2
  exact flat_cells h (j := i) (by simpa using h1)⟩
theorem build_sound {t : TypeId} {parts : Array (Nat × Operand)} {z : Value} {cs : Array Value} (hS : Sim μ σ w.heap) (hp : ∀ p ∈ parts, Val μ (ρ p.2) (ρ' p.2)) (hj : (parts.all fun (_, x) => !junkB (ρ x)) = true)
    (hz : zeroOf P t = some z) (hf : flatB z = true) (h : P.built t (parts.map fun (i, x) => (i, ρ x)).toList = some cs) : Out P q ⟨dst, .build t parts, type, pos, after, guard⟩ ρ' μ σ w (.agg cs) σ := by
  obtain ⟨h1, h2⟩ := parts_val hp hj
  have key : ∃ cs', P.built t (parts.map fun (i, x) => (i, ρ' x)).toList = some cs' ∧ ValL μ cs.toList cs'.toList := by
    unfold Program.built at h ⊢
    unfold zeroOf at hz
    cases hi : P.info? t with
    | none => rw [hi] at hz; cases hz
    | some it =>
      rw [hi] at hz h
      simp only [Option.bind_some] at hz
      cases hu : P.underlying t with
      | none => rw [hu] at h; cases h
      | some d =>
        rw [hu] at h
        cases d <;> try (cases h; done)
        case struct fields =>
          simp only [hz] at h
          cases hm : fields.toList.mapM (fun f => (P.info? f.type).map fun i => (f.offset, i.size)) with
          | none => rw [hm] at h; cases h
          | some places =>
            rw [hm] at h
            simp only [hz, hm]
            exact fill_val _ _ _ _ h1 h2 (zero_val hf) h
        case array n e =>
          simp only [hz] at h
          cases hm : P.info? e with
          | none => rw [hm] at h; cases h
          | some ie =>
            rw [hm] at h
            simp only [hz, hm]
            exact fill_val _ _ _ _ h1 h2 (zero_val hf) h
  obtain ⟨cs', h3, h4⟩ := key
  exact .same hS (.inl (by
    have := run_build (P := P) w t (parts.map fun (i, x) => (i, ρ' x)) cs' h3
    simp [execOp, this])) (.aggL h4)
theorem buildSlice_sound {t e : TypeId} {len s : Nat} {parts : Array (Nat × Operand)} {zs : List Value} {cs : Array Value} {a : Addr} (hS : Sim μ σ w.heap) (hU : μ σ.length = none) (hp : ∀ p ∈ parts, Val μ (ρ p.2) (ρ' p.2)) (hj : (parts.all fun (_, x) => !junkB (ρ x)) = true)
    (hu : P.underlying t = some (.slice e)) (hs : szOf P e = some s) (hz : zerosOf P e len = some zs) (hlim : len * s ≤ 16777216) (hlim2 : len < top)
    (h : Instr.fill (fun i => some (i * s, s)) zs.toArray (parts.map fun (i, x) => (i, ρ x)).toList = some cs) (hn : newBlk σ cs.toList = some (a, σ')) :
    Out P q ⟨dst, .buildSlice t len parts, type, pos, after, guard⟩ ρ' μ σ w (.slice (some a) len len) σ' := by
  obtain ⟨h1, h2⟩ := parts_val hp hj
  obtain ⟨i, z, hi, hz1, hf, hzs, rfl⟩ := zerosOf_val hz
  obtain ⟨rfl, rfl, _⟩ := newBlk_spec hn
  have hsi : i.size = s := by unfold szOf at hs; rw [hi] at hs; simpa using hs
  subst hsi
  have hm := made_eq z.cells len
  rw [hzs] at hm
  have hv : ValL μ (List.replicate len z.cells.toList).flatten (madeCells z.cells (len * i.size)).toList := by
    rw [hm]
    exact ⟨rfl, fun j v v' e1 e2 => by
      rw [e1] at e2; cases e2
      exact made_all (μ := μ) z.cells len (fun j v h => flat_cells hf h) j v e1⟩
  obtain ⟨cs', h3, h4⟩ := fill_val _ _ _ (madeCells z.cells (len * i.size)) h1 h2 (by simpa using hv) h
  have hlim' : ¬ (2 ^ 24 < len * i.size) := by omega
  refine .new (w' := w.alloc (.cells cs' e)) (v' := .slice (some ⟨w.heap.size, 0, none⟩) len len) hS hU (.inl ?_) rfl (frOk0 _) (fun j u hj => ?_) rfl rfl rfl (fun μ' h => .sl h hlim2)
  · unfold madeCells at h3
    by_cases h0 : len * i.size = 0
    · rw [h0] at h3
      have e0 : Array.map (fun x => (#[] : Array Value)[x % (#[] : Array Value).size]!) (Array.range 0) = Array.map (fun x => z.cells[x % z.cells.size]!) (Array.range 0) := by simp [Array.range_zero']
      simp [execOp, Instr.buildSlice, run_underlying hu, szOf_run hs, h0, Array.range_zero'] at h3 ⊢
      simp [h3, newRow]
    · simp [execOp, Instr.buildSlice, run_underlying hu, szOf_run hs, h0, zeroValue, typeInfo, hi, hz1, hlim'] at h3 ⊢
      simp [h3, newRow]
  · obtain ⟨u', g1, g2⟩ := h4.get hj
    exact ⟨u', by simpa using g1, g2⟩
theorem strEq_sound {op : BinOp} {t ty : TypeId} {x y : Operand} {b : Bool} (hS : Sim μ σ w.heap) (hx : Val μ (ρ x) (ρ' x)) (hy : Val μ (ρ y) (ρ' y)) (h : strEq op (ρ x) (ρ y) = some b) :
    Out P q ⟨dst, .binOp op t x y ty, type, pos, after, guard⟩ ρ' μ σ w (.bool b) σ := by
  unfold strEq at h
  split at h
  · rename_i a c e1 e2
    cases h
    rw [e1] at hx; rw [e2] at hy
    refine .same hS (.inl ?_) (.scal rfl)
    simp [execOp, hx.str, hy.str, eqGuard_at_string, binOp, Op.stringOp, ByteArray.toList_eq]
  · rename_i a c e1 e2
    cases h
    rw [e1] at hx; rw [e2] at hy
    refine .same hS (.inl ?_) (.scal rfl)
    simp [execOp, hx.str, hy.str, eqGuard_at_string, binOp, Op.stringOp, ByteArray.toList_eq]
  · cases h
theorem Val.slice_inv {a : Addr} {n c : Nat} (h : Val μ (.slice (some a) n c) v') : ∃ a' c', v' = .slice (some a') n c' := by
  rcases h.sl_inv with ⟨_, rfl, a', c', e⟩ | ⟨_, _, _, _, ⟨_, e⟩ | ⟨_, _, c', _, _, _, _, _, _, _, e⟩⟩
  · exact ⟨_, _, e⟩
  · exact ⟨_, _, e⟩
  · exact ⟨_, _, e⟩
theorem eq_key {t : TypeId} {x' y' : Value} {b : Bool} {w : World} (h : ∀ d, (Op.equalIn (d + 1) t x' y').run P w = .ok b w) : (Op.equal t x' y').run P w = .ok b w := h 9999
theorem aEq_run {t : TypeId} {x y x' y' : Value} {b : Bool} (hx : Val μ x x') (hy : Val μ y y') (h : aEq P t x y = some b) (w : World) :
    (Op.equal t x' y').run P w = .ok b w ∧ (∀ op u1 u2, eqGuard op t u1 u2 x' y' = pure ()) ∧ binOp .eql t x' y' = (do pure (.bool (← Op.equal t x' y'))) ∧ binOp .neq t x' y' = (do pure (.bool (!(← Op.equal t x' y')))) := by
  unfold aEq at h
  split at h <;> (try (cases h; done)) <;> rename_i hu <;> cases h
  · obtain ⟨_, _, _, _, rfl⟩ := hx.ptr_inv
    rw [scalar_val rfl hy]
    exact ⟨eq_key fun d => by simp [Op.equalIn, run_underlying hu], fun op _ _ => eqGuard_at_pointer .., rfl, rfl⟩
  · obtain ⟨_, _, _, _, rfl⟩ := hy.ptr_inv
    rw [scalar_val rfl hx]
    exact ⟨eq_key fun d => by simp [Op.equalIn, run_underlying hu], fun op _ _ => eqGuard_at_pointer .., rfl, rfl⟩
  · obtain ⟨_, _, rfl⟩ := hx.slice_inv
    generalize y' = z at hy
    cases hy with
    | scal h => exact ⟨eq_key fun d => by simp [Op.equalIn, run_underlying hu], fun op _ _ => eqGuard_at_slice .., rfl, rfl⟩
  · obtain ⟨_, _, rfl⟩ := hy.slice_inv
    generalize x' = z at hx
    cases hx with
    | scal h => exact ⟨eq_key fun d => by simp [Op.equalIn, run_underlying hu], fun op _ _ => eqGuard_at_slice .., rfl, rfl⟩
  · exfalso
    cases hx with
    | scal h => simp [scalarB] at h
  · exfalso
    cases hy with
    | scal h => simp [scalarB] at h
  · rw [scalar_val rfl hy]
    cases hx with
    | scal h => simp [scalarB] at h
    | func _ _ _ _ => exact ⟨eq_key fun d => by simp [Op.equalIn, run_underlying hu], fun op _ _ => eqGuard_at_func .., rfl, rfl⟩
  · rw [scalar_val rfl hx]
    cases hy with
    | scal h => simp [scalarB] at h
    | func _ _ _ _ => exact ⟨eq_key fun d => by simp [Op.equalIn, run_underlying hu], fun op _ _ => eqGuard_at_nilFunc .., rfl, rfl⟩
  · rw [scalar_val rfl hy]
    cases hx with
    | scal h => simp [scalarB] at h
    | iface _ => exact ⟨eq_key fun d => by simp [Op.equalIn, run_underlying hu], fun op _ _ => eqGuard_at_iface .., rfl, rfl⟩
  · rw [scalar_val rfl hx]
    cases hy with
    | scal h => simp [scalarB] at h
    | iface _ => exact ⟨eq_key fun d => by simp [Op.equalIn, run_underlying hu], fun op _ _ => eqGuard_nil_iface .., rfl, rfl⟩
theorem eql_sound {t ty : TypeId} {x y : Operand} {b : Bool} (hS : Sim μ σ w.heap) (hx : Val μ (ρ x) (ρ' x)) (hy : Val μ (ρ y) (ρ' y)) (h : aEq P t (ρ x) (ρ y) = some b) :
    Out P q ⟨dst, .binOp .eql t x y ty, type, pos, after, guard⟩ ρ' μ σ w (.bool b) σ := by
  obtain ⟨h1, h2, h3, _⟩ := aEq_run hx hy h w
  exact .same hS (.inl (by simp [execOp, h2, h3, h1])) (.scal rfl)
theorem neq_sound {t ty : TypeId} {x y : Operand} {b : Bool} (hS : Sim μ σ w.heap) (hx : Val μ (ρ x) (ρ' x)) (hy : Val μ (ρ y) (ρ' y)) (h : aEq P t (ρ x) (ρ y) = some b) :
    Out P q ⟨dst, .binOp .neq t x y ty, type, pos, after, guard⟩ ρ' μ σ w (.bool (!b)) σ := by
  obtain ⟨h1, h2, _, h3⟩ := aEq_run hx hy h w
  exact .same hS (.inl (by simp [execOp, h2, h3, h1])) (.scal rfl)
end
end Go.Proofs.Ytenbclcfhjdcaaa.AM
