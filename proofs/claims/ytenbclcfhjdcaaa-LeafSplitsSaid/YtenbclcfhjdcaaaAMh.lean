/- Operations of the abstract machine, and of the model: conversions, builtins; all of them together. -/
import Derived.Test.YtenbclcfhjdcaaaAMg
namespace Go.Proofs.Ytenbclcfhjdcaaa.AM
open Go
section
variable {P : Program} {q : Bool} {o : Oper} {ρ ρ' : Operand → Value} {μ : Mu} {σ σ' : Heap} {w w' : World} {v v' : Value}
variable {dst : Option Tmp} {type : TypeId} {pos : String} {after : Array Edge} {guard : Option (Nat × Bool)}

theorem bytes_of : ∀ (cs cs' : List Value) (bs : List UInt8), cs.mapM byteOfV = some bs → ValL μ cs cs' → ∃ ns : List Int, cs' = ns.map (Value.int .u8) ∧ bs = ns.map (fun n => UInt8.ofNat n.toNat)
  | [], cs', bs, h, hv => by
    have : cs' = [] := List.eq_nil_of_length_eq_zero (by simpa using hv.1)
    simp at h
    exact ⟨[], by simp [this], by simp [← h]⟩
  | c :: cs, cs', bs, h, hv => by
    cases cs' with
    | nil => have := hv.1; simp at this
    | cons c' cs' =>
      have h0 : Val μ c c' := hv.2 0 _ _ rfl rfl
      rw [List.mapM_cons] at h
      cases hb : byteOfV c with
      | none => simp [hb] at h
      | some b =>
        cases hm : cs.mapM byteOfV with
        | none => simp [hb, hm] at h
        | some bs' =>
          simp [hb, hm] at h
          subst h
          obtain ⟨ns, e1, e2⟩ := bytes_of cs cs' bs' hm ⟨by simpa using hv.1, fun i u u' a1 a2 => hv.2 (i + 1) u u' (by simpa using a1) (by simpa using a2)⟩
          unfold byteOfV at hb
          split at hb
          · rename_i n
            cases hb
            exact ⟨n :: ns, by rw [h0.int, e1]; rfl, by rw [e2]; rfl⟩
          · cases hb
theorem fold_push : ∀ (ns : List Int) (b : ByteArray), (ns.foldl (fun r n => r.push (UInt8.ofNat n.toNat)) b) = ⟨b.data ++ (ns.map fun n => UInt8.ofNat n.toNat).toArray⟩
  | [], b => by simp
  | n :: ns, b => by
    rw [List.foldl_cons, fold_push ns]
    congr 1
    apply Array.ext'
    simp [ByteArray.push]
theorem toString_sound {src dt e : TypeId} {x : Operand} {a : Addr} {n c : Nat} {cs : List Value} {bs : List UInt8} (hS : Sim μ σ w.heap) (hx : Val μ (ρ x) (ρ' x)) (h1 : P.underlying src = some (.slice e)) (h2 : P.underlying dt = some .string)
    (h3 : P.underlying e = some (.int .u8)) (hxe : ρ x = .slice (some a) n c) (hr : readN σ a n = some cs) (hb : cs.mapM byteOfV = some bs) :
    Out P q ⟨dst, .convert src dt x, type, pos, after, guard⟩ ρ' μ σ w (.string ⟨bs.toArray⟩) σ := by
  rw [hxe] at hx
  have key : ∃ ns : List Int, bs = ns.map (fun n => UInt8.ofNat n.toNat) ∧ ∃ a' c', ρ' x = .slice (some a') n c' ∧ (loadCells a' n).run P w = .ok (ns.map (Value.int .u8)).toArray w := by
    rcases hx.sl_inv with ⟨_, rfl, a', c', ex⟩ | ⟨b, N, hsp, hm, h⟩
    · have e0 : cs = [] := by
        unfold readN at hr
        split at hr
        · split at hr
          · cases hr; simp
          · cases hr
        · cases hr
      subst e0
      simp at hb
      exact ⟨[], by simp [← hb], a', c', ex, by simpa using run_loadCells_list (P := P) w a' [] (fun j u hj => by simp at hj)⟩
    · obtain ⟨_, vs', g1, g2, g3, _⟩ := read_sim hS hm hr
      obtain ⟨ns, e1, e2⟩ := bytes_of cs vs' bs hb g1
      have hl := run_loadCells_list (P := P) w ⟨b, a.off, none⟩ vs' (fun j u hj => by rw [Addr.add_lit]; exact g3 j u hj)
      rw [g1.1.trans g2, e1] at hl
      rcases h with ⟨_, ex⟩ | ⟨_, _, c', _, _, _, _, _, _, _, ex⟩
      · exact ⟨ns, e2, _, _, ex, hl⟩
      · exact ⟨ns, e2, _, _, ex, hl⟩
  obtain ⟨ns, e2, a', c', ex, hl⟩ := key
  have hrun := run_bytesToString (P := P) w a' n c' ns hl
  refine .same (v' := .string ⟨bs.toArray⟩) hS (.inl ?_) (.scal rfl)
  simp [execOp, ex, convert, run_underlying h1, run_underlying h2, run_underlying h3, hrun, fold_push, e2]
theorem toBytes_sound {src dt e : TypeId} {x : Operand} {s : ByteArray} {a : Addr} (hS : Sim μ σ w.heap) (hU : μ σ.length = none) (hx : Val μ (ρ x) (ρ' x)) (h1 : P.underlying src = some .string) (h2 : P.underlying dt = some (.slice e))
    (h3 : P.underlying e = some (.int .u8)) (hxe : ρ x = .string s) (hl : s.size ≤ 17179869184) (hn : newBlk σ (byteCells s) = some (a, σ')) :
    Out P q ⟨dst, .convert src dt x, type, pos, after, guard⟩ ρ' μ σ w (.slice (some a) s.size (unk 1 s.size)) σ' := by
  rw [hxe] at hx
  have ex := hx.str
  obtain ⟨rfl, rfl, _⟩ := newBlk_spec hn
  have hcap := le_grown w (need := s.size) (old := 0) (e := e)
  have hcap2 : grownCap w s.size 0 e ≤ maxLen := grownCap_le_maxLen w s.size 0 e (by simp only [maxLen]; omega)
  have hsz : (Lib.bytesCells w e s).size = grownCap w s.size 0 e := by
    unfold Lib.bytesCells
    simp only [Array.size_append, Array.size_map, Array.size_replicate]
    show s.size + _ = _
    omega
  have hheap : (Lib.bytesWorld w e s).heap = w.heap.push (.cells (Lib.bytesCells w e s) e ((Lib.bytesCells w e s).size, (Lib.bytesCells w e s).size + 1)) := by
    apply Array.ext_getElem?
    intro i
    rw [Array.getElem?_push]
    split
    · rename_i e; subst e; exact Lib.bytesWorld_at_new w _ s
    · rename_i ne
      rcases Nat.lt_or_ge i w.heap.size with h | h
      · exact Lib.bytesWorld_at_old w _ s i h
      · rw [Array.getElem?_eq_none (by rw [Lib.bytesWorld_size]; omega), Array.getElem?_eq_none (by omega)]
  refine .new (w' := Lib.bytesWorld w e s) (v' := .slice (some ⟨w.heap.size, 0, none⟩) s.size (grownCap w s.size 0 e)) hS hU (.inl ?_) hheap (.inr (Nat.le_refl _)) (fun j u hj => ⟨u, ?_, ?_⟩) rfl rfl rfl (fun μ' h => ?_)
  · have := Lib.run_convert_string_bytes (P := P) w src dt e s h1 h2 h3
    simp [execOp, ex, this]
  · have hj' : (s.data.map fun b => Value.int .u8 b.toNat)[j]? = some u := by
      unfold byteCells at hj
      rw [← Array.getElem?_toList, Array.toList_map]; exact hj
    unfold Lib.bytesCells
    rw [Array.getElem?_append_left (Array.getElem?_eq_some_iff.1 hj').1]
    exact hj'
  · obtain ⟨_, _, rfl⟩ := List.mem_map.1 (List.mem_of_getElem? hj)
    exact .scal rfl
  · exact .slu h (by simp only [maxLen]; omega) hcap hcap hcap2 (by rw [hsz]; omega) (by omega)
theorem sameBytes_sound {src dt e e0 : TypeId} {x : Operand} {a : Addr} {n c : Nat} {bk : Blk} (hS : Sim μ σ w.heap) (hx : Val μ (ρ x) (ρ' x)) (h1 : P.underlying src = some (.slice e0)) (h2 : P.underlying dt = some (.slice e))
    (h3 : P.underlying e = some (.int .u8)) (hsd : src = dt) (hxe : ρ x = .slice (some a) n c) (hb : σ[a.block]? = some bk) (hp : bk.perm = .full) (hc : c < dng) :
    Out P q ⟨dst, .convert src dt x, type, pos, after, guard⟩ ρ' μ σ w (ρ x) σ := by
  have hx0 := hx
  rw [hxe] at hx
  subst hsd
  rcases hx.sl_inv with ⟨hd, _⟩ | ⟨b, N, hsp, hm, h⟩
  · omega
  · obtain ⟨C, elem, fr, he, g0, g1, g2⟩ := hS.blk _ b N bk hm hb (by rw [hp]; simp)
    have hfr := g1 hp
    have ex : ∃ c', ρ' x = .slice (some ⟨b, a.off, none⟩) n c' := by
      rcases h with ⟨_, ex⟩ | ⟨_, _, c', _, _, _, _, _, _, _, ex⟩
      · exact ⟨_, ex⟩
      · exact ⟨_, ex⟩
    obtain ⟨c', ex⟩ := ex
    have hlt := hS.lt _ _ _ hm
    let fr' : Nat × Nat := if fr.1 = fr.2 then (C.size, C.size + 1) else (min fr.1 C.size, max fr.2 (C.size + 1))
    have hw : (w.freeze ⟨b, C.size, none⟩ 1).heap[b]? = some (.cells C elem fr') := by
      simp only [World.freeze, if_neg (show ¬ (1 = 0) by omega), Array.getElem?_modify, he, if_true, Option.map_some]
      simp only [fr', beq_iff_eq]
    have hwo : ∀ k, k ≠ b → (w.freeze ⟨b, C.size, none⟩ 1).heap[k]? = w.heap[k]? := fun k hk => by
      simp [World.freeze, Array.getElem?_modify, Ne.symm hk]
    have hws : (w.freeze ⟨b, C.size, none⟩ 1).heap.size = w.heap.size := by simp [World.freeze]
    have hfr' : frOk C fr' := by
      unfold frOk at hfr ⊢
      simp only [fr']
      split
      · exact .inr (Nat.le_refl _)
      · rename_i hne
        exact .inr (by have := hfr.resolve_left hne; simp only; omega)
    have hff : isFull σ a.block := ⟨bk, hb, hp⟩
    have hrun : (execOp ρ' ⟨dst, .convert src src x, type, pos, after, guard⟩).run P w = .ok (.value (ρ' x)) (w.freeze ⟨b, C.size, none⟩ 1) := by
      have hsh : w.shape? b = some (elem, C.size) := by simp [World.shape?, he]
      simp [execOp, ex, convert, run_underlying h2, run_underlying h3, markStringish, hsh]
    refine ⟨_, _, μ, .inl hrun, hx0, ⟨fun l b' N' h => by rw [hws]; exact hS.lt l b' N' h, hS.inj, fun l b' N' y hl hy hd => ?_⟩, ⟨fun _ _ h => h, fun _ _ _ h => .inl h, fun b' hb' hn => hwo b' (fun e => ?_), fun _ l b' N' hl ha => ?_, by rw [hws]; exact Nat.le_refl _, rfl, rfl, rfl⟩, .refl _⟩
    · obtain ⟨c2, elem2, fr2, k1, k0, k2, k3⟩ := hS.blk l b' N' y hl hy hd
      by_cases e1 : b' = b
      · subst e1
        rw [he] at k1; cases k1
        exact ⟨C, elem, fr', hw, k0, fun _ => hfr', k3⟩
      · exact ⟨c2, elem2, fr2, by rw [hwo b' e1]; exact k1, k0, k2, k3⟩
    · subst e; exact hn a.block N hm hff
    · by_cases e1 : b' = b
      · subst e1
        intro c2 e2 fr2 h2
        rw [he] at h2; cases h2
        exact ⟨fr', hw, fun _ => hfr'⟩
      · exact .of_eq (hwo b' e1)
theorem len_slice_sound {t e : TypeId} {x : Operand} {A : Option Addr} {n c : Nat} (hS : Sim μ σ w.heap) (hx : Val μ (ρ x) (ρ' x)) (hu : P.underlying t = some (.slice e)) (hxe : ρ x = .slice A n c) :
    Out P q ⟨dst, .call { callee := .builtin .len, args := #[x], argTypes := #[t] }, type, pos, after, guard⟩ ρ' μ σ w (.int .i64 n) σ := by
  rw [hxe] at hx
  have key : ∃ A' c', ρ' x = .slice A' n c' := by
    cases A with
    | some a => obtain ⟨a', c', e⟩ := hx.slice_inv; exact ⟨_, _, e⟩
    | none =>
      generalize ρ' x = z at hx
      cases hx with
      | scal h => exact ⟨_, _, rfl⟩
  obtain ⟨A', c', ex⟩ := key
  exact .same hS (.inl (by simp [execOp, resolve, invoke, builtin, ex, Builtin.len_, run_underlying hu, goInt])) (.scal rfl)
theorem len_array_sound {t e : TypeId} {x : Operand} {n : Nat} (hS : Sim μ σ w.heap) (hu : P.underlying t = some (.array n e)) :
    Out P q ⟨dst, .call { callee := .builtin .len, args := #[x], argTypes := #[t] }, type, pos, after, guard⟩ ρ' μ σ w (.int .i64 n) σ :=
  .same hS (.inl (by simp [execOp, resolve, invoke, builtin, Builtin.len_, run_underlying hu, goInt])) (.scal rfl)
theorem cap_sound {t e : TypeId} {x : Operand} {A : Option Addr} {n c : Nat} (hS : Sim μ σ w.heap) (hx : Val μ (ρ x) (ρ' x)) (hu : P.underlying t = some (.slice e)) (hxe : ρ x = .slice A n c) (hc : c < top) :
    Out P q ⟨dst, .call { callee := .builtin .cap, args := #[x], argTypes := #[t] }, type, pos, after, guard⟩ ρ' μ σ w (.int .i64 c) σ := by
  rw [hxe] at hx
  have key : ∃ A', ρ' x = .slice A' n c := by
    cases A with
    | some a =>
      rcases hx.sl_inv with ⟨hd, _⟩ | ⟨_, _, _, _, ⟨_, e⟩ | ⟨_, _, c', ec, _⟩⟩
      · have := dng_top; omega
      · exact ⟨_, e⟩
      · rw [ec] at hc; exact absurd hc (unk_top _ _)
    | none =>
      generalize ρ' x = z at hx
      cases hx with
      | scal h => exact ⟨_, rfl⟩
  obtain ⟨A', ex⟩ := key
  exact .same hS (.inl (by simp [execOp, resolve, invoke, builtin, ex, Builtin.cap_, run_underlying hu, goInt])) (.scal rfl)
theorem copy_sound {t tx e : TypeId} {d s : Operand} {A : Option Addr} {n c size m : Nat} {xs : List Value} (hS : Sim μ σ w.heap) (hd : Val μ (ρ d) (ρ' d)) (hs : Val μ (ρ s) (ρ' s)) (hu : P.underlying t = some (.slice e)) (hde : ρ d = .slice A n c)
    (hsz : szOf P e = some size) (hsrc : (match ρ s with | .slice _ _ _ => srcOf P σ size tx (ρ s) | _ => none) = some (m, xs)) :
    (Nat.min m n = 0 → Out P q ⟨dst, .call { callee := .builtin .copy, args := #[d, s], argTypes := #[t, tx] }, type, pos, after, guard⟩ ρ' μ σ w (.int .i64 0) σ) ∧
    (∀ a σ', A = some a → writeN σ a (xs.take (Nat.min m n * size)) = some σ' → Out P false ⟨dst, .call { callee := .builtin .copy, args := #[d, s], argTypes := #[t, tx] }, type, pos, after, guard⟩ ρ' μ σ w (.int .i64 (Nat.min m n : Nat)) σ') := by
  have hd' : ∃ A' c', ρ' d = .slice A' n c' ∧ (A = none → A' = none) ∧ (∀ a, A = some a → Nat.min m n ≠ 0 → ∃ b N, a.spot = none ∧ μ a.block = some (b, N) ∧ A' = some ⟨b, a.off, none⟩) := by
    rw [hde] at hd
    cases A with
    | some a =>
      rcases hd.sl_inv with ⟨_, rfl, a', c', ex⟩ | ⟨b, N, h1, h2, h⟩
      · exact ⟨_, _, ex, by simp, fun _ _ h => by simp at h⟩
      · rcases h with ⟨_, ex⟩ | ⟨_, _, c', _, _, _, _, _, _, _, ex⟩
        · exact ⟨_, _, ex, by simp, fun a' ha _ => by cases ha; exact ⟨b, N, h1, h2, rfl⟩⟩
        · exact ⟨_, _, ex, by simp, fun a' ha _ => by cases ha; exact ⟨b, N, h1, h2, rfl⟩⟩
    | none =>
      generalize ρ' d = z at hd
      cases hd with
      | scal h => exact ⟨_, _, rfl, by simp, fun _ h => by cases h⟩
  -- the source
  have hs' : ∃ B c', ρ' s = .slice B m c' ∧ ∃ e', P.underlying tx = some (.slice e') ∧ ∃ xs', ValL μ xs xs' ∧ xs.length = m * size ∧ (∀ k, k ≤ m → (Builtin.firstCells size k (ρ' s)).run P w = .ok (xs'.take (k * size)).toArray w) := by
    cases hse : ρ s with
    | slice B m0 c0 =>
      rw [hse] at hsrc hs
      dsimp only at hsrc
      unfold srcOf at hsrc
      split at hsrc
      · rename_i e' a n1 c1 hk hes
        cases hes
        cases hr : readN σ a (m0 * size) with
        | none => rw [hr] at hsrc; cases hsrc
        | some vs =>
          rw [hr] at hsrc
          obtain ⟨rfl, rfl⟩ := Prod.mk.inj (Option.some.inj hsrc)
          rcases hs.sl_inv with ⟨_, rfl, a', c', ex⟩ | ⟨b, N, h1, h2, h⟩
          · have e0 : vs = [] := by
              unfold readN at hr
              split at hr
              · split at hr
                · cases hr; simp
                · cases hr
              · cases hr
            subst e0
            refine ⟨_, _, ex, e', hk, [], .nil, by simp, fun k hk => ?_⟩
            have : k = 0 := by omega
            subst this
            rw [ex]
            have := run_loadCells_list (P := P) w a' [] (fun j u hj => by simp at hj)
            simpa [Builtin.firstCells] using this
          · obtain ⟨_, vs', g1, g2, g3, _⟩ := read_sim hS h2 hr
            have ex : ∃ c', ρ' s = .slice (some ⟨b, a.off, none⟩) m0 c' := by
              rcases h with ⟨_, ex⟩ | ⟨_, _, c', _, _, _, _, _, _, _, ex⟩
              · exact ⟨_, ex⟩
              · exact ⟨_, ex⟩
            obtain ⟨c', ex⟩ := ex
            refine ⟨_, _, ex, e', hk, vs', g1, g2, fun k hk => ?_⟩
            rw [ex]
            have hkl : k * size ≤ m0 * size := Nat.mul_le_mul_right _ hk
            have hvl : vs'.length = m0 * size := g1.1.trans g2
            exact run_firstCells_some w size k _ m0 c' (vs'.take (k * size)) (by rw [List.length_take]; omega) (fun j u hj => by
              rw [Addr.add_lit]
              rw [List.getElem?_take] at hj
              split at hj
              · exact g3 j u hj
              · cases hj)
      · rename_i e' hk hes
        cases hes
        cases hsrc
        have ex := scalar_val (by rfl) hs
        refine ⟨_, _, ex, e', hk, [], .nil, by simp, fun k hk => ?_⟩
        have : k = 0 := by omega
        subst this
        rw [ex]
        simp [Builtin.firstCells]
      · rename_i hes; cases hes
      · cases hsrc
    | _ => rw [hse] at hsrc; cases hsrc
  obtain ⟨A', c', ed, hn, ha⟩ := hd'
  obtain ⟨B, c2, es, e', hk, xs', hv, hxl, hfirst⟩ := hs'
  have hmin : Nat.min m n ≤ m := Nat.min_le_left _ _
  have hf := hfirst (Nat.min m n) hmin
  rw [es] at hf
  constructor
  · intro h0
    rw [h0] at hf
    refine .same hS (.inl ?_) (.scal rfl)
    cases A' <;> simp [execOp, resolve, invoke, builtin, Builtin.copy_, ed, es, run_underlying hu, Builtin.lenOf, szOf_run hsz, h0, hf, goInt, storeCells]
  · intro a σ' eA hw
    by_cases h0 : Nat.min m n = 0
    · -- nothing goes over
      rw [h0] at hf hw ⊢
      have eσ : σ' = σ := by
        unfold writeN at hw
        split at hw
        · rename_i b hb
          split at hw
          · rename_i hc
            cases hw
            simp [splice, List.take_append_drop]
            apply List.ext_getElem?
            intro i
            rw [List.getElem?_set]
            split
            · rename_i ei
              subst ei
              split
              · rw [hb, ← hc.1]
              · rw [List.getElem?_eq_none (by omega)]
            · rfl
          · cases hw
        · cases hw
      rw [eσ]
      refine .same hS (.inl ?_) (.scal rfl)
      cases A' <;> simp [execOp, resolve, invoke, builtin, Builtin.copy_, ed, es, run_underlying hu, Builtin.lenOf, szOf_run hsz, h0, hf, goInt, storeCells]
    · obtain ⟨b, N, h1, h2, rfl⟩ := ha a eA h0
      obtain ⟨_, g1, g2, g3, _, g5, g6, g7⟩ := write_sim hS h2 hw (hv.take _)
      have hst := run_storeCells_cells (P := P) b a.off (xs'.take (Nat.min m n * size)) 0 w (by simpa using g5) (by simpa using g6) ((hv.take _).oneCell g7)
      refine ⟨_, _, μ, .inl ?_, .scal rfl, g1, g2, g3⟩
      simp [execOp, resolve, invoke, builtin, Builtin.copy_, ed, es, run_underlying hu, Builtin.lenOf, szOf_run hsz, hf, goInt]
      simp at hst
      simp [hst]
theorem clear_sound {t e : TypeId} {x : Operand} {A : Option Addr} {n c : Nat} (hS : Sim μ σ w.heap) (hx : Val μ (ρ x) (ρ' x)) (hu : P.underlying t = some (.slice e)) (hxe : ρ x = .slice A n c) :
    (n = 0 → Out P q ⟨dst, .call { callee := .builtin .clear, args := #[x], argTypes := #[t] }, type, pos, after, guard⟩ ρ' μ σ w undef σ) ∧
    (∀ a zs σ', n ≠ 0 → A = some a → zerosOf P e n = some zs → writeN σ a zs = some σ' → Out P false ⟨dst, .call { callee := .builtin .clear, args := #[x], argTypes := #[t] }, type, pos, after, guard⟩ ρ' μ σ w undef σ') := by
  rw [hxe] at hx
  constructor
  · intro h0
    subst h0
    have key : ∃ A' c', ρ' x = .slice A' 0 c' := by
      cases A with
      | some a => obtain ⟨a', c', e⟩ := hx.slice_inv; exact ⟨_, _, e⟩
      | none =>
        generalize ρ' x = z at hx
        cases hx with
        | scal h => exact ⟨_, _, rfl⟩
    obtain ⟨A', c', ex⟩ := key
    refine .same hS (.inl ?_) .undef
    cases A' <;> simp [execOp, resolve, invoke, builtin, ex, Builtin.clear_, run_underlying hu, undef]
  · intro a zs σ' h0 eA hz hw
    subst eA
    obtain ⟨i, z, hi, hz1, hf, hzs, rfl⟩ := zerosOf_val hz
    rcases hx.sl_inv with ⟨_, rfl, _⟩ | ⟨b, N, h1, h2, h⟩
    · exact absurd rfl h0
    · have ex : ∃ c', ρ' x = .slice (some ⟨b, a.off, none⟩) n c' := by
        rcases h with ⟨_, ex⟩ | ⟨_, _, c', _, _, _, _, _, _, _, ex⟩
        · exact ⟨_, ex⟩
        · exact ⟨_, ex⟩
      obtain ⟨c', ex⟩ := ex
      have hvv : ValL μ (List.replicate n z.cells.toList).flatten (List.replicate n z.cells.toList).flatten := ⟨rfl, fun j v v' e1 e2 => by
        rw [e1] at e2; cases e2
        exact made_all (μ := μ) z.cells n (fun j v h => flat_cells hf h) j v e1⟩
      obtain ⟨_, g1, g2, g3, _, g5, g6, g7⟩ := write_sim hS h2 hw hvv
      have hst := run_storeCells_cells (P := P) b a.off _ 0 w (by simpa using g5) (by simpa using g6) (hvv.oneCell g7)
      have hzc : (Builtin.zeroCells z.cells n).toList = (List.replicate n z.cells.toList).flatten := by
        rw [← made_eq]; rfl
      refine ⟨_, _, μ, .inl ?_, .undef, g1, g2, g3⟩
      simp only [Nat.add_zero] at hst
      cases n with
      | zero => exact absurd rfl h0
      | succ n => simp [execOp, resolve, invoke, builtin, ex, Builtin.clear_, run_underlying hu, undef, zeroValue, typeInfo, hi, hz1, hzc, hst]
end
end Go.Proofs.Ytenbclcfhjdcaaa.AM
