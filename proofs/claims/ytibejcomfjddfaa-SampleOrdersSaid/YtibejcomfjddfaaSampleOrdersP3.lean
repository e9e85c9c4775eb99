/- What the proof of SampleOrders rests on, part 3 of 7. -/
import Derived.Test.YtibejcomfjddfaaSampleOrdersP2
import Derived.Laws.Externs
import Derived.Lib.Overlaps
section
set_option maxHeartbeats 8000000
set_option linter.unusedVariables false
set_option linter.unusedSimpArgs false

/- slices.Insert over the abstract machine: copies, slices of a known capacity, slices.overlaps. -/
namespace Go.Proofs.Ytibejcomfjddfaa.AM
open Go
section
variable {P : Program} {prim : CallF} {σ σ' τ : Heap} {v v' : Value} {e e' : Env} {ops : Array Oper}
variable {dst : Option Tmp} {type : TypeId} {pos : String} {after : Array Edge} {guard : Option (Nat × Bool)}
/-- A copy. -/
def aCopy (P : Program) (t tx : TypeId) (d s : Value) (σ : Heap) : Option (Value × Heap) := match P.underlying t, d with
  | some (.slice e), .slice A n _ => match szOf P e with
    | some size => match (match s with | .slice _ _ _ => srcOf P σ size tx s | _ => none) with
      | some (m, xs) =>
        if Nat.min m n = 0 then some (.int .i64 0, σ) else
        match A with
        | some a => (writeN σ a (xs.take (Nat.min m n * size))).map fun σ' => (.int .i64 (Nat.min m n : Nat), σ')
        | none => none
      | none => none
    | none => none
  | _, _ => none
@[simp ↓] theorem step_copy {d s : Operand} {t tx : TypeId} {R : Value → Heap → Prop} : StepR P prim false ops ⟨dst, .call { callee := .builtin .copy, args := #[d, s], argTypes := #[t, tx] }, type, pos, after, none⟩ e σ R =
    @VA (aCopy P t tx (ev e d) (ev e s) σ) ⟨R⟩ := rfl
theorem copy_eq {t tx te size l o n c lx ox m cx r : Nat} {cells xs : List Value} (ht : P.underlying t = some (.slice te)) (htx : P.underlying tx = some (.slice te)) (hs : szOf P te = some size)
    (hx : readN σ ⟨lx, ox, none⟩ (m * size) = some xs) (hl : σ[l]? = some ⟨cells, .full⟩) (hr : Nat.min m n = r) (h0 : 0 < r) (hb : o + r * size ≤ cells.length) (hc : (xs.take (r * size)).all cellB = true) :
    aCopy P t tx (.slice (some ⟨l, o, none⟩) n c) (.slice (some ⟨lx, ox, none⟩) m cx) σ = some (.int .i64 r, σ.set l ⟨splice cells o (xs.take (r * size)), .full⟩) := by
  have hlen : (xs.take (r * size)).length = r * size := by
    unfold readN at hx
    split at hx
    · rename_i b hb'
      split at hx
      · rename_i hd
        cases hx
        rw [List.length_take, List.length_take, List.length_drop, Nat.min_eq_left]
        have : r ≤ m := by rw [← hr]; exact Nat.min_le_left _ _
        have := Nat.mul_le_mul_right size this
        omega
      · cases hx
    · cases hx
  unfold aCopy
  simp only [ht, hs, srcOf, htx, hx, Option.map_some, hr]
  rw [if_neg (by omega)]
  rw [writeN_eq, hl, writeB_full, if_pos ⟨by rw [hlen]; exact hb, hc⟩]
  rfl
theorem capOf_small {C : Nat} (h : C ≤ maxLen) : capOf C = .exact C := capOf_exact_eq (maxLen_top h)
theorem sl_lo {t te size l o n C i : Nat} (ht : P.underlying t = some (.slice te)) (hs : szOf P te = some size) (hC : C < top) (hi : i ≤ n) (hn : n ≤ C) :
    ∃ c', c' ≤ C ∧ aSlice P t (.slice (some ⟨l, o, none⟩) n C) (some (.int .i64 (i : Nat))) none none = some (.slice (some ⟨l, if C = i then o else o + i * size, none⟩) (n - i) c') := by
  refine ⟨C - i, Nat.sub_le _ _, ?_⟩
  unfold aSlice
  simp only [intOpt, ht, hs, capOf_exact_eq hC, bounds]
  rw [if_pos (by omega)]
  simp only [Option.map_some, Int.toNat_natCast, Addr.add_lit]
  by_cases h : C = i <;> simp [h]
theorem sl_hi {t te size l o n C h : Nat} (ht : P.underlying t = some (.slice te)) (hs : szOf P te = some size) (hC : C < top) (hh : h ≤ C) :
    aSlice P t (.slice (some ⟨l, o, none⟩) n C) none (some (.int .i64 (h : Nat))) none = some (.slice (some ⟨l, o, none⟩) h C) := by
  unfold aSlice
  simp only [intOpt, ht, hs, capOf_exact_eq hC, bounds]
  rw [if_pos (by omega)]
  simp
theorem sl_unk0 {t te size l n i c : Nat} (ht : P.underlying t = some (.slice te)) (hs : szOf P te = some size) (hc : capOf c = .unk size n) (hi : i < n) :
    ∃ c', aSlice P t (.slice (some ⟨l, 0, none⟩) n c) (some (.int .i64 (i : Nat))) none none = some (.slice (some ⟨l, i * size, none⟩) (n - i) c') := by
  unfold aSlice
  simp only [intOpt, ht, hs, hc, bounds]
  rw [if_pos (by omega)]
  simp only [Int.toNat_natCast, Option.isSome_none, Bool.false_eq_true, if_false, Addr.add_lit, Nat.zero_add]
  by_cases h : i = 0
  · subst h
    refine ⟨c, ?_⟩
    rw [if_pos rfl, Nat.zero_mul, Nat.sub_zero]
  · refine ⟨unk size (n - i), ?_⟩
    rw [if_neg h, if_pos ⟨hi, trivial⟩]
theorem sl_unk {t te size l n i : Nat} (ht : P.underlying t = some (.slice te)) (hs : szOf P te = some size) (hn : n < top) (hz : size < 4294967296) (hi : i < n) :
    ∃ c', aSlice P t (.slice (some ⟨l, 0, none⟩) n (unk size n)) (some (.int .i64 (i : Nat))) none none = some (.slice (some ⟨l, i * size, none⟩) (n - i) c') := sl_unk0 ht hs (capOf_unk_eq hn hz) hi
/-- append where the capacity is known. -/
theorem app_room {t tx te size bytes : Nat} {z : Value} {l n C lx ox m cx : Nat} {cells xs : List Value} (ht : P.underlying t = some (.slice te)) (htx : P.underlying tx = some (.slice te)) (hs : szOf P te = some size) (hby : byOf P te = some bytes) (hz : zeroOf P te = some z)
    (hzs : z.cells.size = size) (h0 : size ≠ 0) (h1 : size ≤ 1048576) (h2 : bytes ≤ 4096) (hnm : n + m ≤ 17179869184) (hm : m ≠ 0) (hC : C < top) (hfit : n + m ≤ C)
    (hx : readN σ ⟨lx, ox, none⟩ (m * size) = some xs) (hxc : xs.all cellB = true) (hl : σ[l]? = some ⟨cells, .full⟩) (hb : n * size + xs.length ≤ cells.length) :
    aAppend P false t tx (.slice (some ⟨l, 0, none⟩) n C) (.slice (some ⟨lx, ox, none⟩) m cx) σ = some (.slice (some ⟨l, 0, none⟩) (n + m) C, σ.set l ⟨splice cells (n * size) xs, .full⟩) := by
  unfold aAppend
  simp only [ht, hs, hby, hz, srcOf, htx, hx, Option.map_some, capOf_exact_eq hC]
  rw [if_neg (by simp only [Decidable.not_not]; exact ⟨h0, hzs, h1, h2, hnm, hxc⟩), if_pos hfit, if_neg hm]
  simp only [Bool.false_eq_true, if_false, Addr.add_lit, Nat.zero_add]
  rw [writeN_eq, hl, writeB_full, if_pos ⟨hb, hxc⟩]
  rfl
theorem app_grow {t tx te size bytes : Nat} {z : Value} {l o n C lx ox m cx : Nat} {olds xs : List Value} (ht : P.underlying t = some (.slice te)) (htx : P.underlying tx = some (.slice te)) (hs : szOf P te = some size) (hby : byOf P te = some bytes) (hz : zeroOf P te = some z)
    (hzs : z.cells.size = size) (h0 : size ≠ 0) (h1 : size ≤ 1048576) (h2 : bytes ≤ 4096) (hnm : n + m ≤ 17179869184) (hC : C < top) (hfit : ¬ n + m ≤ C)
    (hx : readN σ ⟨lx, ox, none⟩ (m * size) = some xs) (hxc : xs.all cellB = true) (ho : readN σ ⟨l, o, none⟩ (n * size) = some olds) (hoc : olds.all cellB = true) :
    aAppend P false t tx (.slice (some ⟨l, o, none⟩) n C) (.slice (some ⟨lx, ox, none⟩) m cx) σ = some (.slice (some ⟨σ.length, 0, none⟩) (n + m) (unk size (n + m)), σ ++ [⟨olds ++ xs, .full⟩]) := by
  unfold aAppend
  simp only [ht, hs, hby, hz, srcOf, htx, hx, Option.map_some, capOf_exact_eq hC]
  rw [if_neg (by simp only [Decidable.not_not]; exact ⟨h0, hzs, h1, h2, hnm, hxc⟩), if_neg hfit, ho]
  simp only [newBlk]
  rw [if_pos (by simp [hoc, hxc])]
  rfl
theorem zeros_grow {t te size bytes : Nat} {zs olds : List Value} {kk : IntKind} {l o n C k : Nat} (ht : P.underlying t = some (.slice te)) (hs : szOf P te = some size) (hby : byOf P te = some bytes) (hz : zerosOf P te k = some zs) (hzc : zs.all cellB = true)
    (h0 : 0 < size) (h1 : size ≤ 1048576) (h2 : bytes ≤ 4096) (hk : 0 < k) (hnm : n + k ≤ 17179869184) (hfit : C < n + k) (ho : readN σ ⟨l, o, none⟩ (n * size) = some olds) (hoc : olds.all cellB = true) :
    aZeros P t (.slice (some ⟨l, o, none⟩) n C) (.int kk (k : Nat)) σ = some (.slice (some ⟨σ.length, 0, none⟩) (n + k) (unk size (n + k)), σ ++ [⟨olds ++ zs, .full⟩]) := by
  unfold aZeros
  simp only [ht, hs, hby, Int.toNat_natCast, hz, ho]
  rw [if_pos ⟨by omega, hnm, h0, h1, h2, hfit⟩]
  simp only [newBlk]
  rw [if_pos (by simp [hoc, hzc])]
  rfl
end
/-- slices.overlaps at two slices in two blocks, the second of which is unmarked: no. -/
def ovA (P : Program) (ov : List FuncId) : CallF := fun f args σ => if ov.contains f = true then (match args.toList with
  | [.slice (some a) n c, .slice (some b) m d] => match σ[a.block]?, σ[b.block]? with
    | some x, some y => if x.perm ≠ .dead ∧ y.perm = .full ∧ a.block ≠ b.block ∧ 0 < y.cells.length ∧ 0 < x.cells.length ∧ c < dng ∧ d < dng then some (.bool false, σ) else none
    | _, _ => none
  | _ => none) else none
theorem run_overlaps_apart2 {P : Program} (w : World) (tS tR e : TypeId) (ht : P.underlying tS = some (.slice e)) (size : Nat) (hz : ∀ w, (Go.sizeOf e).run P w = .ok size w)
    (a b : Addr) (la ca lb cb : Nat) (hne : a.block ≠ b.block) (tA tB : TypeId) (kA kB : Nat)
    (hsa : w.shape? a.block = some (tA, kA)) (hsb : w.shape? b.block = some (tB, kB)) (hkA : kA ≠ 0)
    (hfa : w.frozen? b = false) (hfe : w.frozen? { block := b.block, off := kB } = false) :
    (Extern.SlicesOverlaps.overlaps #[tS, tS] #[tR] #[.slice (some a) la ca, .slice (some b) lb cb]).run P w = .ok (.bool false) w := by
  have hnb : (a.block != b.block) = true := by simpa using hne
  have hnb' : (a.block == b.block) = false := by simpa using hne
  change Sem.run P (α := Value) (do
    let some t := (#[tS, tS] : Array TypeId)[0]? | stuck "slices.overlaps: no parameter types"
    let .slice elem ← underlying t | stuck "slices.overlaps: slice type expected"
    let size ← sizeOf elem
    match (some a : Option Addr), (some b : Option Addr) with
    | some a, some b =>
      if la = 0 ∨ lb = 0 ∨ size = 0 then pure (Value.bool false)
      else if a.block != b.block && (← frozen a) && (← frozen b) then unsupported .addressObserved
      else do
        if a.block != b.block then do
          noView a; noView b
          if ← mayBeOne a b then return Value.bool ((← choose (.extern "sameAddr.stringBytes" 2)) == 1)
        pure (Value.bool (a.block == b.block && a.off < b.off + lb * size && b.off < a.off + la * size))
    | _, _ => pure (Value.bool false)) w = _
  by_cases h0 : la = 0 ∨ lb = 0 ∨ size = 0
  · simp [run_underlying ht, hz, h0]
  · cases kA with
    | zero => exact absurd rfl hkA
    | succ kA =>
      simp [run_underlying ht, hz, h0, hnb, hnb', frozen, noView, viewAt, mayBeOne, stringish, shape, Sem.run, hsa, hsb, hfa, hfe]
end Go.Proofs.Ytibejcomfjddfaa.AM
end
section
set_option maxHeartbeats 8000000
set_option linter.unusedVariables false
set_option linter.unusedSimpArgs false

/- slices.Insert over the abstract machine: what it asks, and that its answer may be given at once. -/
namespace Go.Proofs.Ytibejcomfjddfaa.AM
open Go Go.RowKit
/-- What is asked of a function that is slices.overlaps. -/
def OvF (P : Program) (f : FuncId) : Prop := ∃ fn tS tR e size, P.funcs[f]? = some fn ∧ (fn.name == "runtime.NumGoroutine") = false ∧ fn.body.isNone = true ∧ Extern.findNext fn = none ∧
  Extern.find fn = some (Extern.SlicesOverlaps.overlaps #[tS, tS] #[tR]) ∧ P.underlying tS = some (.slice e) ∧ szOf P e = some size
section
variable {P : Program} {prim : CallF} {μ μ' : Mu} {σ τ : Heap} {w w' : World} {v v' : Value}
theorem slice_at {a : Addr} {n c : Nat} (h : Val μ (.slice (some a) n c) v') (hc : c < dng) : ∃ b N c', a.spot = none ∧ μ a.block = some (b, N) ∧ v' = .slice (some ⟨b, a.off, none⟩) n c' := by
  rcases h.sl_inv with ⟨hd, _⟩ | ⟨b, N, h1, h2, ⟨_, e⟩ | ⟨_, _, c', _, _, _, _, _, _, _, e⟩⟩
  · omega
  · exact ⟨b, N, _, h1, h2, e⟩
  · exact ⟨b, N, _, h1, h2, e⟩
theorem ov_ok {ov : List FuncId} (h : ∀ f, ov.contains f = true → OvF P f) : CallOk P (ovA P ov) := by
  intro f args σ v σ' hc
  unfold ovA at hc
  split at hc
  case isFalse => cases hc
  rename_i hf
  obtain ⟨fn, tS, tR, e, size, g1, g2, g3, g4, g5, g6, g7⟩ := h f hf
  split at hc
  · rename_i a n c b m d hargs
    split at hc
    · rename_i x y hx hy
      split at hc
      · rename_i hcond
        obtain ⟨q1, q2, q3, q4, q5, q6, q7⟩ := hcond
        cases hc
        refine ⟨.inr ⟨rfl, fun args' μ w hv hS => ?_⟩, .refl _, fun ⟨fn', c', k1, k2, _⟩ => ?_⟩
        · rw [hargs] at hv
          obtain ⟨hlen, hget⟩ := hv
          obtain ⟨s1, s2, hs⟩ : ∃ s1 s2, args'.toList = [s1, s2] := by
            match hq : args'.toList, hlen with
            | [s1, s2], _ => exact ⟨s1, s2, rfl⟩
          have hs' : args' = #[s1, s2] := by rw [← Array.toArray_toList (xs := args'), hs]
          subst hs'
          obtain ⟨b1, N1, c1, e1, e2, rfl⟩ := slice_at (hget 0 _ s1 rfl rfl) (by assumption)
          obtain ⟨b2, N2, c2, e3, e4, rfl⟩ := slice_at (hget 1 _ s2 rfl rfl) (by assumption)
          obtain ⟨C1, el1, fr1, k1, k2, k3, k4⟩ := hS.blk _ _ _ _ e2 hx q1
          obtain ⟨C2, el2, fr2, k5, k6, k7, k8⟩ := hS.blk _ _ _ _ e4 hy (by rw [q2]; simp)
          have hfr := k7 q2
          have hne : b1 ≠ b2 := fun eb => by
            subst eb
            exact hS.inj b.block a.block b1 N2 N1 (Ne.symm q3) e4 e2 ⟨y, hy, by rw [q2]; rfl⟩ (.inl ⟨x, hx, q1⟩)
          have hz : C1.size ≠ 0 := fun e0 => by
            obtain ⟨v0, h0, _⟩ := k4 0 _ (List.getElem?_eq_getElem q5)
            have := (Array.getElem?_eq_some_iff.1 h0).1
            omega
          refine ⟨.bool false, ?_, .scal rfl⟩
          rw [run_callFunc_extern g1 g2 g3 g4 g5,
            run_overlaps_apart2 w tS tR e g6 size (fun w => szOf_run g7 w) ⟨b1, a.off, none⟩ ⟨b2, b.off, none⟩ n c1 m c2 hne el1 el2 C1.size C2.size (by simp [World.shape?, k1]) (by simp [World.shape?, k5]) hz
              (by unfold frOk at hfr; simp [World.frozen?, k5]; omega) (by unfold frOk at hfr; simp [World.frozen?, k5]; omega)]
          rfl
        · rw [g1] at k1; cases k1
          rw [k2] at g3; cases g3
      · cases hc
    · cases hc
  · cases hc
/-- The cells behind an insertion. -/
def insC (size i n : Nat) (cells xs : List Value) : List Value := cells.take (i * size) ++ xs ++ (cells.take (n * size)).drop (i * size)
def InsPost (size n m i C l : Nat) (cells xs : List Value) (σ : Heap) (u : Value) (τ : Heap) : Prop := ∃ k cc rest, u = .slice (some ⟨k, 0, none⟩) (n + m) cc ∧ τ[k]? = some ⟨insC size i n cells xs ++ rest, .full⟩ ∧
    (∀ j, j < σ.length → j ≠ l → τ[j]? = σ[j]?) ∧ (k = l ∧ τ.length = σ.length ∧ cc = C ∧ n + m ≤ C ∨ k = σ.length ∧ τ.length = σ.length + 1 ∧ cc = unk size (n + m))
def InsRun (P : Program) (prim : CallF) (f : FuncId) (size : Nat) : Prop := ∀ (σ : Heap) (l lx ox n m i C cx : Nat) (cells xs : List Value) (y : Blk), σ[l]? = some ⟨cells, .full⟩ → σ[lx]? = some y → y.perm ≠ .dead → 0 < y.cells.length → lx ≠ l →
  readN σ ⟨lx, ox, none⟩ (m * size) = some xs → xs.all cellB = true → (cells.take (n * size)).all cellB = true → i ≤ n → 0 < m → n + m ≤ 17179869184 → n ≤ C → C ≤ maxLen → C * size ≤ cells.length → cx < dng →
  AC P prim f #[.slice (some ⟨l, 0, none⟩) n C, .int .i64 (i : Nat), .slice (some ⟨lx, ox, none⟩) m cx] σ (InsPost size n m i C l cells xs σ)
/-- At nothing: the nil slice, or one without room. -/
def InsRun0 (P : Program) (prim : CallF) (f : FuncId) (size : Nat) : Prop := ∀ (σ : Heap) (A : Option Addr) (lx ox m cx : Nat) (xs : List Value), (A = none ∨ ∃ l o, A = some ⟨l, o, none⟩ ∧ readN σ ⟨l, o, none⟩ 0 = some []) →
  readN σ ⟨lx, ox, none⟩ (m * size) = some xs → xs.all cellB = true → 0 < m → m ≤ 17179869184 →
  AC P prim f #[.slice A 0 0, .int .i64 0, .slice (some ⟨lx, ox, none⟩) m cx] σ fun u τ => u = .slice (some ⟨σ.length, 0, none⟩) m (unk size m) ∧ τ = σ ++ [⟨xs, .full⟩]
def insCap (size n total c : Nat) : Bool := match capOf c with
  | .exact C => decide (n ≤ C ∧ C * size ≤ total ∧ C ≤ maxLen)
  | .unk es _ => es == size
  | .dng => false
/-- slices.Insert, at once. -/
def insA (f : FuncId) (size : Nat) : CallF := fun g args σ => if g = f then (match args.toList with
  | [.slice A n c, .int .i64 i, .slice (some ⟨lx, ox, none⟩) m cx] => match readN σ ⟨lx, ox, none⟩ (m * size), σ[lx]? with
    | some xs, some y =>
      if 0 < m ∧ 0 ≤ i ∧ i ≤ n ∧ n + m ≤ 17179869184 ∧ xs.all cellB = true ∧ y.perm ≠ .dead ∧ 0 < y.cells.length ∧ cx < dng ∧ 0 < size ∧ size ≤ 1048576 then
        (if n = 0 ∧ c = 0 then (match A with
          | none => some (.slice (some ⟨σ.length, 0, none⟩) m (unk size m), σ ++ [⟨xs, .full⟩])
          | some ⟨l, o, none⟩ => if (readN σ ⟨l, o, none⟩ 0).isSome = true then some (.slice (some ⟨σ.length, 0, none⟩) m (unk size m), σ ++ [⟨xs, .full⟩]) else none
          | _ => none)
        else match A with
          | some ⟨l, 0, none⟩ => match σ[l]? with
            | some x => if x.perm = .full ∧ lx ≠ l ∧ (x.cells.take (n * size)).all cellB = true ∧ n * size ≤ x.cells.length ∧ insCap size n x.cells.length c = true then some (.slice (some ⟨σ.length, 0, none⟩) (n + m) (unk size (n + m)), kill σ l ++ [⟨insC size i.toNat n x.cells xs, .full⟩]) else none
            | none => none
          | _ => none)
      else none
    | _, _ => none
  | _ => none) else none
theorem chan_val {r : Nat} (v : Value) : Val μ (.chan (some r)) v := .junk r v
/-- All cells of a block laid open. -/
def openB (x : Blk) (N : Nat) : Blk := ⟨x.cells ++ List.replicate (N - x.cells.length) (.chan (some 0)), x.perm⟩
theorem holds_len {x : Blk} {N : Nat} {o : Option Obj} (h : Holds μ x N o) : x.cells.length ≤ N := by
  obtain ⟨c, elem, fr, k1, k2, k3, k4⟩ := h
  rcases Nat.eq_zero_or_pos x.cells.length with h0 | h0
  · omega
  · obtain ⟨v', h1, _⟩ := k4 (x.cells.length - 1) _ (List.getElem?_eq_getElem (by omega))
    have := (Array.getElem?_eq_some_iff.1 h1).1
    omega
theorem open_sim {l b N : Nat} {x : Blk} (hS : Sim μ σ w.heap) (hx : σ[l]? = some x) (hm : μ l = some (b, N)) (hp : x.perm = .full) : Sim μ (σ.set l (openB x N)) w.heap := by
  have hlt := get_lt hx
  have gs : ∀ j, (σ.set l (openB x N))[j]? = if j = l then some (openB x N) else σ[j]? := fun j => by
    rw [List.getElem?_set]
    by_cases e : l = j
    · subst e; simp [hlt]
    · rw [if_neg e, if_neg (Ne.symm e)]
  have fullO : ∀ j, isFull (σ.set l (openB x N)) j → isFull σ j := fun j ⟨y, hy, hyp⟩ => by
    rw [gs] at hy
    split at hy
    · rename_i e; cases hy; exact ⟨x, by rw [e]; exact hx, hyp⟩
    · exact ⟨y, hy, hyp⟩
  have aliveO : ∀ j, alive (σ.set l (openB x N)) j → alive σ j := fun j ⟨y, hy, hyp⟩ => by
    rw [gs] at hy
    split at hy
    · rename_i e; cases hy; exact ⟨x, by rw [e]; exact hx, hyp⟩
    · exact ⟨y, hy, hyp⟩
  refine ⟨hS.lt, fun l1 l2 b' N1 N2 hne h1 h2 hf ha => hS.inj l1 l2 b' N1 N2 hne h1 h2 (fullO _ hf) (ha.imp (aliveO _) (by simp)), fun j b' N' y hj hy hd => ?_, hS.glob⟩
  rw [gs] at hy
  split at hy
  · rename_i e
    subst e
    cases hy
    rw [hm] at hj; cases hj
    have hh := hS.blk j _ _ x hm hx (by rw [hp]; simp)
    have hl := holds_len hh
    obtain ⟨c, elem, fr, k1, k2, k3, k4⟩ := hh
    refine ⟨c, elem, fr, k1, k2, k3, fun i v hv => ?_⟩
    unfold openB at hv
    rcases Nat.lt_or_ge i x.cells.length with hi | hi
    · rw [List.getElem?_append_left hi] at hv
      exact k4 i v hv
    · have := get_lt hv
      simp only [List.length_append, List.length_replicate] at this
      rw [List.getElem?_append_right hi, List.getElem?_replicate, if_pos (by omega)] at hv
      cases hv
      exact ⟨_, Array.getElem?_eq_getElem (show i < c.size by omega), .junk 0 _⟩
  · exact hS.blk j b' N' y hj hy hd
end
end Go.Proofs.Ytibejcomfjddfaa.AM
end
section
set_option maxHeartbeats 8000000
set_option linter.unusedVariables false
set_option linter.unusedSimpArgs false

/- slices.Insert over the abstract machine: its answer may be given at once. -/
namespace Go.Proofs.Ytibejcomfjddfaa.AM
open Go Go.RowKit
section
variable {P : Program} {prim : CallF} {μ μ' : Mu} {σ τ : Heap} {w w' : World} {v v' : Value}
/-- Where a call has written on in a block, or into a new one: told as handed on. -/
theorem rebase {l k b0 N0 bk Nk : Nat} {x : Blk} {σx : Heap} {cells rest : List Value} (hS : Sim μ σ w.heap) (hU : μ σ.length = none) (hx : σ[l]? = some x) (hp : x.perm = .full) (hm : μ l = some (b0, N0))
    (hσx : σx = σ.set l (openB x N0)) (hle : Le σx τ) (hT : Sim μ' τ w'.heap) (hF : Fr false μ σx w μ' τ w') (hk : k = l ∧ τ.length = σ.length ∨ k = σ.length ∧ τ.length = σ.length + 1)
    (hkc : τ[k]? = some ⟨cells ++ rest, .full⟩) (hold : ∀ j, j < σ.length → j ≠ l → τ[j]? = σ[j]?) (hmk : μ' k = some (bk, Nk)) :
    ∃ μt : Mu, (∀ j p, μ' j = some p → μt j = some p) ∧ μt σ.length = some (bk, Nk) ∧ Sim μt (kill σ l ++ [⟨cells, .full⟩]) w'.heap ∧ Fr false μ σ w μt (kill σ l ++ [⟨cells, .full⟩]) w' := by
  have hll := get_lt hx
  have lenx : σx.length = σ.length := by rw [hσx]; simp
  have hfull : isFull σ l := ⟨x, hx, by rw [hp]; rfl⟩
  let μt : Mu := fun j => if j = σ.length then some (bk, Nk) else μ j
  have new : μt σ.length = some (bk, Nk) := if_pos rfl
  have oldt : ∀ j, j ≠ σ.length → μt j = μ j := fun j h => if_neg h
  have back : ∀ j p, μ' j = some p → μ j = some p ∨ j = σ.length := fun j p h => by
    rcases hF.new j p.1 p.2 h with h | ⟨h1, h2, _⟩
    · exact .inl h
    · rw [lenx] at h1; right; omega
  have fwd : ∀ j p, μ' j = some p → μt j = some p := fun j p h => by
    rcases back j p h with h' | h'
    · have hj : j ≠ σ.length := fun e => by rw [e, hU] at h'; cases h'
      rw [oldt j hj]; exact h'
    · subst h'
      rcases hk with ⟨_, h2⟩ | ⟨h1, _⟩
      · rcases hF.new _ p.1 p.2 h with h3 | ⟨_, h4, _⟩
        · rw [hU] at h3; cases h3
        · omega
      · rw [h1] at hmk; rw [hmk] at h; cases h; exact new
  have ext : ∀ j p, μ j = some p → μt j = some p := fun j p h => fwd j p (hF.ext j p h)
  have kfull : isFull τ k := ⟨_, hkc, rfl⟩
  have kget : ∀ j, (kill σ l ++ [(⟨cells, .full⟩ : Blk)])[j]? = if j = σ.length then some ⟨cells, .full⟩ else (kill σ l)[j]? := fun j => by
    rcases Nat.lt_trichotomy j σ.length with h | h | h
    · rw [if_neg (by omega), List.getElem?_append_left (by rw [kill_len]; exact h)]
    · subst h
      rw [if_pos rfl, List.getElem?_append_right (by rw [kill_len]; exact Nat.le_refl _)]
      simp [kill_len]
    · rw [if_neg (by omega), List.getElem?_eq_none (by simp [kill_len]; omega), List.getElem?_eq_none (by rw [kill_len]; omega)]
  have gold : ∀ j (y : Blk), j ≠ σ.length → (kill σ l ++ [(⟨cells, .full⟩ : Blk)])[j]? = some y → y.perm ≠ .dead → j ≠ l ∧ σ[j]? = some y ∧ τ[j]? = some y := fun j y hj hy hd => by
    rw [kget, if_neg hj, kill_get] at hy
    cases hz : σ[j]? with
    | none => rw [hz] at hy; simp at hy
    | some z =>
      by_cases e : j = l
      · subst e
        rw [hz] at hy
        simp at hy
        subst hy
        exact absurd rfl hd
      · rw [hz] at hy
        simp [Ne.symm e] at hy
        subst hy
        exact ⟨e, rfl, by rw [hold j (get_lt hz) e]; exact hz⟩
  have lenS : (kill σ l ++ [(⟨cells, .full⟩ : Blk)]).length = σ.length + 1 := by simp [kill_len]
  refine ⟨μt, fwd, new, ⟨fun j b N h => ?_, fun l1 l2 b N1 N2 hne h1 h2 hf ha => ?_, fun j b N y h hy hd => ?_, globExt hS.glob ext⟩, ⟨ext, fun j b N h => ?_, fun b hb hn => ?_, fun h => (by cases h), hF.size, hF.os, hF.tape, hF.output⟩⟩
  · by_cases e : j = σ.length
    · rw [e, new] at h; cases h; exact hT.lt k _ _ hmk
    · rw [oldt j e] at h; exact hT.lt j b N (hF.ext j _ h)
  · have far : ∀ j, j ≠ σ.length → (alive (kill σ l ++ [(⟨cells, .full⟩ : Blk)]) j ∨ (kill σ l ++ [(⟨cells, .full⟩ : Blk)]).length ≤ j) → (alive τ j ∨ τ.length ≤ j) ∧ j ≠ k := fun j hj ha => by
      rcases ha with ⟨y, hy, hd⟩ | ha
      · obtain ⟨g1, g2, g3⟩ := gold j y hj hy hd
        exact ⟨.inl ⟨y, g3, hd⟩, by omega⟩
      · rw [lenS] at ha
        exact ⟨.inr (by omega), by omega⟩
    by_cases e1 : l1 = σ.length
    · rw [e1, new] at h1; cases h1
      have e2 : l2 ≠ σ.length := fun e => hne (e1.trans e.symm)
      rw [oldt l2 e2] at h2
      obtain ⟨f1, f2⟩ := far l2 e2 ha
      exact hT.inj k l2 _ _ _ (Ne.symm f2) hmk (hF.ext _ _ h2) kfull f1
    · rw [oldt l1 e1] at h1
      obtain ⟨y, hy, hyp⟩ := hf
      have hd : y.perm ≠ .dead := fun e => by rw [e] at hyp; cases hyp
      obtain ⟨g1, g2, g3⟩ := gold l1 y e1 hy hd
      by_cases e2 : l2 = σ.length
      · rw [e2, new] at h2; cases h2
        exact hT.inj l1 k _ _ _ (by have := get_lt g2; omega) (hF.ext _ _ h1) hmk ⟨y, g3, hyp⟩ (.inl kfull.alive)
      · rw [oldt l2 e2] at h2
        exact hT.inj l1 l2 b N1 N2 hne (hF.ext _ _ h1) (hF.ext _ _ h2) ⟨y, g3, hyp⟩ (far l2 e2 ha).1
  · by_cases e : j = σ.length
    · subst e
      rw [new] at h; cases h
      rw [kget, if_pos rfl] at hy; cases hy
      obtain ⟨c, elem, fr, k1, k2, k3, k4⟩ := hT.blk k _ _ _ hmk hkc (by simp)
      refine ⟨c, elem, fr, k1, k2, k3, fun i u hi => ?_⟩
      obtain ⟨u', q1, q2⟩ := k4 i u (by rw [List.getElem?_append_left (get_lt hi)]; exact hi)
      exact ⟨u', q1, q2.mono fwd⟩
    · rw [oldt j e] at h
      obtain ⟨g1, g2, g3⟩ := gold j y e hy hd
      obtain ⟨c, elem, fr, k1, k2, k3, k4⟩ := hT.blk j b N y (hF.ext _ _ h) g3 hd
      refine ⟨c, elem, fr, k1, k2, k3, fun i u hi => ?_⟩
      obtain ⟨u', q1, q2⟩ := k4 i u hi
      exact ⟨u', q1, q2.mono fwd⟩
  · by_cases e : j = σ.length
    · subst e
      rw [new] at h; cases h
      refine .inr ⟨Nat.le_refl _, by omega, ?_⟩
      have dl : ¬ alive (kill σ l ++ [(⟨cells, .full⟩ : Blk)]) l := fun ⟨y, hy, hd⟩ => (gold l y (by omega) hy hd).1 rfl
      rcases hk with ⟨h1, _⟩ | ⟨h1, _⟩
      · subst h1
        have := hF.ext _ _ hm
        rw [hmk] at this; cases this
        exact .inr ⟨k, hm, hfull, dl⟩
      · subst h1
        rcases hF.new _ _ _ hmk with h3 | ⟨_, _, h3 | ⟨l0, q1, ⟨y, q2, q3⟩, q4⟩⟩
        · rw [hU] at h3; cases h3
        · exact .inl h3
        · have hl0 : l0 < σ.length := by rw [← lenx]; exact get_lt q2
          by_cases e0 : l0 = l
          · subst e0; exact .inr ⟨l0, q1, hfull, dl⟩
          · exfalso
            refine q4 ⟨y, ?_, fun e => by rw [e] at q3; cases q3⟩
            rw [hold l0 hl0 e0]
            rw [hσx, List.getElem?_set_ne (Ne.symm e0)] at q2
            exact q2
    · rw [oldt j e] at h; exact .inl h
  · refine hF.keep b hb fun j N h ⟨y, hy, hyp⟩ => ?_
    rw [hσx, List.getElem?_set] at hy
    split at hy
    · rename_i e
      subst e
      exact hn l N h hfull
    · exact hn j N h ⟨y, hy, hyp⟩
theorem openB_take {x : Blk} {N n : Nat} (h : n ≤ x.cells.length) : (openB x N).cells.take n = x.cells.take n := by
  unfold openB
  rw [List.take_append_of_le_length h]
theorem ins_ok {f : FuncId} {size : Nat} (hm : P.follows .mixedOrders = true) (hprim : CallOk P prim) (hbody : HasBody P f) (h1 : InsRun P prim f size) (h0 : InsRun0 P prim f size) : CallOk P (insA f size) := by
  intro g args σ v σ' hc
  unfold insA at hc
  split at hc
  case isFalse => cases hc
  rename_i hgf
  subst hgf
  split at hc
  case h_2 => cases hc
  rename_i A n c i lx ox m cx hargs
  split at hc
  case h_2 => cases hc
  rename_i xs y hxs hy
  split at hc
  case isFalse => cases hc
  rename_i hcond
  obtain ⟨q1, q2, q3, q4, q5, q6, q7, q8, q9, q10⟩ := hcond
  have hargs' : args = #[.slice A n c, .int .i64 i, .slice (some ⟨lx, ox, none⟩) m cx] := by rw [← Array.toArray_toList (xs := args), hargs]
  subst hargs'
  obtain ⟨j, rfl⟩ : ∃ j : Nat, i = j := ⟨i.toNat, by omega⟩
  split at hc
  · rename_i hn0
    obtain ⟨rfl, rfl⟩ := hn0
    have hj : j = 0 := by omega
    subst hj
    have key : (A = none ∨ ∃ l o, A = some ⟨l, o, none⟩ ∧ readN σ ⟨l, o, none⟩ 0 = some []) ∧ v = .slice (some ⟨σ.length, 0, none⟩) m (unk size m) ∧ σ' = σ ++ [⟨xs, .full⟩] := by
      split at hc
      · cases hc; exact ⟨.inl rfl, rfl, rfl⟩
      · rename_i l o
        split at hc
        · rename_i hr
          cases hc
          refine ⟨.inr ⟨l, o, rfl, ?_⟩, rfl, rfl⟩
          cases hq : readN σ ⟨l, o, none⟩ 0 with
          | none => rw [hq] at hr; cases hr
          | some q =>
            unfold readN at hq
            split at hq
            · split at hq
              · cases hq; simp
              · cases hq
            · cases hq
        · cases hc
      · cases hc
    obtain ⟨hA, rfl, rfl⟩ := key
    obtain ⟨n, u, τ, hr, rfl, rfl⟩ := h0 σ A lx ox m cx xs hA hxs q5 q1 (by omega)
    obtain ⟨_, hle, hcall⟩ := acall_sound hm hprim n _ _ _ _ _ hr
    exact ⟨.inl hbody, hle, fun _ => hcall hbody⟩
  · rename_i hn0
    split at hc
    case h_2 => cases hc
    rename_i l
    split at hc
    case h_2 => cases hc
    rename_i x hx
    split at hc
    case isFalse => cases hc
    rename_i hcx
    obtain ⟨p1, p2, p3, p4, p5⟩ := hcx
    cases hc
    refine ⟨.inl hbody, Le.hand hx p1, fun _ args' μ w hv hS hU => ?_⟩
    have hU0 : μ σ.length = none := hU _ (Nat.le_refl _) (by simp [kill_len])
    obtain ⟨hlen, hget⟩ := hv
    obtain ⟨s1, s2, s3, hs⟩ : ∃ s1 s2 s3, args'.toList = [s1, s2, s3] := by
      match hq : args'.toList, hlen with
      | [s1, s2, s3], _ => exact ⟨s1, s2, s3, rfl⟩
    have hs' : args' = #[s1, s2, s3] := by rw [← Array.toArray_toList (xs := args'), hs]
    subst hs'
    have v1 := hget 0 _ s1 rfl rfl
    have v2 := hget 1 _ s2 rfl rfl
    have v3 := hget 2 _ s3 rfl rfl
    -- the capacity that there is
    obtain ⟨b0, N0, C, hm0, hsv, hnC, hCm, hCN⟩ : ∃ b0 N0 C, μ l = some (b0, N0) ∧ s1 = .slice (some ⟨b0, 0, none⟩) n C ∧ n ≤ C ∧ C ≤ maxLen ∧ C * size ≤ N0 := by
      unfold insCap at p5
      split at p5
      · rename_i C hC
        obtain ⟨rfl, hct⟩ := capOf_exact hC
        have p5 := of_decide_eq_true p5
        rcases v1.sl_inv with ⟨hd, _⟩ | ⟨b, N, h1, h2, ⟨_, e⟩ | ⟨s, lb, c', ec, _⟩⟩
        · have := dng_top; omega
        · exact ⟨b, N, C, h2, e, p5.1, p5.2.2, Nat.le_trans p5.2.1 (holds_len (hS.blk _ _ _ _ h2 hx (by rw [p1]; simp)))⟩
        · rw [ec] at hct; exact absurd hct (unk_top _ _)
      · rename_i es lb hC
        have ec0 := capOf_unk hC
        rcases v1.sl_inv with ⟨hd, _⟩ | ⟨b, N, h1, h2, ⟨hct, e⟩ | ⟨s, lb1, c', ec, g0, g1, g2, g3, g4, g5, e⟩⟩
        · rw [ec0] at hd hC; exact (unk_dng hd hC).elim
        · rw [ec0] at hct; exact absurd hct (unk_top _ _)
        · have hlt : lb < top := by
            have : lb = c % top := by
              unfold capOf at hC
              split at hC
              · cases hC
              · split at hC
                · cases hC; rfl
                · cases hC
            rw [this]; exact Nat.mod_lt _ (by simp [top])
          obtain ⟨rfl, rfl⟩ := unk_inj (ec0.symm.trans ec) hlt (maxLen_top g0)
          have he : es = size := by simpa using p5
          subst he
          exact ⟨b, N, c', h2, e, g2, g3, by simpa using g4⟩
      · cases p5
    subst hsv
    have hσx := open_sim hS hx hm0 p1
    have hgx : (σ.set l (openB x N0))[l]? = some ⟨(openB x N0).cells, .full⟩ := by
      rw [List.getElem?_set_self (get_lt hx)]
      unfold openB; rw [p1]
    have hgo : ∀ k, k ≠ l → (σ.set l (openB x N0))[k]? = σ[k]? := fun k hk => List.getElem?_set_ne (Ne.symm hk)
    have hNx : x.cells.length ≤ N0 := holds_len (hS.blk _ _ _ _ hm0 hx (by rw [p1]; simp))
    have hopen : (openB x N0).cells.length = N0 := by unfold openB; simp; omega
    obtain ⟨nn, u, τ, hr, k, cc, rest, hu, hkc, hold, hcase⟩ := h1 (σ.set l (openB x N0)) l lx ox n m j C cx (openB x N0).cells xs y hgx (by rw [hgo lx p2]; exact hy) q6 q7 p2
      (by
        have := hxs
        unfold readN at this ⊢
        simp only [hgo lx p2]
        exact this) q5 (by rw [openB_take p4]; exact p3) (by omega) q1 (by omega) hnC hCm (by rw [hopen]; exact hCN) q8
    obtain ⟨_, hle, hcall⟩ := acall_sound hm hprim nn _ _ _ _ _ hr
    have lenx : (σ.set l (openB x N0)).length = σ.length := by simp
    rw [lenx] at hcase hold
    have hiC : insC size j n (openB x N0).cells xs = insC size j n x.cells xs := by
      unfold insC
      have : j * size ≤ n * size := Nat.mul_le_mul_right _ (by omega)
      rw [openB_take p4, openB_take (by omega)]
    rw [hiC] at hkc
    refine Calls.mono (hcall hbody _ μ w ⟨rfl, fun a v0 v0' e1 e2 => ?_⟩ hσx (fun a g1 g2 => ?_)) fun e w' ⟨v', μ', he, k1, k2, k3⟩ => ?_
    · match a, e1, e2 with
      | 0, e1, e2 => cases e1; cases e2; exact .sl hm0 (maxLen_top hCm)
      | 1, e1, e2 => cases e1; cases e2; exact v2
      | 2, e1, e2 => cases e1; cases e2; exact v3
    · rw [lenx] at g1
      exact hU a g1 (by simp [kill_len]; omega)
    · rw [hu] at k1
      have hmk : ∃ bk Nk, μ' k = some (bk, Nk) ∧ ∃ C', v' = .slice (some ⟨bk, 0, none⟩) (n + m) C' ∧ n + m ≤ C' ∧ C' ≤ maxLen ∧ C' * size ≤ Nk := by
        rcases hcase with ⟨rfl, _, rfl, hfit⟩ | ⟨rfl, _, rfl⟩
        · rcases k1.sl_inv with ⟨hd, _⟩ | ⟨b, N, h1, h2, ⟨_, e⟩ | ⟨s, lb, c', ec, _⟩⟩
          · have := dng_top; have := maxLen_top hCm; omega
          · have := k3.ext _ _ hm0
            rw [h2] at this; cases this
            exact ⟨b0, N0, h2, _, e, hfit, hCm, hCN⟩
          · have := maxLen_top hCm
            rw [ec] at this; exact absurd this (unk_top _ _)
        · rcases k1.sl_inv with ⟨hd, _⟩ | ⟨b, N, h1, h2, ⟨hct, e⟩ | ⟨s, lb1, c', ec, g0, g1, g2, g3, g4, g5, e⟩⟩
          · exact (unk_dng hd (capOf_unk_eq (show n + m < top by simp only [top]; omega) (show size < 4294967296 by omega))).elim
          · exact absurd hct (unk_top _ _)
          · obtain ⟨rfl, rfl⟩ := unk_inj ec (show n + m < top by simp only [top]; omega) (maxLen_top g0)
            exact ⟨b, N, h2, c', e, g2, g3, by simpa using g4⟩
      obtain ⟨bk, Nk, hmk, C', rfl, c1, c2, c3⟩ := hmk
      obtain ⟨μt, t1, t2, t3, t4⟩ := rebase (cells := insC size j n x.cells xs) (rest := rest) hS hU0 hx p1 hm0 rfl hle k2 k3 (by rcases hcase with h | h <;> omega) hkc
        (fun a g1 g2 => by rw [hold a g1 g2, hgo a g2]) hmk
      refine ⟨_, μt, he, ?_, t3, t4⟩
      exact .slu t2 (by simp only [maxLen]; omega) c1 c1 c2 (by rw [Nat.zero_add]; exact c3) q10
end
end Go.Proofs.Ytibejcomfjddfaa.AM
end
section
set_option maxHeartbeats 8000000
set_option linter.unusedVariables false
set_option linter.unusedSimpArgs false

/- slices.Delete over the abstract machine: what is known of slices of one's own. -/
namespace Go.Proofs.Ytibejcomfjddfaa.AM
open Go
section
variable {P : Program} {prim : CallF} {σ σ' τ : Heap} {v v' : Value} {e e' : Env} {ops : Array Oper}
variable {dst : Option Tmp} {type : TypeId} {pos : String} {after : Array Edge} {guard : Option (Nat × Bool)}
/-- A capacity for at least C elements. -/
def CapG (c size C : Nat) : Prop := C < top ∧ size < 4294967296 ∧ (capOf c = .exact C ∨ capOf c = .unk size C)
theorem slG_hi {t te size l n c C h : Nat} (ht : P.underlying t = some (.slice te)) (hs : szOf P te = some size) (hC : CapG c size C) (hh : h ≤ C) :
    aSlice P t (.slice (some ⟨l, 0, none⟩) n c) none (some (.int .i64 (h : Nat))) none = some (.slice (some ⟨l, 0, none⟩) h c) := by
  obtain ⟨h1, h2, h3 | h3⟩ := hC
  · obtain ⟨rfl, _⟩ := capOf_exact h3
    exact sl_hi ht hs h1 hh
  · unfold aSlice
    simp only [intOpt, ht, hs, h3, bounds]
    rw [if_pos (by omega)]
    simp
theorem slG_lohi {t te size l n c C i h : Nat} (ht : P.underlying t = some (.slice te)) (hs : szOf P te = some size) (hC : CapG c size C) (hi : i < h) (hh : h ≤ C) :
    ∃ c', aSlice P t (.slice (some ⟨l, 0, none⟩) n c) (some (.int .i64 (i : Nat))) (some (.int .i64 (h : Nat))) none = some (.slice (some ⟨l, i * size, none⟩) (h - i) c') := by
  obtain ⟨h1, h2, h3 | h3⟩ := hC
  · obtain ⟨rfl, _⟩ := capOf_exact h3
    refine ⟨C - i, ?_⟩
    unfold aSlice
    simp only [intOpt, ht, hs, h3, bounds]
    rw [if_pos (by omega)]
    simp only [Option.map_some, Int.toNat_natCast, Addr.add_lit, Nat.zero_add]
    rw [if_neg (by omega)]
  · unfold aSlice
    simp only [intOpt, ht, hs, h3, bounds]
    rw [if_pos (by omega)]
    simp only [Int.toNat_natCast, Option.isSome_none, Bool.false_eq_true, if_false, Addr.add_lit, Nat.zero_add]
    by_cases h0 : i = 0
    · subst h0
      refine ⟨c, ?_⟩
      rw [if_pos rfl, Nat.zero_mul, Nat.sub_zero]
    · refine ⟨unk size (C - i), ?_⟩
      rw [if_neg h0, if_pos ⟨hi, trivial⟩]
theorem slG_lo {t te size l n c C i : Nat} (ht : P.underlying t = some (.slice te)) (hs : szOf P te = some size) (hC : CapG c size C) (hi : i < n) (hn : n ≤ C) :
    ∃ c', aSlice P t (.slice (some ⟨l, 0, none⟩) n c) (some (.int .i64 (i : Nat))) none none = some (.slice (some ⟨l, i * size, none⟩) (n - i) c') := by
  obtain ⟨h1, h2, h3 | h3⟩ := hC
  · obtain ⟨rfl, _⟩ := capOf_exact h3
    obtain ⟨c', _, h⟩ := sl_lo (l := l) (o := 0) ht hs h1 (show i ≤ n by omega) hn
    rw [if_neg (by omega), Nat.zero_add] at h
    exact ⟨c', h⟩
  · unfold aSlice
    simp only [intOpt, ht, hs, h3, bounds]
    rw [if_pos (by omega)]
    simp only [Int.toNat_natCast, Option.isSome_none, Bool.false_eq_true, if_false, Addr.add_lit, Nat.zero_add]
    by_cases h0 : i = 0
    · subst h0
      refine ⟨c, ?_⟩
      rw [if_pos rfl, Nat.zero_mul, Nat.sub_zero]
    · refine ⟨unk size (C - i), ?_⟩
      rw [if_neg h0, if_pos ⟨hi, trivial⟩]
/-- All that is behind the end. -/
theorem slG_end {t te size l n c C : Nat} (ht : P.underlying t = some (.slice te)) (hs : szOf P te = some size) (hC : CapG c size C) (hn : n ≤ C) :
    ∃ o c', aSlice P t (.slice (some ⟨l, 0, none⟩) n c) (some (.int .i64 (n : Nat))) none none = some (.slice (some ⟨l, o, none⟩) 0 c') ∧ (o = 0 ∨ o = n * size) := by
  obtain ⟨h1, h2, h3 | h3⟩ := hC
  · obtain ⟨rfl, _⟩ := capOf_exact h3
    obtain ⟨c', _, h⟩ := sl_lo (l := l) (o := 0) ht hs h1 (Nat.le_refl n) hn
    rw [Nat.sub_self] at h
    refine ⟨_, c', h, ?_⟩
    split
    · exact .inl rfl
    · right; omega
  · unfold aSlice
    simp only [intOpt, ht, hs, h3, bounds]
    rw [if_pos (by omega)]
    simp only [Int.toNat_natCast, Option.isSome_none, Bool.false_eq_true, if_false, Addr.add_lit, Nat.zero_add]
    by_cases h0 : n = 0
    · subst h0
      refine ⟨0, c, ?_, .inl rfl⟩
      rw [if_pos rfl]
    · refine ⟨0, dng, ?_, .inl rfl⟩
      rw [if_neg h0, if_neg (by omega), if_pos trivial]
theorem slG_3 {t te size l n c C i j : Nat} (ht : P.underlying t = some (.slice te)) (hs : szOf P te = some size) (hC : CapG c size C) (hi : i ≤ j) (hj : j ≤ n) (hn : n ≤ C) :
    ∃ u, aSlice P t (.slice (some ⟨l, 0, none⟩) n c) (some (.int .i64 (i : Nat))) (some (.int .i64 (j : Nat))) (some (.int .i64 (n : Nat))) = some u := by
  obtain ⟨h1, h2, h3 | h3⟩ := hC <;> unfold aSlice <;> simp only [intOpt, ht, hs, h3, bounds] <;> rw [if_pos (by omega)] <;> exact ⟨_, rfl⟩
theorem appG_none {t tx te size bytes : Nat} {z : Value} {l n c C : Nat} {x : Value} {A : Option Addr} {cx : Nat} (ht : P.underlying t = some (.slice te)) (htx : P.underlying tx = some (.slice te)) (hs : szOf P te = some size) (hby : byOf P te = some bytes) (hz : zeroOf P te = some z)
    (hzs : z.cells.size = size) (h0 : size ≠ 0) (h1 : size ≤ 1048576) (h2 : bytes ≤ 4096) (hn : n ≤ 17179869184) (hC : CapG c size C) (hnC : n ≤ C) (hx : srcOf P σ size tx x = some (0, [])) :
    aAppend P false t tx (.slice (some ⟨l, 0, none⟩) n c) x σ = some (.slice (some ⟨l, 0, none⟩) n c, σ) := by
  obtain ⟨g1, g2, g3 | g3⟩ := hC
  · obtain ⟨rfl, _⟩ := capOf_exact g3
    unfold aAppend
    simp only [ht, hs, hby, hz, hx, g3]
    rw [if_neg (by simp only [Decidable.not_not]; exact ⟨h0, hzs, h1, h2, by omega, rfl⟩), if_pos (by omega)]
    simp
  · unfold aAppend
    simp only [ht, hs, hby, hz, hx, g3]
    rw [if_neg (by simp only [Decidable.not_not]; exact ⟨h0, hzs, h1, h2, by omega, rfl⟩)]
    simp
theorem appG_room {t tx te size bytes : Nat} {z : Value} {l n c C lx ox m cx : Nat} {cells xs : List Value} (ht : P.underlying t = some (.slice te)) (htx : P.underlying tx = some (.slice te)) (hs : szOf P te = some size) (hby : byOf P te = some bytes) (hz : zeroOf P te = some z)
    (hzs : z.cells.size = size) (h0 : size ≠ 0) (h1 : size ≤ 1048576) (h2 : bytes ≤ 4096) (hnm : n + m ≤ 17179869184) (hm : m ≠ 0) (hC : CapG c size C) (hfit : n + m ≤ C)
    (hx : readN σ ⟨lx, ox, none⟩ (m * size) = some xs) (hxc : xs.all cellB = true) (hl : σ[l]? = some ⟨cells, .full⟩) (hb : n * size + xs.length ≤ cells.length) :
    aAppend P false t tx (.slice (some ⟨l, 0, none⟩) n c) (.slice (some ⟨lx, ox, none⟩) m cx) σ = some (.slice (some ⟨l, 0, none⟩) (n + m) c, σ.set l ⟨splice cells (n * size) xs, .full⟩) := by
  obtain ⟨g1, g2, g3 | g3⟩ := hC
  · obtain ⟨rfl, _⟩ := capOf_exact g3
    exact app_room ht htx hs hby hz hzs h0 h1 h2 hnm hm g1 hfit hx hxc hl hb
  · unfold aAppend
    simp only [ht, hs, hby, hz, srcOf, htx, hx, Option.map_some, g3]
    rw [if_neg (by simp only [Decidable.not_not]; exact ⟨h0, hzs, h1, h2, hnm, hxc⟩), if_neg hm, if_pos hfit]
    simp only [Bool.false_eq_true, if_false, Addr.add_lit, Nat.zero_add]
    rw [writeN_eq, hl, writeB_full, if_pos ⟨hb, hxc⟩]
    rfl
/-- clear. -/
def aClear (P : Program) (t : TypeId) (x : Value) (σ : Heap) : Option (Value × Heap) := match P.underlying t, x with
  | some (.slice e), .slice A n _ => if n = 0 then some (undef, σ) else match A with
    | some a => (zerosOf P e n).bind fun zs => (writeN σ a zs).map fun σ' => (undef, σ')
    | none => none
  | _, _ => none
@[simp ↓] theorem step_clear {x : Operand} {t : TypeId} {R : Value → Heap → Prop} : StepR P prim false ops ⟨dst, .call { callee := .builtin .clear, args := #[x], argTypes := #[t] }, type, pos, after, none⟩ e σ R =
    @VA (aClear P t (ev e x) σ) ⟨R⟩ := rfl
theorem clear_eq {t te l o n c : Nat} {cells zs : List Value} (ht : P.underlying t = some (.slice te)) (hz : zerosOf P te n = some zs) (hn : 0 < n) (hl : σ[l]? = some ⟨cells, .full⟩) (hb : o + zs.length ≤ cells.length) (hc : zs.all cellB = true) :
    aClear P t (.slice (some ⟨l, o, none⟩) n c) σ = some (undef, σ.set l ⟨splice cells o zs, .full⟩) := by
  unfold aClear
  simp only [ht, hz]
  rw [if_neg (by omega)]
  simp only [Option.bind_some]
  rw [writeN_eq, hl, writeB_full, if_pos ⟨hb, hc⟩]
  rfl
end
/-- What a Delete of elements i .. j of n leaves. -/
def DelRun (P : Program) (prim : CallF) (f : FuncId) (size : Nat) : Prop := ∀ (σ : Heap) (l n i j c C : Nat) (cells : List Value), σ[l]? = some ⟨cells, .full⟩ → (cells.take (n * size)).all cellB = true → i < j → j ≤ n → n ≤ 17179869184 → n ≤ C → CapG c size C → C * size ≤ cells.length →
  AC P prim f #[.slice (some ⟨l, 0, none⟩) n c, .int .i64 (i : Nat), .int .i64 (j : Nat)] σ fun u τ => u = .slice (some ⟨l, 0, none⟩) (n - (j - i)) c ∧
    ∃ rest, (cells.take (i * size) ++ (cells.take (n * size)).drop (j * size) ++ rest).length = cells.length ∧ τ = σ.set l ⟨cells.take (i * size) ++ (cells.take (n * size)).drop (j * size) ++ rest, .full⟩
end Go.Proofs.Ytibejcomfjddfaa.AM
end
section
set_option maxHeartbeats 8000000
set_option linter.unusedVariables false
set_option linter.unusedSimpArgs false

/- A machine of values beside the abstract machine: frozen slices are lists, memory is what may still change. Definitions and the relation. -/
namespace Go.Proofs.Ytibejcomfjddfaa.VM
open Go AM

/-- Values: plain ones; frozen slices (rows of cells) and pointers into frozen memory; pointers to objects, slices of one's own (object, version), pointers to their elements. -/
inductive V where
  | lit (v : Value)
  | fsl (k : Bool) (s : Nat) (rows : List (List V))
  | fptr (cells : List V)
  | ptr (g o : Nat)
  | own (g w : Nat)
  | elt (g w k o : Nat)
  | fn (f : FuncId) (fi cp : List V)
  | ifc (t : TypeId) (v : V)
  | agg (cs : List V)
  | tup (vs : List V)
  | junk
/-- Objects: cells; rows that are one's own; rows that were frozen. -/
inductive Ob where
  | mem (cells : List V) (rw : Bool)
  | vec (w : Nat) (rows : List (List V)) (s : Nat) (rw t : Bool)
  | fro (w : Nat) (rows : List (List V)) (s : Nat)
abbrev Hp := List Ob
abbrev Ev := Nat → V
/-- What is frozen. -/
abbrev Kn := Nat → Option (List Value)
/-- What an object is in the abstract machine. -/
inductive Rz where
  | mem (b : Nat)
  | vec (val : Value) (w s : Nat)
  | fro (val : Value) (w s : Nat)
def Rz.at_ : Rz → Option (Value × Nat × Nat)
  | .mem _ => none
  | .vec v w s => some (v, w, s)
  | .fro v w s => some (v, w, s)
def capOK (c s n : Nat) : Prop := match capOf c with
  | .exact C => n ≤ C
  | .unk es lb => es = s ∧ n ≤ lb
  | .dng => n = 0

mutual
/-- A value here, one there. -/
def VR (K : Kn) : V → List Rz → Value → Prop
  | .lit v, _, a => a = v ∧ scalarB v = true
  | .fsl k s rows, _, a => ∃ A c, a = .slice A rows.length c ∧ (A = none → c = 0) ∧ (k = true → c < AM.dng) ∧ capOK c s rows.length ∧ s < 4294967296 ∧
      (rows.length = 0 ∧ A = none ∨ ∃ b o cells, A = some ⟨b, o, none⟩ ∧ K b = some cells ∧ o + rows.length * s ≤ cells.length ∧ RowsR K s rows [] ((cells.drop o).take (rows.length * s)))
  | .fptr cs, _, a => ∃ b o cells, a = .pointer (some ⟨b, o, none⟩) ∧ K b = some cells ∧ o + cs.length ≤ cells.length ∧ VRs K cs [] ((cells.drop o).take cs.length)
  | .ptr g o, φ, a => ∃ b, φ[g]? = some (.mem b) ∧ a = .pointer (some ⟨b, o, none⟩)
  | .own g w, φ, a => ∃ r val w' s, φ[g]? = some r ∧ r.at_ = some (val, w', s) ∧ w ≤ w' ∧ (w' = w → a = val) ∧ ∃ A n c, a = .slice A n c
  | .elt g w k o, φ, a => ∃ r val w' s, φ[g]? = some r ∧ r.at_ = some (val, w', s) ∧ w ≤ w' ∧ (w' = w → ∃ b oo n c, val = .slice (some ⟨b, oo, none⟩) n c ∧ a = .pointer (some ⟨b, oo + k * s + o, none⟩)) ∧ ∃ x, a = .pointer (some x)
  | .fn f fi cp, φ, a => ∃ fa ca, a = .func (.func f) fa ca ∧ VRs K fi φ fa.toList ∧ VRs K cp φ ca.toList
  | .ifc t v, φ, a => ∃ x, a = .iface t x ∧ VR K v φ x
  | .agg cs, φ, a => ∃ xs, a = .agg xs ∧ VRs K cs φ xs.toList
  | .tup vs, φ, a => ∃ xs, a = .tuple xs ∧ VRs K vs φ xs.toList
  | .junk, _, _ => True
def VRs (K : Kn) : List V → List Rz → List Value → Prop
  | [], _, l => l = []
  | v :: vs, φ, l => ∃ a as, l = a :: as ∧ VR K v φ a ∧ VRs K vs φ as
def RowsR (K : Kn) (s : Nat) : List (List V) → List Rz → List Value → Prop
  | [], _, l => l = []
  | r :: rs, φ, l => ∃ a as, l = a ++ as ∧ r.length = s ∧ VRs K r φ a ∧ RowsR K s rs φ as
end

mutual
/-- It names objects below n alone. -/
def Bel (n : Nat) : V → Prop
  | .lit _ | .fsl _ _ _ | .fptr _ | .junk => True
  | .ptr g _ | .own g _ | .elt g _ _ _ => g < n
  | .fn _ fi cp => Bels n fi ∧ Bels n cp
  | .ifc _ v => Bel n v
  | .agg cs | .tup cs => Bels n cs
def Bels (n : Nat) : List V → Prop
  | [] => True
  | v :: vs => Bel n v ∧ Bels n vs
end
def RzLe : Rz → Rz → Prop
  | .mem b, .mem b' => b = b'
  | .vec v w s, .vec v' w' s' => s = s' ∧ w ≤ w' ∧ (w = w' → v = v')
  | .vec v w s, .fro v' w' s' => s = s' ∧ w ≤ w' ∧ (w = w' → v = v')
  | .fro v w s, .fro v' w' s' => s = s' ∧ w = w' ∧ v = v'
  | _, _ => False
/-- What was known is known; the first n objects are still there. -/
structure Post (n : Nat) (K : Kn) (φ : List Rz) (K' : Kn) (φ' : List Rz) : Prop where
  kn : ∀ b c, K b = some c → K' b = some c
  rz : ∀ (g : Nat) r, g < n → φ[g]? = some r → ∃ r', φ'[g]? = some r' ∧ RzLe r r'
theorem RzLe.refl (r : Rz) : RzLe r r := by cases r <;> simp [RzLe]
theorem RzLe.trans {a b c : Rz} (h1 : RzLe a b) (h2 : RzLe b c) : RzLe a c := by
  cases a <;> cases b <;> simp only [RzLe] at h1 <;> cases c <;> simp only [RzLe] at h2 ⊢
  · exact h1.trans h2
  · exact ⟨h1.1.trans h2.1, by omega, fun h => (h1.2.2 (by omega)).trans (h2.2.2 (by omega))⟩
  · exact ⟨h1.1.trans h2.1, by omega, fun h => (h1.2.2 (by omega)).trans (h2.2.2 (by omega))⟩
  · exact ⟨h1.1.trans h2.1, by omega, fun h => (h1.2.2 (by omega)).trans h2.2.2⟩
  · exact ⟨h1.1.trans h2.1, by omega, h1.2.2.trans h2.2.2⟩
theorem Post.refl (n : Nat) (K : Kn) (φ : List Rz) : Post n K φ K φ := ⟨fun _ _ h => h, fun _ r _ h => ⟨r, h, .refl r⟩⟩
theorem Post.trans {n m : Nat} {K K1 K2 : Kn} {φ φ1 φ2 : List Rz} (h1 : Post n K φ K1 φ1) (h2 : Post m K1 φ1 K2 φ2) (hnm : n ≤ m) : Post n K φ K2 φ2 :=
  ⟨fun b c h => h2.kn b c (h1.kn b c h), fun g r hg h => by
    obtain ⟨r1, e1, l1⟩ := h1.rz g r hg h
    obtain ⟨r2, e2, l2⟩ := h2.rz g r1 (by omega) e1
    exact ⟨r2, e2, l1.trans l2⟩⟩
theorem Post.weaken {n m : Nat} {K K1 : Kn} {φ φ1 : List Rz} (h : Post n K φ K1 φ1) (hm : m ≤ n) : Post m K φ K1 φ1 := ⟨h.kn, fun g r hg => h.rz g r (by omega)⟩
theorem RzLe.at_ {r r' : Rz} {v : Value} {w s : Nat} (h : RzLe r r') (hr : r.at_ = some (v, w, s)) : ∃ v' w', r'.at_ = some (v', w', s) ∧ w ≤ w' ∧ (w' = w → v' = v) := by
  cases r <;> cases r' <;> simp only [RzLe] at h <;> simp only [Rz.at_] at hr ⊢ <;> cases hr
  all_goals
    obtain ⟨h1, h2, h3⟩ := h
    subst h1
  · exact ⟨_, _, rfl, h2, fun e => (h3 e.symm).symm⟩
  · exact ⟨_, _, rfl, h2, fun e => (h3 e.symm).symm⟩
  · exact ⟨_, _, rfl, by omega, fun _ => h3.symm⟩
mutual
theorem VR.mono {n : Nat} {K K' : Kn} {φ φ' : List Rz} (hp : Post n K φ K' φ') : ∀ {v : V} {a : Value}, VR K v φ a → Bel n v → VR K' v φ' a
  | .lit v, a, h, _ => h
  | .fsl k s rows, a, ⟨A, c, h1, h2, h0, h3, h3', h4⟩, _ => ⟨A, c, h1, h2, h0, h3, h3', h4.imp id fun ⟨b, o, cells, e1, e2, e3, e4⟩ => ⟨b, o, cells, e1, hp.kn _ _ e2, e3, RowsR.monoN (n := 0) ⟨hp.kn, fun g r hg => by omega⟩ e4⟩⟩
  | .fptr cs, a, ⟨b, o, cells, e1, e2, e3, e4⟩, _ => ⟨b, o, cells, e1, hp.kn _ _ e2, e3, VRs.monoN (n := 0) ⟨hp.kn, fun g r hg => by omega⟩ e4⟩
  | .ptr g o, a, ⟨b, h1, h2⟩, hb => by
    obtain ⟨r', e1, e2⟩ := hp.rz g _ (by simpa [Bel] using hb) h1
    cases r' <;> simp only [RzLe] at e2
    subst e2
    exact ⟨_, e1, h2⟩
  | .own g w, a, ⟨r, val, w', s, h1, h2, h3, h4, h5⟩, hb => by
    obtain ⟨r', e1, e2⟩ := hp.rz g _ (by simpa [Bel] using hb) h1
    obtain ⟨v', w2, f1, f2, f3⟩ := e2.at_ h2
    exact ⟨r', v', w2, s, e1, f1, by omega, fun e => by rw [h4 (by omega), f3 (by omega)], h5⟩
  | .elt g w k o, a, ⟨r, val, w', s, h1, h2, h3, h4, h5⟩, hb => by
    obtain ⟨r', e1, e2⟩ := hp.rz g _ (by simpa [Bel] using hb) h1
    obtain ⟨v', w2, f1, f2, f3⟩ := e2.at_ h2
    exact ⟨r', v', w2, s, e1, f1, by omega, fun e => by rw [f3 (by omega)]; exact h4 (by omega), h5⟩
  | .fn f fi cp, a, ⟨fa, ca, h1, h2, h3⟩, hb => ⟨fa, ca, h1, VRs.mono hp h2 (by simp only [Bel] at hb; exact hb.1), VRs.mono hp h3 (by simp only [Bel] at hb; exact hb.2)⟩
  | .ifc t v, a, ⟨x, h1, h2⟩, hb => ⟨x, h1, VR.mono hp h2 (by simpa only [Bel] using hb)⟩
  | .agg cs, a, ⟨x, h1, h2⟩, hb => ⟨x, h1, VRs.mono hp h2 (by simpa only [Bel] using hb)⟩
  | .tup cs, a, ⟨x, h1, h2⟩, hb => ⟨x, h1, VRs.mono hp h2 (by simpa only [Bel] using hb)⟩
  | .junk, _, _, _ => trivial
theorem VRs.mono {n : Nat} {K K' : Kn} {φ φ' : List Rz} (hp : Post n K φ K' φ') : ∀ {v : List V} {a : List Value}, VRs K v φ a → Bels n v → VRs K' v φ' a
  | [], _, h, _ => h
  | v :: vs, _, ⟨a, as, h1, h2, h3⟩, hb => ⟨a, as, h1, VR.mono hp h2 (by simp only [Bels] at hb; exact hb.1), VRs.mono hp h3 (by simp only [Bels] at hb; exact hb.2)⟩
theorem VR.monoN {n : Nat} {K K' : Kn} {φ' : List Rz} (hp : Post n K [] K' φ') : ∀ {v : V} {a : Value}, VR K v [] a → VR K' v φ' a
  | .lit v, a, h => h
  | .fsl k s rows, a, ⟨A, c, h1, h2, h0, h3, h3', h4⟩ => ⟨A, c, h1, h2, h0, h3, h3', h4.imp id fun ⟨b, o, cells, e1, e2, e3, e4⟩ => ⟨b, o, cells, e1, hp.kn _ _ e2, e3, RowsR.monoN (n := 0) ⟨hp.kn, fun g r hg => by omega⟩ e4⟩⟩
  | .fptr cs, a, ⟨b, o, cells, e1, e2, e3, e4⟩ => ⟨b, o, cells, e1, hp.kn _ _ e2, e3, VRs.monoN (n := 0) ⟨hp.kn, fun g r hg => by omega⟩ e4⟩
  | .ptr g o, a, ⟨b, h1, h2⟩ => by simp at h1
  | .own g w, a, ⟨r, val, w', s, h1, h2, h3, h4⟩ => by simp at h1
  | .elt g w k o, a, ⟨r, val, w', s, h1, h2, h3, h4⟩ => by simp at h1
  | .fn f fi cp, a, ⟨fa, ca, h1, h2, h3⟩ => ⟨fa, ca, h1, VRs.monoN hp h2, VRs.monoN hp h3⟩
  | .ifc t v, a, ⟨x, h1, h2⟩ => ⟨x, h1, VR.monoN hp h2⟩
  | .agg cs, a, ⟨x, h1, h2⟩ => ⟨x, h1, VRs.monoN hp h2⟩
  | .tup cs, a, ⟨x, h1, h2⟩ => ⟨x, h1, VRs.monoN hp h2⟩
  | .junk, _, _ => trivial
theorem VRs.monoN {n : Nat} {K K' : Kn} {φ' : List Rz} (hp : Post n K [] K' φ') : ∀ {v : List V} {a : List Value}, VRs K v [] a → VRs K' v φ' a
  | [], _, h => h
  | v :: vs, _, ⟨a, as, h1, h2, h3⟩ => ⟨a, as, h1, VR.monoN hp h2, VRs.monoN hp h3⟩
theorem RowsR.monoN {n s : Nat} {K K' : Kn} {φ' : List Rz} (hp : Post n K [] K' φ') : ∀ {v : List (List V)} {a : List Value}, RowsR K s v [] a → RowsR K' s v φ' a
  | [], _, h => h
  | v :: vs, _, ⟨a, as, h1, h2, h3, h4⟩ => ⟨a, as, h1, h2, VRs.monoN hp h3, RowsR.monoN hp h4⟩
end
mutual
theorem VR.bel {K : Kn} {φ : List Rz} : ∀ {v : V} {a : Value}, VR K v φ a → Bel φ.length v
  | .lit v, a, h => trivial
  | .fsl _ _ rows, a, _ => trivial
  | .fptr cs, a, _ => trivial
  | .ptr g o, a, ⟨b, h1, h2⟩ => get_lt h1
  | .own g w, a, ⟨r, val, w', s, h1, h2, h3, h4⟩ => get_lt h1
  | .elt g w k o, a, ⟨r, val, w', s, h1, h2, h3, h4⟩ => get_lt h1
  | .fn f fi cp, a, ⟨fa, ca, h1, h2, h3⟩ => ⟨VRs.bel h2, VRs.bel h3⟩
  | .ifc t v, a, ⟨x, h1, h2⟩ => VR.bel (v := v) h2
  | .agg cs, a, ⟨x, h1, h2⟩ => VRs.bel (v := cs) h2
  | .tup cs, a, ⟨x, h1, h2⟩ => VRs.bel (v := cs) h2
  | .junk, _, _ => trivial
theorem VRs.bel {K : Kn} {φ : List Rz} : ∀ {v : List V} {a : List Value}, VRs K v φ a → Bels φ.length v
  | [], _, h => trivial
  | v :: vs, _, ⟨a, as, h1, h2, h3⟩ => ⟨VR.bel h2, VRs.bel h3⟩
end
/-- Onward. -/
theorem VR.on {K K' : Kn} {φ φ' : List Rz} {v : V} {a : Value} (h : VR K v φ a) (hp : Post φ.length K φ K' φ') : VR K' v φ' a := h.mono hp h.bel
theorem VRs.on {K K' : Kn} {φ φ' : List Rz} {v : List V} {a : List Value} (h : VRs K v φ a) (hp : Post φ.length K φ K' φ') : VRs K' v φ' a := h.mono hp h.bel
theorem RowsR.mono {n s : Nat} {K K' : Kn} {φ φ' : List Rz} (hp : Post n K φ K' φ') : ∀ {v : List (List V)} {a : List Value}, RowsR K s v φ a → (∀ r ∈ v, Bels n r) → RowsR K' s v φ' a
  | [], _, h, _ => h
  | v :: vs, _, ⟨a, as, h1, h2, h3, h4⟩, hb => ⟨a, as, h1, h2, h3.mono hp (hb v (by simp)), h4.mono hp fun r hr => hb r (by simp [hr])⟩
theorem RowsR.bel {s : Nat} {K : Kn} {φ : List Rz} : ∀ {v : List (List V)} {a : List Value}, RowsR K s v φ a → ∀ r ∈ v, Bels φ.length r
  | [], _, h, r, hr => by simp at hr
  | v :: vs, _, ⟨a, as, h1, h2, h3, h4⟩, r, hr => by
    rcases List.mem_cons.1 hr with rfl | hr
    · exact h3.bel
    · exact h4.bel r hr
theorem RowsR.on {s : Nat} {K K' : Kn} {φ φ' : List Rz} {v : List (List V)} {a : List Value} (h : RowsR K s v φ a) (hp : Post φ.length K φ K' φ') : RowsR K' s v φ' a := h.mono hp h.bel

theorem VRs.len {K : Kn} {φ : List Rz} : ∀ {v : List V} {a : List Value}, VRs K v φ a → a.length = v.length
  | [], _, h => by simp only [VRs] at h; subst h; rfl
  | v :: vs, _, ⟨a, as, h1, h2, h3⟩ => by subst h1; simp [h3.len]
theorem VRs.get {K : Kn} {φ : List Rz} : ∀ {v : List V} {a : List Value}, VRs K v φ a → ∀ {i : Nat} {x : V}, v[i]? = some x → ∃ y, a[i]? = some y ∧ VR K x φ y
  | [], _, h, i, x, hx => by simp at hx
  | v :: vs, _, ⟨a, as, h1, h2, h3⟩, 0, x, hx => by subst h1; simp at hx; subst hx; exact ⟨a, rfl, h2⟩
  | v :: vs, _, ⟨a, as, h1, h2, h3⟩, i + 1, x, hx => by subst h1; simpa using h3.get (i := i) (by simpa using hx)
theorem VRs.of {K : Kn} {φ : List Rz} : ∀ {v : List V} {a : List Value}, a.length = v.length → (∀ (i : Nat) x y, v[i]? = some x → a[i]? = some y → VR K x φ y) → VRs K v φ a
  | [], [], _, _ => rfl
  | [], _ :: _, h, _ => by simp at h
  | _ :: _, [], h, _ => by simp at h
  | v :: vs, a :: as, h, hg => ⟨a, as, rfl, hg 0 v a rfl rfl, VRs.of (by simpa using h) fun i x y h1 h2 => hg (i + 1) x y (by simpa using h1) (by simpa using h2)⟩
theorem VRs.take {K : Kn} {φ : List Rz} {v : List V} {a : List Value} (h : VRs K v φ a) (n : Nat) : VRs K (v.take n) φ (a.take n) :=
  .of (by simp [h.len]) fun i x y h1 h2 => by
    rw [List.getElem?_take] at h1 h2
    split at h1
    · rename_i hi
      rw [if_pos hi] at h2
      obtain ⟨z, e1, e2⟩ := h.get h1
      rw [e1] at h2; cases h2; exact e2
    · cases h1
theorem VRs.drop {K : Kn} {φ : List Rz} {v : List V} {a : List Value} (h : VRs K v φ a) (n : Nat) : VRs K (v.drop n) φ (a.drop n) :=
  .of (by simp [h.len]) fun i x y h1 h2 => by
    rw [List.getElem?_drop] at h1 h2
    obtain ⟨z, e1, e2⟩ := h.get h1
    rw [e1] at h2; cases h2; exact e2
theorem VRs.append {K : Kn} {φ : List Rz} : ∀ {v w : List V} {a b : List Value}, VRs K v φ a → VRs K w φ b → VRs K (v ++ w) φ (a ++ b)
  | [], _, _, _, h, h' => by simp only [VRs] at h; subst h; exact h'
  | v :: vs, _, _, _, ⟨a, as, h1, h2, h3⟩, h' => by subst h1; exact ⟨a, as ++ _, rfl, h2, h3.append h'⟩
def spl (cs : List V) (o : Nat) (vs : List V) : List V := cs.take o ++ vs ++ cs.drop (o + vs.length)
theorem VRs.splice {K : Kn} {φ : List Rz} {v w : List V} {a b : List Value} {o : Nat} (h : VRs K v φ a) (h' : VRs K w φ b) : VRs K (spl v o w) φ (AM.splice a o b) := by
  unfold spl AM.splice
  rw [h'.len]
  exact ((h.take o).append h').append (h.drop _)
theorem VRs.lits {K : Kn} {φ : List Rz} : ∀ {l : List Value}, (∀ x ∈ l, scalarB x = true) → VRs K (l.map .lit) φ l
  | [], _ => rfl
  | x :: l, h => ⟨x, l, rfl, ⟨rfl, h x (by simp)⟩, VRs.lits fun y hy => h y (by simp [hy])⟩
/-- Which cells a value has. -/
def V.cells : V → List V
  | .agg cs => cs
  | v => [v]
def V.isCell : V → Bool
  | .junk | .agg _ | .tup _ => false
  | .lit v => cellB v
  | _ => true
theorem VR.cell {K : Kn} {φ : List Rz} {v : V} {a : Value} (h : VR K v φ a) (hv : v.isCell = true) : cellB a = true ∧ a.cells = #[a] := by
  cases v with
  | agg cs => cases hv
  | junk => cases hv
  | tup vs => cases hv
  | lit v =>
    obtain ⟨rfl, hs⟩ := h
    refine ⟨hv, ?_⟩
    cases a <;> simp [scalarB] at hs <;> rfl
  | fsl k s rows => obtain ⟨A, c, rfl, _⟩ := h; exact ⟨rfl, rfl⟩
  | fptr rows => obtain ⟨A, c, s, rfl, _⟩ := h; exact ⟨rfl, rfl⟩
  | ptr rows => obtain ⟨A, c, rfl⟩ := h; exact ⟨rfl, rfl⟩
  | own g w => obtain ⟨_, _, _, _, _, _, _, _, _, _, _, rfl⟩ := h; exact ⟨rfl, rfl⟩
  | elt g w k o => obtain ⟨_, _, _, _, _, _, _, _, _, rfl⟩ := h; exact ⟨rfl, rfl⟩
  | fn f fi cp => obtain ⟨A, c, rfl, _⟩ := h; exact ⟨rfl, rfl⟩
  | ifc t v => obtain ⟨A, rfl, _⟩ := h; exact ⟨rfl, rfl⟩
theorem VRs.cells {K : Kn} {φ : List Rz} : ∀ {v : List V} {a : List Value}, VRs K v φ a → v.all V.isCell = true → a.all cellB = true
  | [], _, h, _ => by simp only [VRs] at h; subst h; rfl
  | v :: vs, _, ⟨a, as, h1, h2, h3⟩, hv => by
    subst h1
    simp only [List.all_cons, Bool.and_eq_true] at hv ⊢
    exact ⟨(h2.cell hv.1).1, h3.cells hv.2⟩
theorem VR.cells {K : Kn} {φ : List Rz} {v : V} {a : Value} (h : VR K v φ a) (hv : v.cells.all V.isCell = true) : VRs K v.cells φ a.cells.toList ∧ a.cells.toList.all cellB = true := by
  have key : VRs K v.cells φ a.cells.toList := by
    cases v with
    | agg cs => obtain ⟨xs, rfl, h2⟩ := h; exact h2
    | _ =>
      rw [(h.cell (by simpa [V.cells] using hv)).2]
      exact ⟨a, [], rfl, h, rfl⟩
  exact ⟨key, key.cells hv⟩
/-- The abstract machine's block of an object. -/
def Rz.blk : Rz → Option Nat
  | .mem b => some b
  | .vec (.slice (some ⟨b, _, _⟩) _ (_ + 1)) _ _ => some b
  | _ => none
/-- Rows of s cells each, that may stand in memory. -/
def RowsOk (s : Nat) (xs : List (List V)) : Prop := ∀ r ∈ xs, r.length = s ∧ r.all V.isCell = true
instance {s : Nat} {xs : List (List V)} : Decidable (RowsOk s xs) := List.decidableBAll ..
theorem RowsOk.append {s : Nat} {xs ys : List (List V)} (h1 : RowsOk s xs) (h2 : RowsOk s ys) : RowsOk s (xs ++ ys) := fun r hr => (List.mem_append.1 hr).elim (h1 r) (h2 r)
def permOk (rw : Bool) (p : Perm) : Prop := if rw then p = .full else p ≠ .dead
/-- An empty slice without room. -/
def Emp (K : Kn) (val : Value) : Prop := val = .slice none 0 0 ∨ ∃ b o cells, val = .slice (some ⟨b, o, none⟩) 0 0 ∧ K b = some cells ∧ o ≤ cells.length
theorem Emp.mono {K K' : Kn} {val : Value} (h : Emp K val) (hk : ∀ b c, K b = some c → K' b = some c) : Emp K' val := h.imp id fun ⟨b, o, cells, h1, h2, h3⟩ => ⟨b, o, cells, h1, hk _ _ h2, h3⟩
/-- Room for C elements; t: no more than there are. -/
def CapV (t : Bool) (c s n total : Nat) : Prop := c ≠ 0 ∧ ∃ C, (n ≤ C ∧ C ≤ maxLen) ∧ C * s ≤ total ∧ (t = true → C = n) ∧ (capOf c = .exact C ∨ capOf c = .unk s C)
theorem CapV.ok {t : Bool} {c s n total : Nat} (h : CapV t c s n total) : capOK c s n := by
  obtain ⟨_, C, h1, _, _, h2 | h2⟩ := h <;> unfold capOK <;> rw [h2]
  · exact h1.1
  · exact ⟨rfl, h1.1⟩
def ObR (K : Kn) (φ : List Rz) (σ : Heap) : Ob → Rz → Prop
  | .mem cells rw, .mem b => ∃ vals p, σ[b]? = some ⟨vals, p⟩ ∧ permOk rw p ∧ VRs K cells φ vals
  | .vec w rows s rw t, .vec val w' s' => w = w' ∧ s = s' ∧ 0 < s ∧ s ≤ 1048576 ∧ RowsOk s rows ∧ ((rows.length = 0 ∧ Emp K val) ∨
      ∃ b c vals rest p, val = .slice (some ⟨b, 0, none⟩) rows.length c ∧ CapV t c s rows.length (vals ++ rest).length ∧ σ[b]? = some ⟨vals ++ rest, p⟩ ∧ permOk rw p ∧ RowsR K s rows φ vals)
  | .fro w rows s, .fro val w' s' => w = w' ∧ s = s' ∧ VR K (.fsl true s rows) [] val
  | _, _ => False
/-- A state here, one there. -/
structure Rel (K : Kn) (φ : List Rz) (H : Hp) (σ : Heap) : Prop where
  len : φ.length = H.length
  kn : ∀ b cells, K b = some cells → ∃ p, σ[b]? = some ⟨cells, p⟩ ∧ p ≠ .dead
  ob : ∀ (g : Nat) x r, H[g]? = some x → φ[g]? = some r → ObR K φ σ x r
  inj : ∀ (g g' : Nat) r r' b, φ[g]? = some r → φ[g']? = some r' → r.blk = some b → r'.blk = some b → g = g'
  apart : ∀ (g : Nat) r b, φ[g]? = some r → r.blk = some b → K b = none
  gk : ∀ p ∈ gcells, K p.1 = some p.2
def EvR (K : Kn) (φ : List Rz) (e : Ev) (ea : Env) : Prop := ∀ t, VR K (e t) φ (ea t)
theorem EvR.on {K K' : Kn} {φ φ' : List Rz} {e : Ev} {ea : Env} (h : EvR K φ e ea) (hp : Post φ.length K φ K' φ') : EvR K' φ' e ea := fun t => (h t).on hp
theorem RowsR.len {s : Nat} {K : Kn} {φ : List Rz} : ∀ {v : List (List V)} {a : List Value}, RowsR K s v φ a → a.length = v.length * s
  | [], _, h => by simp only [RowsR] at h; subst h; simp
  | v :: vs, _, ⟨a, as, h1, h2, h3, h4⟩ => by subst h1; rw [List.length_append, h3.len, h2, h4.len, List.length_cons, Nat.add_mul]; omega
theorem RowsR.rowLen {s : Nat} {K : Kn} {φ : List Rz} : ∀ {v : List (List V)} {a : List Value}, RowsR K s v φ a → ∀ r ∈ v, r.length = s
  | [], _, h, r, hr => by simp at hr
  | v :: vs, _, ⟨a, as, h1, h2, h3, h4⟩, r, hr => by
    rcases List.mem_cons.1 hr with rfl | hr
    · exact h2
    · exact h4.rowLen r hr
theorem RowsR.append {s : Nat} {K : Kn} {φ : List Rz} : ∀ {v w : List (List V)} {a b : List Value}, RowsR K s v φ a → RowsR K s w φ b → RowsR K s (v ++ w) φ (a ++ b)
  | [], _, _, _, h, h' => by simp only [RowsR] at h; subst h; exact h'
  | v :: vs, _, _, _, ⟨a, as, h1, h2, h3, h4⟩, h' => by subst h1; exact ⟨a, as ++ _, by simp, h2, h3, h4.append h'⟩
theorem RowsR.get {s : Nat} {K : Kn} {φ : List Rz} : ∀ {v : List (List V)} {a : List Value}, RowsR K s v φ a → ∀ {i : Nat} {x : List V}, v[i]? = some x → VRs K x φ ((a.drop (i * s)).take s)
  | [], _, h, i, x, hx => by simp at hx
  | v :: vs, _, ⟨a, as, h1, h2, h3, h4⟩, 0, x, hx => by
    subst h1; simp at hx; subst hx
    have := h3.len
    rw [h2] at this
    simp [← this]; exact h3
  | v :: vs, _, ⟨a, as, h1, h2, h3, h4⟩, i + 1, x, hx => by
    subst h1
    have := h3.len
    rw [h2] at this
    rw [Nat.add_mul, Nat.one_mul, Nat.add_comm, ← List.drop_drop, ← this, List.drop_left, this]
    exact h4.get (by simpa using hx)
theorem RowsR.takeR {s : Nat} {K : Kn} {φ : List Rz} : ∀ {v : List (List V)} {a : List Value}, RowsR K s v φ a → ∀ n, n ≤ v.length → RowsR K s (v.take n) φ (a.take (n * s))
  | [], _, h, n, hn => by simp only [RowsR] at h; subst h; simp at hn; subst hn; simp [RowsR]
  | v :: vs, _, _, 0, _ => by simp [RowsR]
  | v :: vs, _, ⟨a, as, h1, h2, h3, h4⟩, n + 1, hn => by
    subst h1
    have := h3.len
    rw [h2] at this
    refine ⟨a, as.take (n * s), ?_, h2, h3, h4.takeR n (by simp at hn; omega)⟩
    rw [Nat.add_mul, Nat.one_mul, ← this, List.take_append, List.take_of_length_le (by omega)]
    congr 2
    omega
theorem RowsR.dropR {s : Nat} {K : Kn} {φ : List Rz} : ∀ {v : List (List V)} {a : List Value}, RowsR K s v φ a → ∀ n, n ≤ v.length → RowsR K s (v.drop n) φ (a.drop (n * s))
  | [], _, h, n, hn => by simp only [RowsR] at h; subst h; simp [RowsR]
  | v :: vs, _, h, 0, _ => by simpa using h
  | v :: vs, _, ⟨a, as, h1, h2, h3, h4⟩, n + 1, hn => by
    subst h1
    have := h3.len
    rw [h2] at this
    have e : (n + 1) * s = a.length + n * s := by rw [Nat.add_mul, this]; omega
    rw [e, List.drop_length_add_append]
    exact h4.dropR n (by simp at hn; omega)
theorem RowsR.set {s : Nat} {K : Kn} {φ : List Rz} : ∀ {v : List (List V)} {a : List Value}, RowsR K s v φ a → ∀ {k : Nat} {r : List V} {x : List Value}, k < v.length → r.length = s → VRs K r φ x → RowsR K s (v.set k r) φ (AM.splice a (k * s) x)
  | [], _, h, k, r, x, hk, _, _ => by simp at hk
  | v :: vs, _, ⟨a, as, h1, h2, h3, h4⟩, 0, r, x, _, hr, hx => by
    subst h1
    have h5 := h3.len
    have h6 := hx.len
    rw [h2] at h5
    refine ⟨x, as, ?_, hr, hx, h4⟩
    unfold AM.splice
    simp [h6, hr, ← h5]
  | v :: vs, _, ⟨a, as, h1, h2, h3, h4⟩, k + 1, r, x, hk, hr, hx => by
    subst h1
    have h5 := h3.len
    rw [h2] at h5
    refine ⟨a, AM.splice as (k * s) x, ?_, h2, h3, h4.set (by simpa using hk) hr hx⟩
    unfold AM.splice
    have e : (k + 1) * s = a.length + k * s := by rw [Nat.add_mul, h5]; omega
    rw [e, List.take_length_add_append, Nat.add_assoc, List.drop_length_add_append]
    simp
end Go.Proofs.Ytibejcomfjddfaa.VM
end
section
set_option maxHeartbeats 8000000
set_option linter.unusedVariables false
set_option linter.unusedSimpArgs false

/- The machine of values: reading, writing, new objects. -/
namespace Go.Proofs.Ytibejcomfjddfaa.VM
open Go AM
section
variable {P : Program} {K K' : Kn} {φ φ' : List Rz} {H H' : Hp} {σ σ' : Heap} {v x : V} {a : Value}

def litsOf : List V → Option (List Value)
  | [] => some []
  | .lit v :: l => (litsOf l).map (v :: ·)
  | _ => none
def toVal : V → Option Value
  | .lit v => some v
  | .agg cs => (litsOf cs).map fun l => .agg l.toArray
  | .ifc t (.lit v) => some (.iface t v)
  | _ => none
def ofVal : Value → V
  | .agg cs => .agg (cs.toList.map .lit)
  | .tuple vs => .tup (vs.toList.map .lit)
  | .iface t v => .ifc t (.lit v)
  | v => .lit v
theorem litsOf_sound : ∀ {l : List V} {m as : List Value}, litsOf l = some m → VRs K l φ as → as = m
  | [], _, _, h, hr => by simp only [litsOf] at h; cases h; exact hr
  | .lit v :: l, _, _, h, ⟨a, as, h1, h2, h3⟩ => by
    simp only [litsOf] at h
    cases hl : litsOf l with
    | none => rw [hl] at h; cases h
    | some m' =>
      rw [hl] at h; cases h
      obtain ⟨rfl, _⟩ := h2
      rw [h1, litsOf_sound hl h3]
  | .fsl _ _ _ :: _, _, _, h, _ => by cases h
  | .fptr _ :: _, _, _, h, _ => by cases h
  | .ptr _ _ :: _, _, _, h, _ => by cases h
  | .own _ _ :: _, _, _, h, _ => by cases h
  | .elt _ _ _ _ :: _, _, _, h, _ => by cases h
  | .fn _ _ _ :: _, _, _, h, _ => by cases h
  | .ifc _ _ :: _, _, _, h, _ => by cases h
  | .agg _ :: _, _, _, h, _ => by cases h
  | .tup _ :: _, _, _, h, _ => by cases h
  | .junk :: _, _, _, h, _ => by cases h
theorem toVal_sound {y : Value} (h : toVal v = some y) (hr : VR K v φ a) : a = y := by
  unfold toVal at h
  split at h
  · cases h; exact hr.1
  · rename_i cs
    cases hl : litsOf cs with
    | none => rw [hl] at h; cases h
    | some m =>
      rw [hl] at h; cases h
      obtain ⟨xs, rfl, h2⟩ := hr
      rw [← litsOf_sound hl h2]
  · cases h
    obtain ⟨x, rfl, h2, _⟩ := hr
    rw [h2]
  · cases h
theorem litsOf_map (l : List Value) : litsOf (l.map .lit) = some l := by
  induction l with
  | nil => rfl
  | cons x l ih => simp [litsOf, ih]
theorem ofVal_sound (h : flatB a = true) : VR K (ofVal a) φ a := by
  unfold ofVal
  split
  · rename_i cs
    exact ⟨cs, rfl, VRs.lits (List.all_eq_true.1 (by rw [Array.all_toList]; exact h))⟩
  · rename_i cs
    exact ⟨cs, rfl, VRs.lits (List.all_eq_true.1 (by rw [Array.all_toList]; exact h))⟩
  · rename_i t v
    exact ⟨v, rfl, rfl, h⟩
  · rename_i h1 h2 h3
    refine ⟨rfl, ?_⟩
    cases a <;> first | exact h | exact absurd rfl (h1 _) | exact absurd rfl (h2 _) | exact absurd rfl (h3 _ _)
/-- A package variable. -/
def gV (g : Nat) : V := match gcells.find? fun p => p.1 == g with
  | some p => .fptr (p.2.map .lit)
  | none => .junk
theorem gflat : ∀ p ∈ gcells, ∀ x ∈ p.2, scalarB x = true := by decide +kernel
theorem gV_sound {g : Nat} (hR : Rel K φ H σ) : VR K (gV g) φ (.pointer (some ⟨g, 0, none⟩)) := by
  unfold gV
  split
  · rename_i p hp
    have hm := List.mem_of_find?_eq_some hp
    have he : p.1 = g := by simpa using List.find?_some hp
    refine ⟨g, 0, p.2, rfl, he ▸ hR.gk p hm, by simp, ?_⟩
    simpa using VRs.lits (gflat p hm)
  · trivial
def vev (e : Ev) : Operand → V
  | .tmp t => e t
  | .const v => if flatB v then ofVal v else .junk
  | .global g => gV g
  | .func f => .fn f [] []
theorem vev_sound {e : Ev} {ea : Env} (hR : Rel K φ H σ) (h : EvR K φ e ea) (o : Operand) : VR K (vev e o) φ (ev ea o) := by
  cases o with
  | tmp t => exact h t
  | const v =>
    show VR K (if flatB v then ofVal v else .junk) φ v
    split
    · rename_i hv; exact ofVal_sound hv
    · trivial
  | global g => exact gV_sound hR
  | func f => exact ⟨#[], #[], rfl, rfl, rfl⟩

def Used (K : Kn) (φ : List Rz) (b : Nat) : Prop := (∃ c, K b = some c) ∨ ∃ (g : Nat) (r : Rz), φ[g]? = some r ∧ r.blk = some b
theorem Rel.used_lt (h : Rel K φ H σ) {b : Nat} (hu : Used K φ b) : b < σ.length := by
  rcases hu with ⟨c, hc⟩ | ⟨g, r, h1, h2⟩
  · obtain ⟨p, hp, _⟩ := h.kn b c hc; exact get_lt hp
  · have hg : g < H.length := by rw [← h.len]; exact get_lt h1
    have := h.ob g H[g] r (List.getElem?_eq_getElem hg) h1
    revert this
    cases r with
    | mem b' =>
      cases h2
      cases H[g] with
      | mem cells rw => rintro ⟨vals, p, h3, _⟩; exact get_lt h3
      | vec _ _ _ _ _ => exact fun h => h.elim
      | fro _ _ _ => exact fun h => h.elim
    | vec val w s =>
      cases H[g] with
      | mem cells rw => exact fun h => h.elim
      | vec w' rows s' rw t =>
        rintro ⟨_, _, _, _, _, ⟨_, h3 | ⟨_, _, _, h3, _⟩⟩ | ⟨b', c, vals, rest, p, h3, h5, h4, _⟩⟩
        · subst h3; cases h2
        · subst h3; cases h2
        · subst h3
          cases c with
          | zero => exact absurd rfl h5.1
          | succ c => cases h2; exact get_lt h4
      | fro _ _ _ => exact fun h => h.elim
    | fro val w s => cases h2
theorem CapV.dng {t : Bool} {c s n total : Nat} (h : CapV t c s n total) : c < AM.dng := by
  obtain ⟨_, C, _, _, _, f7 | f7⟩ := h
  · have := (capOf_exact f7).2; simp only [top, AM.dng] at *; omega
  · by_cases hd : c < AM.dng
    · exact hd
    · exfalso
      rw [capOf_unk f7] at hd f7
      exact unk_dng (Nat.le_of_not_lt hd) f7
theorem vec_blk {t : Bool} {val : Value} {b n c w s s' m total : Nat} (h : val = .slice (some ⟨b, 0, none⟩) n c) (hc : CapV t c s m total) : (Rz.vec val w s').blk = some b := by
  subst h
  cases c with
  | zero => exact absurd rfl hc.1
  | succ c => rfl
/-- An object that another state of memory leaves. -/
theorem ObR.keep {y : Ob} {r : Rz} (h : ObR K φ σ y r) (hb : ∀ b, r.blk = some b → σ'[b]? = σ[b]?) (hp : Post φ.length K φ K' φ') : ObR K' φ' σ' y r := by
  cases y with
  | mem cells rw =>
    cases r with
    | mem b =>
      obtain ⟨vals, p, h1, h2, h3⟩ := h
      exact ⟨vals, p, by rw [hb b rfl]; exact h1, h2, h3.on hp⟩
    | vec _ _ _ => exact h.elim
    | fro _ _ _ => exact h.elim
  | vec w rows s rw t =>
    cases r with
    | mem b => exact h.elim
    | vec val w' s' =>
      obtain ⟨h1, h2, h3, h3', h3'', h4⟩ := h
      refine ⟨h1, h2, h3, h3', h3'', h4.imp (fun ⟨e1, e2⟩ => ⟨e1, e2.mono hp.kn⟩) fun ⟨b, c, vals, rest, p, e1, e2, e3, e4, e5⟩ => ⟨b, c, vals, rest, p, e1, e2, ?_, e4, e5.on hp⟩⟩
      rw [hb b (vec_blk e1 e2)]; exact e3
    | fro _ _ _ => exact h.elim
  | fro w rows s =>
    cases r with
    | mem b => exact h.elim
    | vec _ _ _ => exact h.elim
    | fro val w' s =>
      obtain ⟨h1, h2, h3⟩ := h
      exact ⟨h1, h2, h3.monoN (n := 0) ⟨hp.kn, fun g r hg => by omega⟩⟩
theorem Rel.grow (h : Rel K φ H σ) (hg : ∀ b, Used K φ b → σ'[b]? = σ[b]?) : Rel K φ H σ' :=
  ⟨h.len, fun b c hc => by rw [hg b (.inl ⟨c, hc⟩)]; exact h.kn b c hc, fun g y r h1 h2 => (h.ob g y r h1 h2).keep (fun b hb => hg b (.inr ⟨g, r, h2, hb⟩)) (.refl _ _ _), h.inj, h.apart, h.gk⟩
/-- An object becomes another one. -/
theorem Rel.upd (h : Rel K φ H σ) {g : Nat} {r r' : Rz} {y' : Ob} (h2 : φ[g]? = some r) (hle : RzLe r r')
    (hob : ObR K (φ.set g r') σ' y' r') (hfresh : ∀ b, r'.blk = some b → r.blk = some b ∨ ¬ Used K φ b)
    (hs : ∀ b, Used K φ b → r.blk ≠ some b → σ'[b]? = σ[b]?) : Rel K (φ.set g r') (H.set g y') σ' ∧ Post φ.length K φ K (φ.set g r') := by
  have hlt := get_lt h2
  have hp : Post φ.length K φ K (φ.set g r') := ⟨fun _ _ h => h, fun k q hk hq => by
    by_cases e : k = g
    · subst e; rw [h2] at hq; cases hq
      exact ⟨r', by rw [List.getElem?_set_self hlt], hle⟩
    · exact ⟨q, by rw [List.getElem?_set_ne (Ne.symm e)]; exact hq, .refl _⟩⟩
  have get : ∀ {k : Nat} {q : Rz}, (φ.set g r')[k]? = some q → (k = g ∧ q = r') ∨ (k ≠ g ∧ φ[k]? = some q) := fun {k q} hq => by
    by_cases e : k = g
    · subst e; rw [List.getElem?_set_self hlt] at hq; cases hq; exact .inl ⟨rfl, rfl⟩
    · rw [List.getElem?_set_ne (Ne.symm e)] at hq; exact .inr ⟨e, hq⟩
  have other : ∀ {k : Nat} {q : Rz} {b : Nat}, k ≠ g → φ[k]? = some q → q.blk = some b → r'.blk ≠ some b ∧ r.blk ≠ some b := fun {k q b} hk hq hb => by
    have h1 : r.blk ≠ some b := fun e => hk (h.inj k g q r b hq h2 hb e)
    exact ⟨fun e => (hfresh b e).elim h1 fun hn => hn (.inr ⟨k, q, hq, hb⟩), h1⟩
  refine ⟨⟨by simp [h.len], fun b c hc => ?_, fun k y q hy hq => ?_, fun k k' q q' b hq hq' hb hb' => ?_, fun k q b hq hb => ?_, h.gk⟩, hp⟩
  · rw [hs b (.inl ⟨c, hc⟩) (fun e => by rw [h.apart g r b h2 e] at hc; cases hc)]; exact h.kn b c hc
  · rcases get hq with ⟨e1, e2⟩ | ⟨hk, hq1⟩
    · subst e2; rw [e1, List.getElem?_set_self (by rw [← h.len]; exact hlt)] at hy; cases hy; exact hob
    · rw [List.getElem?_set_ne (Ne.symm hk)] at hy
      exact (h.ob k y q hy hq1).keep (fun b hb => hs b (.inr ⟨k, q, hq1, hb⟩) (other hk hq1 hb).2) hp
  · rcases get hq with ⟨e1, e2⟩ | ⟨hk, hq1⟩ <;> rcases get hq' with ⟨e3, e4⟩ | ⟨hk', hq1'⟩
    · rw [e1, e3]
    · subst e2; exact absurd hb (other hk' hq1' hb').1
    · subst e4; exact absurd hb' (other hk hq1 hb).1
    · exact h.inj k k' q q' b hq1 hq1' hb hb'
  · rcases get hq with ⟨e1, e2⟩ | ⟨hk, hq1⟩
    · subst e2
      rcases hfresh b hb with e | hn
      · exact h.apart g r b h2 e
      · cases hK : K b with
        | none => rfl
        | some c => exact absurd (.inl ⟨c, hK⟩) hn
    · exact h.apart k q b hq1 hb
/-- A new object. -/
theorem Rel.snoc (h : Rel K φ H σ) {r : Rz} {y : Ob} (hob : ObR K (φ ++ [r]) σ y r) (hf : ∀ b, r.blk = some b → ¬ Used K φ b) : Rel K (φ ++ [r]) (H ++ [y]) σ ∧ Post φ.length K φ K (φ ++ [r]) := by
  have hp : Post φ.length K φ K (φ ++ [r]) := ⟨fun _ _ h => h, fun k q hk hq => ⟨q, by rw [List.getElem?_append_left hk]; exact hq, .refl _⟩⟩
  have get : ∀ {k : Nat} {q : Rz}, (φ ++ [r])[k]? = some q → (k = φ.length ∧ q = r) ∨ (k < φ.length ∧ φ[k]? = some q) := fun {k q} hq => by
    by_cases e : k < φ.length
    · rw [List.getElem?_append_left e] at hq; exact .inr ⟨e, hq⟩
    · have := get_lt hq
      simp at this
      have e : k = φ.length := by omega
      subst e
      rw [List.getElem?_append_right (by omega)] at hq
      simp at hq
      exact .inl ⟨rfl, hq.symm⟩
  refine ⟨⟨by simp [h.len], h.kn, fun k y' q hy hq => ?_, fun k k' q q' b hq hq' hb hb' => ?_, fun k q b hq hb => ?_, h.gk⟩, hp⟩
  · rcases get hq with ⟨e1, e2⟩ | ⟨hk, hq1⟩
    · rw [e1, h.len, List.getElem?_append_right (by omega)] at hy
      simp at hy
      subst hy; subst e2; exact hob
    · rw [List.getElem?_append_left (by rw [← h.len]; exact hk)] at hy
      exact (h.ob k y' q hy hq1).keep (fun _ _ => rfl) hp
  · rcases get hq with ⟨e1, e2⟩ | ⟨hk, hq1⟩ <;> rcases get hq' with ⟨e3, e4⟩ | ⟨hk', hq1'⟩
    · rw [e1, e3]
    · subst e2; exact absurd (.inr ⟨k', q', hq1', hb'⟩) (hf b hb)
    · subst e4; exact absurd (.inr ⟨k, q, hq1, hb⟩) (hf b hb')
    · exact h.inj k k' q q' b hq1 hq1' hb hb'
  · rcases get hq with ⟨e1, e2⟩ | ⟨hk, hq1⟩
    · subst e2
      cases hK : K b with
      | none => rfl
      | some c => exact absurd (.inl ⟨c, hK⟩) (hf b hb)
    · exact h.apart k q b hq1 hb
def Kn.add (K : Kn) (b : Nat) (c : List Value) : Kn := fun j => if j = b then some c else K j
/-- A block that is no object's is frozen. -/
theorem Rel.know (h : Rel K φ H σ) {b : Nat} {c : List Value} {p : Perm} (hb : σ[b]? = some ⟨c, p⟩) (hp : p ≠ .dead) (hn : ∀ (g : Nat) r, φ[g]? = some r → r.blk ≠ some b) : Rel (K.add b c) φ H σ ∧ Post φ.length K φ (K.add b c) φ := by
  have hpost : Post φ.length K φ (K.add b c) φ := ⟨fun j d hj => by
    unfold Kn.add
    split
    · rename_i e; subst e
      obtain ⟨p', h1, _⟩ := h.kn j d hj
      rw [hb] at h1; cases h1; rfl
    · exact hj, fun g r _ h => ⟨r, h, .refl _⟩⟩
  refine ⟨⟨h.len, fun j d hj => ?_, fun g y r h1 h2 => (h.ob g y r h1 h2).keep (fun _ _ => rfl) hpost, h.inj, fun g r j h1 h2 => ?_, fun p hp => hpost.kn _ _ (h.gk p hp)⟩, hpost⟩
  · unfold Kn.add at hj
    split at hj
    · rename_i e; subst e; cases hj; exact ⟨p, hb, hp⟩
    · exact h.kn j d hj
  · unfold Kn.add
    split
    · rename_i e; subst e; exact absurd h2 (hn g r h1)
    · exact h.apart g r j h1 h2
theorem Rel.new (h : Rel K φ H σ) (cs : List Value) (p : Perm) : Rel K φ H (σ ++ [⟨cs, p⟩]) := h.grow fun b hb => List.getElem?_append_left (h.used_lt hb)
theorem Rel.not_used (h : Rel K φ H σ) : ¬ Used K φ σ.length := fun hu => Nat.lt_irrefl _ (h.used_lt hu)
/-- What an operation answers. -/
def Snd (K : Kn) (φ : List Rz) (v : V) (H' : Hp) (r : Option (Value × Heap)) : Prop := ∃ a σ' K' φ', r = some (a, σ') ∧ Post φ.length K φ K' φ' ∧ Rel K' φ' H' σ' ∧ VR K' v φ' a
theorem Snd.same (h : Rel K φ H σ) (hv : VR K v φ a) : Snd K φ v H (some (a, σ)) := ⟨a, σ, K, φ, rfl, .refl _ _ _, h, hv⟩
theorem Snd.und (h : Rel K φ H σ) : Snd K φ (.tup []) H (some (undef, σ)) := .same h ⟨#[], rfl, rfl⟩
end
end Go.Proofs.Ytibejcomfjddfaa.VM
end
section
set_option maxHeartbeats 8000000
set_option linter.unusedVariables false
set_option linter.unusedSimpArgs false

/- The machine of values: operations. -/
namespace Go.Proofs.Ytibejcomfjddfaa.VM
open Go AM
section
variable {P : Program} {K K' : Kn} {φ φ' : List Rz} {H H' : Hp} {σ σ' : Heap} {v x : V} {a : Value} {q : Bool} {ρ : Operand → Value}
variable {dst : Option Tmp} {type : TypeId} {pos : String} {after : Array Edge} {guard : Option (Nat × Bool)}

theorem set_self {α : Type} {l : List α} {i : Nat} {x : α} (h : l[i]? = some x) : l.set i x = l := by
  apply List.ext_getElem?
  intro j
  by_cases e : i = j
  · subst e; rw [List.getElem?_set_self (get_lt h), h]
  · rw [List.getElem?_set_ne e]
theorem splice_left (A L vs : List Value) (o : Nat) : AM.splice (A ++ L) (A.length + o) vs = A ++ AM.splice L o vs := by
  unfold AM.splice
  rw [List.take_length_add_append, Nat.add_assoc, List.drop_length_add_append]
  simp
theorem splice_right (M L vs : List Value) (o : Nat) (h : o + vs.length ≤ M.length) : AM.splice (M ++ L) o vs = AM.splice M o vs ++ L := by
  unfold AM.splice
  rw [List.take_append_of_le_length (by omega), List.drop_append_of_le_length (by omega)]
  simp
theorem splice_row {old rest vals : List Value} {k s o : Nat} (h1 : k * s + s ≤ old.length) (h2 : o + vals.length ≤ s) :
    AM.splice (old ++ rest) (k * s + o) vals = AM.splice old (k * s) (AM.splice ((old.drop (k * s)).take s) o vals) ++ rest := by
  obtain ⟨A, M, B, rfl, hA, hM⟩ : ∃ A M B, old = A ++ (M ++ B) ∧ A.length = k * s ∧ M.length = s :=
    ⟨old.take (k * s), (old.drop (k * s)).take s, old.drop (k * s + s), by rw [← List.drop_drop, List.take_append_drop, List.take_append_drop], by simp; omega, by simp; omega⟩
  have hX : (AM.splice M o vals).length = s := by unfold AM.splice; simp; omega
  rw [← hA, List.append_assoc, splice_left, List.append_assoc, splice_right _ _ _ _ (by omega), List.drop_left, ← hM, List.take_left]
  have := splice_left A (M ++ B) (AM.splice M o vals) 0
  rw [Nat.add_zero] at this
  rw [this]
  unfold AM.splice at hX ⊢
  simp only [List.take_zero, List.nil_append, Nat.zero_add, hX, ← hM, List.drop_left]
  simp
/-- The rows of one's own slice. -/
def rowsAt (H : Hp) (g w : Nat) : Option (List (List V)) := match H[g]? with
  | some (.vec w' rows _ _ _) => if w = w' then some rows else none
  | some (.fro w' rows _) => if w = w' then some rows else none
  | _ => none
/-- The cells from a place on. -/
def at_ (H : Hp) : V → Option (List V)
  | .fptr cs => some cs
  | .ptr g o => match H[g]? with
    | some (.mem cells _) => if o ≤ cells.length then some (cells.drop o) else none
    | _ => none
  | .elt g w k o => match rowsAt H g w with
    | some rows => match rows[k]? with
      | some r => if o ≤ r.length then some (r.drop o) else none
      | none => none
    | none => none
  | _ => none
/-- The value is a slice that reads as rows. -/
def SL (K : Kn) (φ : List Rz) (σ : Heap) (rows : List (List V)) (s : Nat) (a : Value) : Prop := ∃ A c, a = .slice A rows.length c ∧ (A = none → c = 0) ∧ capOK c s rows.length ∧ s < 4294967296 ∧
  (rows.length = 0 ∧ A = none ∨ ∃ b o vals, A = some ⟨b, o, none⟩ ∧ readB σ[b]? o (rows.length * s) = some vals ∧ RowsR K s rows φ vals)
theorem SL.rowLen {rows : List (List V)} {s : Nat} (h : SL K φ σ rows s a) : ∀ r ∈ rows, r.length = s := by
  obtain ⟨A, c, _, _, _, _, ⟨h, _⟩ | ⟨b, o, vals, _, _, h⟩⟩ := h
  · intro r hr; have := List.length_pos_of_mem hr; omega
  · exact h.rowLen
theorem fsl_sound (hR : Rel K φ H σ) {rows : List (List V)} {s : Nat} {k : Bool} (h : VR K (.fsl k s rows) φ a) : SL K φ σ rows s a := by
  obtain ⟨A, c, h1, h2, _, h3, h4, h5⟩ := h
  refine ⟨A, c, h1, h2, h3, h4, h5.imp id fun ⟨b, o, cells, e1, e2, e3, e4⟩ => ?_⟩
  obtain ⟨p, hp1, hp2⟩ := hR.kn b cells e2
  refine ⟨b, o, _, e1, ?_, e4.monoN (n := 0) ⟨fun _ _ h => h, fun g r hg => by omega⟩⟩
  rw [hp1]
  unfold readB
  simp [hp2, e3]
theorem rowsAt_sound (hR : Rel K φ H σ) {g w : Nat} {rows : List (List V)} (h : rowsAt H g w = some rows) {r : Rz} {val : Value} {w' s : Nat} (h1 : φ[g]? = some r) (h2 : r.at_ = some (val, w', s)) :
    w' = w ∧ SL K φ σ rows s val := by
  unfold rowsAt at h
  split at h
  · rename_i w1 rows1 s1 rw1 t1 hg
    have hob := hR.ob g _ r hg h1
    split at h
    · rename_i hw
      cases h
      cases r with
      | mem b => cases h2
      | fro _ _ _ => exact hob.elim
      | vec val1 w2 s2 =>
        cases h2
        obtain ⟨e1, e2, hs0, hs1, _, h3⟩ := hob
        subst e1; subst e2
        refine ⟨hw.symm, ?_⟩
        rcases h3 with ⟨h3, h4 | ⟨b, o, cells, h4, h5, h6⟩⟩ | ⟨b, c, vals, rest, p, h4, h5, h6, h7, h8⟩
        · refine ⟨none, 0, by rw [h4, h3], fun _ => rfl, ?_, by omega, .inl ⟨h3, rfl⟩⟩
          unfold capOK; rw [capOf_exact_eq (by decide)]; simp only; omega
        · obtain ⟨p, hp1, hp2⟩ := hR.kn b cells h5
          refine ⟨_, 0, by rw [h4, h3], (fun e => by cases e), ?_, by omega, .inr ⟨b, o, [], rfl, ?_, ?_⟩⟩
          · unfold capOK; rw [capOf_exact_eq (by decide)]; simp only; omega
          · rw [hp1, h3]; unfold readB; simp [hp2]; exact h6
          · have : rows = [] := List.eq_nil_of_length_eq_zero h3
            subst this; rfl
        · refine ⟨_, c, h4, (fun e => by cases e), h5.ok, by omega, .inr ⟨b, 0, vals, rfl, ?_, h8⟩⟩
          · have := h8.len
            rw [h6]
            unfold readB
            have hp : p ≠ .dead := by unfold permOk at h7; split at h7 <;> simp_all
            simp [hp, ← this]
    · cases h
  · rename_i w1 rows1 s1 hg
    have hob := hR.ob g _ r hg h1
    split at h
    · rename_i hw
      cases h
      cases r with
      | mem b => cases h2
      | vec _ _ _ => exact hob.elim
      | fro val1 w2 s2 =>
        cases h2
        obtain ⟨e1, e2, h3⟩ := hob
        subst e1; subst e2
        exact ⟨hw.symm, fsl_sound hR (h3.monoN (n := 0) ⟨fun _ _ h => h, fun g r hg => by omega⟩)⟩
    · cases h
  · cases h
/-- The rows of a slice of elements of so many cells. -/
def rowsOf (H : Hp) (s : Nat) : V → Option (List (List V))
  | .lit (.slice none 0 0) => some []
  | .fsl _ s' rows => if s' = s then some rows else none
  | .own g w => match H[g]? with
    | some (.vec w' rows s' _ _) => if w = w' ∧ s' = s then some rows else none
    | some (.fro w' rows s') => if w = w' ∧ s' = s then some rows else none
    | _ => none
  | _ => none
theorem rowsOf_sound (hR : Rel K φ H σ) {s : Nat} {rows : List (List V)} (hs : s < 4294967296) (h : rowsOf H s x = some rows) (hr : VR K x φ a) : SL K φ σ rows s a := by
  unfold rowsOf at h
  split at h
  · cases h
    obtain ⟨rfl, _⟩ := hr
    refine ⟨none, 0, rfl, fun _ => rfl, ?_, hs, .inl ⟨rfl, rfl⟩⟩
    unfold capOK; rw [capOf_exact_eq (by decide)]; exact Nat.le_refl _
  · split at h
    · rename_i e; subst e; cases h; exact fsl_sound hR hr
    · cases h
  · rename_i g w
    obtain ⟨r, val, w', s1, h1, h2, h3, h4, _⟩ := hr
    have fin : ∀ rows, rowsAt H g w = some rows → s1 = s → SL K φ σ rows s a := fun rows hrow e => by
      subst e
      obtain ⟨e, h5⟩ := rowsAt_sound hR hrow h1 h2
      rw [h4 e]
      exact h5
    split at h
    · rename_i w1 rows1 s2 rw t hg
      split at h
      · rename_i hc
        obtain ⟨rfl, rfl⟩ := hc
        cases h
        refine fin _ (by unfold rowsAt; rw [hg]; simp) ?_
        have hob := hR.ob g _ _ hg h1
        cases r with
        | mem _ => cases h2
        | fro _ _ _ => exact hob.elim
        | vec _ _ _ => cases h2; exact hob.2.1.symm
      · cases h
    · rename_i w1 rows1 s2 hg
      split at h
      · rename_i hc
        obtain ⟨rfl, rfl⟩ := hc
        cases h
        refine fin _ (by unfold rowsAt; rw [hg]; simp) ?_
        have hob := hR.ob g _ _ hg h1
        cases r with
        | mem _ => cases h2
        | vec _ _ _ => exact hob.elim
        | fro _ _ _ => cases h2; exact hob.2.1.symm
      · cases h
    · cases h
  · cases h
theorem at_sound (hR : Rel K φ H σ) {cs : List V} (h : at_ H x = some cs) (hr : VR K x φ a) : ∃ b o vals, a = .pointer (some ⟨b, o, none⟩) ∧ readB σ[b]? o cs.length = some vals ∧ VRs K cs φ vals := by
  unfold at_ at h
  split at h
  · cases h
    obtain ⟨b, o, cells, h1, h2, h3, h4⟩ := hr
    obtain ⟨p, hp1, hp2⟩ := hR.kn b cells h2
    refine ⟨b, o, _, h1, ?_, h4.monoN (n := 0) ⟨fun _ _ h => h, fun g r hg => by omega⟩⟩
    rw [hp1]
    unfold readB
    simp [hp2, h3]
  · rename_i g o
    obtain ⟨b, h1, h2⟩ := hr
    split at h
    · rename_i cells rw hg
      split at h
      · rename_i ho
        cases h
        obtain ⟨vals, p, h3, h4, h5⟩ := hR.ob g _ _ hg h1
        have hp : p ≠ .dead := by unfold permOk at h4; split at h4 <;> simp_all
        have hl := h5.len
        refine ⟨b, o, vals.drop o, h2, ?_, h5.drop o⟩
        rw [h3]
        unfold readB
        simp only [List.length_drop]
        rw [if_pos ⟨hp, by omega⟩, ← hl, ← List.length_drop, List.take_length]
      · cases h
    · cases h
  · rename_i g w k o
    obtain ⟨r, val, w', s, h1, h2, h3, h4, _⟩ := hr
    split at h
    · rename_i rows hrow
      obtain ⟨hw, hSL⟩ := rowsAt_sound hR hrow h1 h2
      have hrl := hSL.rowLen
      obtain ⟨A, c, h5, _, _, _, h6⟩ := hSL
      split at h
      · rename_i rk hk
        split at h
        · rename_i ho
          cases h
          have hkl := get_lt hk
          rcases h6 with h6 | ⟨b, o', vals, h7, h8, h9⟩
          · omega
          · obtain ⟨b2, oo, n2, c2, e1, e2⟩ := h4 hw
            rw [h5] at e1
            cases e1
            cases h7
            have hlr := h9.rowLen rk (List.mem_of_getElem? hk)
            refine ⟨_, _, _, e2, ?_, (h9.get hk).drop o⟩
            have hks : k * s + s ≤ rows.length * s := by rw [← Nat.succ_mul]; exact Nat.mul_le_mul_right _ hkl
            have := readB_part h8 (i := k * s + o) (m := (rk.drop o).length) (by rw [List.length_drop]; omega)
            rw [← Nat.add_assoc] at this
            rw [this]
            congr 1
            rw [List.length_drop, hlr, List.drop_take, List.drop_drop]
        · cases h
      · cases h
    · cases h
  · cases h
def vLoad (P : Program) (t : TypeId) (H : Hp) (x : V) : Option V := match at_ H x, aggOf P t, szOf P t with
  | some cs, some true, some n => if n ≤ cs.length then some (.agg (cs.take n)) else none
  | some cs, some false, _ => cs[0]?
  | _, _, _ => none
theorem vLoad_sound (hR : Rel K φ H σ) {t : TypeId} (h : vLoad P t H x = some v) (hr : VR K x φ a) : ∃ b o y, a = .pointer (some ⟨b, o, none⟩) ∧ loadV P t σ ⟨b, o, none⟩ = some y ∧ VR K v φ y := by
  unfold vLoad at h
  split at h
  · rename_i cs n h1 h2 h3
    obtain ⟨b, o, vals, e1, e2, e3⟩ := at_sound hR h1 hr
    split at h
    · rename_i hn
      cases h
      refine ⟨b, o, .agg (vals.take n).toArray, e1, ?_, _, rfl, by simpa using e3.take n⟩
      unfold loadV
      rw [h2, h3]
      have := readB_part e2 (i := 0) (m := n) (by omega)
      simp only [readN_eq]
      rw [Nat.add_zero] at this
      rw [this]; rfl
    · cases h
  · rename_i cs n h1 h2
    obtain ⟨b, o, vals, e1, e2, e3⟩ := at_sound hR h1 hr
    obtain ⟨y, f1, f2⟩ := e3.get h
    have hl := get_lt h
    refine ⟨b, o, y, e1, ?_, f2⟩
    unfold loadV
    rw [h2]
    have := readB_part e2 (i := 0) (m := 1) (by omega)
    rw [Nat.add_zero] at this
    simp only [readN_eq, this, Option.bind_some]
    rw [List.drop_zero, List.getElem?_take, if_pos (by omega)]
    exact f1
  · cases h
/-- Cells are written. -/
def putAt (H : Hp) : V → List V → Option Hp
  | .ptr g o, vs => match H[g]? with
    | some (.mem cells true) => if o + vs.length ≤ cells.length then some (H.set g (.mem (spl cells o vs) true)) else none
    | _ => none
  | .elt g w k o, vs => match H[g]? with
    | some (.vec w' rows s true t) => if w = w' then (match rows[k]? with
      | some r => if o + vs.length ≤ r.length then some (H.set g (.vec w' (rows.set k (spl r o vs)) s true t)) else none
      | none => none) else none
    | _ => none
  | _, _ => none
theorem spl_len {cs vs : List V} {o : Nat} (h : o + vs.length ≤ cs.length) : (spl cs o vs).length = cs.length := by unfold spl; simp; omega
theorem putAt_sound (hR : Rel K φ H σ) {vs : List V} {vals : List Value} (h : putAt H x vs = some H') (hr : VR K x φ a) (hv : VRs K vs φ vals) (hvc : vs.all V.isCell = true) :
    ∃ b o σ', a = .pointer (some ⟨b, o, none⟩) ∧ writeN σ ⟨b, o, none⟩ vals = some σ' ∧ Rel K φ H' σ' := by
  unfold putAt at h
  have hc := hv.cells hvc
  have hvl := hv.len
  split at h
  · rename_i g o
    obtain ⟨b, h1, h2⟩ := hr
    split at h
    · rename_i cells hg
      split at h
      · rename_i ho
        cases h
        obtain ⟨old, p, h3, h4, h5⟩ := hR.ob g _ _ hg h1
        have hp : p = .full := h4
        subst hp
        have hl := h5.len
        have hset : φ.set g (.mem b) = φ := set_self h1
        have hu := hR.upd (r' := .mem b) (y' := .mem (spl cells o vs) true) (σ' := σ.set b ⟨AM.splice old o vals, .full⟩) h1 (.refl _)
          (by rw [hset]; exact ⟨_, .full, List.getElem?_set_self (get_lt h3), rfl, h5.splice hv⟩) (fun b hb => .inl hb) (fun j _ hj => List.getElem?_set_ne (fun e => hj (by rw [e]; rfl)))
        rw [hset] at hu
        refine ⟨b, o, _, h2, ?_, hu.1⟩
        rw [writeN_eq, h3, writeB_full, if_pos ⟨by omega, hc⟩]; rfl
      · cases h
    · cases h
  · rename_i g w k o
    obtain ⟨r, val, w', s, h1, h2, h3, h4, _⟩ := hr
    split at h
    · rename_i w1 rows s1 t1 hg
      split at h
      · rename_i hw
        subst hw
        split at h
        · rename_i rk hk
          split at h
          · rename_i ho
            cases h
            have hob := hR.ob g _ _ hg h1
            cases r with
            | mem _ => cases h2
            | fro _ _ _ => cases h2; exact hob.elim
            | vec val1 w2 s2 =>
              cases h2
              obtain ⟨e1, e2, hs0, hs1, hok, h5⟩ := hob
              subst e1; subst e2
              have hkl := get_lt hk
              obtain ⟨b2, oo, n, c2, e1, e2⟩ := h4 rfl
              rcases h5 with ⟨h5, _⟩ | ⟨b', c', old, rest, p, h5, h6, h7, h8, h9⟩
              · omega
              rw [h5] at e1
              simp only [Value.slice.injEq, Option.some.injEq, Addr.mk.injEq] at e1
              obtain ⟨⟨rfl, rfl, _⟩, _, _⟩ := e1
              have hp : p = .full := h8
              subst hp
              have hset : φ.set g (.vec val w s1) = φ := set_self h1
              have hrl := h9.rowLen rk (List.mem_of_getElem? hk)
              have hol := h9.len
              have hks : k * s1 + s1 ≤ rows.length * s1 := by rw [← Nat.succ_mul]; exact Nat.mul_le_mul_right _ hkl
              have hnew : RowsR K s1 (rows.set k (spl rk o vs)) φ (AM.splice old (k * s1) (AM.splice ((old.drop (k * s1)).take s1) o vals)) :=
                h9.set hkl (by rw [spl_len ho, hrl]) ((h9.get hk).splice hv)
              have heq : AM.splice (old ++ rest) (k * s1 + o) vals = AM.splice old (k * s1) (AM.splice ((old.drop (k * s1)).take s1) o vals) ++ rest := by
                exact splice_row (by omega) (by omega)
              have hok' : RowsOk s1 (rows.set k (spl rk o vs)) := fun r hr => by
                rcases List.mem_or_eq_of_mem_set hr with hr | rfl
                · exact hok r hr
                · have hrk := hok rk (List.mem_of_getElem? hk)
                  refine ⟨by rw [spl_len ho, hrl], ?_⟩
                  unfold spl
                  rw [List.all_append, List.all_append, hvc, Bool.and_true, Bool.and_eq_true]
                  exact ⟨List.all_eq_true.2 fun z hz => List.all_eq_true.1 hrk.2 z (List.mem_of_mem_take hz), List.all_eq_true.2 fun z hz => List.all_eq_true.1 hrk.2 z (List.mem_of_mem_drop hz)⟩
              have hu := hR.upd (r' := .vec val w s1) (y' := .vec w (rows.set k (spl rk o vs)) s1 true t1) (σ' := σ.set b' ⟨AM.splice (old ++ rest) (k * s1 + o) vals, .full⟩) h1 (.refl _)
                (by
                  rw [hset]
                  refine ⟨rfl, rfl, hs0, hs1, hok', .inr ⟨b', c', _, rest, .full, by rw [List.length_set]; exact h5, ?_, ?_, rfl, hnew⟩⟩
                  · have hl1 := hnew.len
                    rw [List.length_set] at hl1 ⊢
                    rw [List.length_append, hl1, ← hol, ← List.length_append]; exact h6
                  · rw [List.getElem?_set_self (get_lt h7), heq]) (fun b hb => .inl hb) (fun j _ hj => List.getElem?_set_ne (fun e => hj (by rw [← e]; exact vec_blk h5 h6)))
              rw [hset] at hu
              refine ⟨b', 0 + k * s1 + o, _, e2, ?_, hu.1⟩
              rw [writeN_eq, h7, writeB_full, if_pos ⟨by rw [List.length_append]; omega, hc⟩, Nat.zero_add]; rfl
          · cases h
        · cases h
      · cases h
    · cases h
  · cases h
def vStore (P : Program) (t : TypeId) (H : Hp) (x v : V) : Option Hp := match szOf P t with
  | some n => if v.cells.length = n ∧ v.cells.all V.isCell = true then putAt H x v.cells else none
  | none => none
end
end Go.Proofs.Ytibejcomfjddfaa.VM
end
section
set_option maxHeartbeats 8000000
set_option linter.unusedVariables false
set_option linter.unusedSimpArgs false

/- The machine of values: slices. -/
namespace Go.Proofs.Ytibejcomfjddfaa.VM
open Go AM
section
variable {P : Program} {K K' : Kn} {φ φ' : List Rz} {H H' : Hp} {σ σ' : Heap} {v x : V} {a : Value} {q : Bool} {ρ : Operand → Value}

def isInt : V → Option Int
  | .lit (.int _ j) => some j
  | _ => none
theorem isInt_sound {j : Int} (h : isInt v = some j) (hr : VR K v φ a) : ∃ k, a = .int k j := by
  unfold isInt at h
  split at h
  · cases h; exact ⟨_, hr.1⟩
  · cases h
/-- Where an element is. -/
def vIdx (P : Program) (t : TypeId) (H : Hp) (x i : V) : Option V := match isInt i with
  | none => none
  | some j => if 0 ≤ j then (match P.underlying t with
    | some (.slice e) => match szOf P e, x with
      | some s, .fsl _ s' rows => if s' = s then rows[j.toNat]?.map .fptr else none
      | some s, .own g w => match H[g]? with
        | some (.vec w' rows s' _ _) => if w = w' ∧ s = s' ∧ j.toNat < rows.length then some (.elt g w j.toNat 0) else none
        | some (.fro w' rows s') => if w = w' ∧ s' = s then rows[j.toNat]?.map .fptr else none
        | _ => none
      | _, _ => none
    | some (.array n e) => match szOf P e with
      | some s => if j.toNat < n then (match x with
        | .ptr g o => some (.ptr g (o + j.toNat * s))
        | .fptr cs => if j.toNat * s ≤ cs.length then some (.fptr (cs.drop (j.toNat * s))) else none
        | .elt g w k o => some (.elt g w k (o + j.toNat * s))
        | _ => none) else none
      | none => none
    | _ => none) else none
theorem rowPtr_sound {rows : List (List V)} {s k : Nat} {kk : Bool} (h : rows[k]?.map V.fptr = some v) (hr : VR K (.fsl kk s rows) [] a) : k < rows.length ∧ ∃ A c, a = .slice (some A) rows.length c ∧ VR K v φ (.pointer (some (A.add (k * s)))) := by
  cases hk : rows[k]? with
  | none => rw [hk] at h; cases h
  | some r =>
    rw [hk] at h
    cases h
    have hkl := get_lt hk
    obtain ⟨A, c, h1, h2, _, h3, h4, ⟨h5, _⟩ | ⟨b, o, cells, h5, h6, h7, h8⟩⟩ := hr
    · omega
    subst h5
    have hs := h8.rowLen r (List.mem_of_getElem? hk)
    have hks : k * s + s ≤ rows.length * s := by rw [← Nat.succ_mul]; exact Nat.mul_le_mul_right _ hkl
    refine ⟨hkl, _, c, h1, b, o + k * s, cells, by rw [Addr.add_lit], h6, by omega, ?_⟩
    have := h8.get hk
    rw [List.drop_take, List.take_take, List.drop_drop] at this
    rw [hs]
    rwa [Nat.min_eq_left (by omega)] at this
theorem VR.up {v : V} {a : Value} (h : VR K v [] a) : VR K v φ a := h.monoN (n := 0) ⟨fun _ _ h => h, fun g r hg => by omega⟩
theorem idx_slice {t e s n c : Nat} {j : Int} {A : Addr} {k : IntKind} (hu : P.underlying t = some (.slice e)) (hs : szOf P e = some s) (h0 : 0 ≤ j) (hj : j.toNat < n) :
    idxAddr P t (.slice (some A) n c) (.int k j) σ = some (.pointer (some (A.add (j.toNat * s))), σ) := by
  unfold idxAddr
  rw [hu]; dsimp only; rw [hs]; dsimp only
  rw [if_pos ⟨h0, by omega⟩]
theorem vIdx_sound (hR : Rel K φ H σ) {t : TypeId} {i : V} {ai : Value} (h : vIdx P t H x i = some v) (hr : VR K x φ a) (hi : VR K i φ ai) : Snd K φ v H (idxAddr P t a ai σ) := by
  unfold vIdx at h
  split at h
  · cases h
  rename_i j hj
  obtain ⟨ik, rfl⟩ := isInt_sound hj hi
  split at h
  · rename_i h0
    split at h
    · rename_i e hu
      split at h
      · rename_i s k s' rows hs
        split at h
        · rename_i e
          subst e
          have hr' : VR K (.fsl k s' rows) [] a := hr
          obtain ⟨hk, A, c, h1, h2⟩ := rowPtr_sound (φ := φ) h hr'
          subst h1
          rw [idx_slice hu hs h0 hk]
          exact .same hR h2
        · cases h
      · rename_i s g w hs
        obtain ⟨r, val, w', s1, h1, h2, h3, h4, h5, h6, h7, h8⟩ := hr
        subst h8
        split at h
        · rename_i w2 rows s' rw t' hg
          split at h
          · rename_i hc
            obtain ⟨rfl, rfl, hlt⟩ := hc
            cases h
            have hob := hR.ob g _ _ hg h1
            cases r with
            | mem _ => cases h2
            | fro _ _ _ => exact hob.elim
            | vec val1 w2 s2 =>
              cases h2
              obtain ⟨e1, e2, hs0, hs1, hok, e5⟩ := hob
              subst e1; subst e2
              have e4 := h4 rfl
              rcases e5 with ⟨e5, _⟩ | ⟨b, c, vals, rest, p, e5, _⟩
              · omega
              rw [e5] at e4
              cases e4
              rw [idx_slice hu hs h0 hlt]
              exact .same hR ⟨_, _, w, s, h1, rfl, Nat.le_refl _, fun _ => ⟨b, 0, _, _, e5, by rw [Addr.add_lit, Nat.add_zero]⟩, _, rfl⟩
          · cases h
        · rename_i w2 rows s' hg
          split at h
          · rename_i hw
            obtain ⟨rfl, rfl⟩ := hw
            have hob := hR.ob g _ _ hg h1
            cases r with
            | mem _ => cases h2
            | vec _ _ _ => exact hob.elim
            | fro val1 w2 s2 =>
              cases h2
              obtain ⟨e1, e3, e2⟩ := hob
              subst e1
              rw [← h4 rfl] at e2
              obtain ⟨hk, A, c, g1, g2⟩ := rowPtr_sound (φ := φ) h e2
              rw [g1, idx_slice hu hs h0 hk]
              exact .same hR g2
          · cases h
        · cases h
      · cases h
    · rename_i n e hu
      split at h
      · rename_i s hs
        split at h
        · rename_i hn
          have key : ∀ A : Addr, idxAddr P t (.pointer (some A)) (.int ik j) σ = some (.pointer (some (A.add (j.toNat * s))), σ) := fun A => by
            unfold idxAddr
            rw [hu]; dsimp only; rw [hs]; dsimp only
            rw [if_pos ⟨h0, by omega⟩]
          split at h
          · cases h
            obtain ⟨b, h1, rfl⟩ := hr
            rw [key]
            exact .same hR ⟨b, h1, by rw [Addr.add_lit]⟩
          · rename_i cs
            split at h
            · rename_i hle
              cases h
              obtain ⟨b, o, cells, rfl, h2, h3, h4⟩ := hr
              rw [key]
              refine .same hR ⟨b, o + j.toNat * s, cells, by rw [Addr.add_lit], h2, by rw [List.length_drop]; omega, ?_⟩
              have := h4.drop (j.toNat * s)
              rw [List.drop_take, List.drop_drop] at this
              rw [List.length_drop]
              exact this
            · cases h
          · cases h
            obtain ⟨r, val, w', s1, h1, h2, h3, h4, x, h5⟩ := hr
            subst h5
            rw [key]
            exact .same hR ⟨r, val, w', s1, h1, h2, h3, fun e => by
              obtain ⟨b, oo, n, c, g1, g2⟩ := h4 e
              cases g2
              exact ⟨b, oo, n, c, g1, by rw [Addr.add_lit, Nat.add_assoc]⟩, _, rfl⟩
          · cases h
        · cases h
      · cases h
    · cases h
  · cases h
/-- What is appended. -/
def srcV (P : Program) (H : Hp) (s : Nat) (tx : TypeId) (x : V) : Option (List (List V)) := match P.underlying tx with
  | some (.slice _) => rowsOf H s x
  | some .string => match x with
    | .lit (.string b) => if s = 1 then some ((byteCells b).map fun c => [.lit c]) else none
    | _ => none
  | _ => none
theorem byteCells_len (b : ByteArray) : (byteCells b).length = b.size := by
  unfold byteCells; simp
theorem rows1 : ∀ {l : List Value}, (∀ c ∈ l, scalarB c = true) → RowsR K 1 (l.map fun c => [V.lit c]) φ l
  | [], _ => rfl
  | c :: l, h => ⟨[c], l, rfl, rfl, ⟨c, [], rfl, ⟨rfl, h c (by simp)⟩, rfl⟩, rows1 fun d hd => h d (by simp [hd])⟩
theorem byteCells_scalar {b : ByteArray} : ∀ c ∈ byteCells b, scalarB c = true := by
  intro c hc
  unfold byteCells at hc
  obtain ⟨y, _, rfl⟩ := List.mem_map.1 hc
  rfl
theorem RowsR.cells {s : Nat} : ∀ {xs : List (List V)} {vals : List Value}, RowsR K s xs φ vals → RowsOk s xs → vals.all cellB = true
  | [], _, h, _ => by simp only [RowsR] at h; subst h; rfl
  | r :: rs, _, ⟨a, as, h1, h2, h3, h4⟩, ho => by
    subst h1
    rw [List.all_append, h3.cells (ho r (by simp)).2, RowsR.cells h4 fun y hy => ho y (by simp [hy])]; rfl
theorem srcV_sound (hR : Rel K φ H σ) {s : Nat} {tx : TypeId} {xs : List (List V)} (hs : s < 4294967296) (h : srcV P H s tx x = some xs) (hr : VR K x φ a) : ∃ vals, srcOf P σ s tx a = some (xs.length, vals) ∧ RowsR K s xs φ vals := by
  unfold srcV at h
  split at h
  · rename_i e hu
    obtain ⟨A, c, h1, h2, h3, h4, h5⟩ := rowsOf_sound hR hs h hr
    subst h1
    unfold srcOf
    rw [hu]
    rcases h5 with ⟨h5, h6⟩ | ⟨b, o, vals, h5, h6, h7⟩
    · subst h6
      rw [h2 rfl, h5]
      cases xs with
      | nil => exact ⟨[], rfl, rfl⟩
      | cons _ _ => simp at h5
    · subst h5
      simp only [readN_eq, h6]
      exact ⟨vals, rfl, h7⟩
  · rename_i hu
    split at h
    · rename_i b
      split at h
      · rename_i hs
        subst hs
        cases h
        obtain ⟨rfl, _⟩ := hr
        unfold srcOf
        rw [hu]
        refine ⟨byteCells b, ?_, rows1 byteCells_scalar⟩
        simp [byteCells_len]
      · cases h
    · cases h
  · cases h
def vAppend (P : Program) (q : Bool) (t tx : TypeId) (H : Hp) (s x : V) : Option (V × Hp) := match P.underlying t with
  | some (.slice e) => match szOf P e, byOf P e, zeroOf P e with
    | some size, some bytes, some z =>
      if size ≠ 0 ∧ z.cells.size = size ∧ size ≤ 1048576 ∧ bytes ≤ 4096 then (match srcV P H size tx x with
        | some xs => match s with
          | .lit (.slice none 0 0) => if RowsOk size xs ∧ xs.length ≤ 17179869184 then (if xs.length = 0 then some (s, H) else some (.own H.length 0, H ++ [.vec 0 xs size true true])) else none
          | .own g w => match H[g]? with
            | some (.vec w' rows s' true t) => if w = w' ∧ s' = size ∧ RowsOk size xs ∧ rows.length + xs.length ≤ 17179869184 ∧ (q = false ∨ t = true) then some (.own g (w' + 1), H.set g (.vec (w' + 1) (rows ++ xs) size true t)) else none
            | _ => none
          | _ => none
        | none => none) else none
    | _, _, _ => none
  | _ => none
theorem capV_new {t : Bool} {s n total : Nat} (h1 : n ≤ 17179869184) (h2 : s ≤ 1048576) (h3 : n * s ≤ total) : CapV t (unk s n) s n total :=
  ⟨by unfold unk; have : 0 < top := by simp [top]
      have := Nat.mul_pos this (Nat.succ_pos s); simp only [Nat.succ_eq_add_one] at this; omega, n, ⟨Nat.le_refl _, by simp only [maxLen]; omega⟩, h3, fun _ => rfl, .inr (capOf_unk_eq (by simp only [top]; omega) (by omega))⟩
theorem splice_end (A R vs : List Value) : AM.splice (A ++ R) A.length vs = A ++ vs ++ R.drop vs.length := by
  have := splice_left A R vs 0
  rw [Nat.add_zero] at this
  rw [this]
  unfold AM.splice
  simp
theorem capOf_unkS {s n : Nat} (h1 : n ≤ 17179869184) (h2 : s ≤ 1048576) : capOf (unk s n) = .unk s n := capOf_unk_eq (by simp only [top]; omega) (by omega)
theorem vAppend_sound (hR : Rel K φ H σ) {ty tx : TypeId} {s : V} {as ax : Value} {H' : Hp} (h : vAppend P q ty tx H s x = some (v, H')) (hs : VR K s φ as) (hx : VR K x φ ax) : Snd K φ v H' (aAppend P q ty tx as ax σ) := by
  unfold vAppend at h
  split at h
  · rename_i e hu
    split at h
    · rename_i size bytes z hsz hby hz
      split at h
      · rename_i hc
        obtain ⟨c1, c2, c3, c4⟩ := hc
        split at h
        · rename_i xs hsrc
          split at h
          · split at h
            · rename_i ho
              obtain ⟨ho, hn⟩ := ho
              obtain ⟨vals, h1, h2⟩ := srcV_sound hR (by omega) hsrc hx
              obtain ⟨rfl, _⟩ := hs
              rw [append_nil hu hsz hby hz h1 ⟨c1, c2, c3, c4, by omega, h2.cells ho⟩]
              split at h
              · rename_i h0
                cases h
                rw [if_pos h0]
                exact .same hR ⟨rfl, rfl⟩
              · rename_i h0
                cases h
                rw [if_neg h0]
                have hR' := hR.new vals .full
                have hr : RowsR K size xs (φ ++ [.vec (.slice (some ⟨σ.length, 0, none⟩) xs.length (unk size xs.length)) 0 size]) vals := h2.on ⟨fun _ _ h => h, fun k q hk hq => ⟨q, by rw [List.getElem?_append_left hk]; exact hq, .refl _⟩⟩
                have hvl := h2.len
                obtain ⟨h5, h6⟩ := hR'.snoc (r := .vec (.slice (some ⟨σ.length, 0, none⟩) xs.length (unk size xs.length)) 0 size) (y := .vec 0 xs size true true)
                  ⟨rfl, rfl, by omega, c3, ho, .inr ⟨σ.length, _, vals, [], .full, rfl, capV_new hn c3 (by simp; omega), by simp, rfl, hr⟩⟩ (fun b hb => by
                    rw [vec_blk rfl (capV_new (t := true) (total := xs.length * size) hn c3 (Nat.le_refl _))] at hb; cases hb; exact hR.not_used)
                refine ⟨_, _, K, _, rfl, h6, h5, .vec (.slice (some ⟨σ.length, 0, none⟩) xs.length (unk size xs.length)) 0 size, _, 0, size, ?_, rfl, Nat.le_refl _, fun _ => rfl, _, _, _, rfl⟩
                rw [← hR.len, List.getElem?_append_right (by omega)]
                simp
            · cases h
          · rename_i g w
            split at h
            · rename_i w' rows s' t hg
              split at h
              · rename_i hc
                obtain ⟨rfl, rfl, ho, hn, hq⟩ := hc
                cases h
                obtain ⟨vals, h1, h2⟩ := srcV_sound hR (by omega) hsrc hx
                obtain ⟨r, val, w', s1, g1, g2, g3, g4, _⟩ := hs
                have hob := hR.ob g _ _ hg g1
                cases r with
                | mem _ => cases g2
                | fro _ _ _ => exact hob.elim
                | vec val1 w2 s2 =>
                  cases g2
                  obtain ⟨e1, e2, hs0, hs1, hok, e5⟩ := hob
                  subst e1; subst e2
                  rw [g4 rfl]
                  have hcells := h2.cells ho
                  have hvl := h2.len
                  have hpostS : ∀ a' : Value, Post φ.length K φ K (φ.set g (.vec a' (w + 1) s')) := fun a' => ⟨fun _ _ h => h, fun k q hk hq => by
                    by_cases e : k = g
                    · subst e; rw [g1] at hq; cases hq
                      exact ⟨.vec a' (w + 1) s', by rw [List.getElem?_set_self hk], rfl, Nat.le_succ _, fun e => by omega⟩
                    · exact ⟨q, by rw [List.getElem?_set_ne (Ne.symm e)]; exact hq, .refl _⟩⟩
                  -- the new realization
                  have fin : ∀ (a' : Value) (σ1 : Heap) (b : Nat) (c : Nat) (V0 rest : List Value), aAppend P q ty tx val ax σ = some (a', σ1) → a' = .slice (some ⟨b, 0, none⟩) (rows.length + xs.length) c →
                      CapV t c s' (rows.length + xs.length) (V0 ++ vals ++ rest).length → σ1[b]? = some ⟨V0 ++ vals ++ rest, .full⟩ → RowsR K s' rows φ V0 →
                      (Rz.vec val w s').blk = some b ∨ ¬ Used K φ b → (∀ j, Used K φ j → (Rz.vec val w s').blk ≠ some j → σ1[j]? = σ[j]?) →
                      Snd K φ (.own g (w + 1)) (H.set g (.vec (w + 1) (rows ++ xs) s' true t)) (aAppend P q ty tx val ax σ) := fun a' σ1 b c V0 rest k1 k2 k3 k4 k5 k6 k7 => by
                    obtain ⟨u1, u2⟩ := hR.upd (r' := .vec a' (w + 1) s') (y' := .vec (w + 1) (rows ++ xs) s' true t) (σ' := σ1) g1 ⟨rfl, Nat.le_succ _, fun e => by omega⟩
                      ⟨rfl, rfl, hs0, hs1, hok.append ho, .inr ⟨b, c, V0 ++ vals, rest, .full, by rw [k2, List.length_append], by rw [List.length_append]; exact k3, k4, rfl, (k5.append h2).on (hpostS a')⟩⟩
                      (fun j hj => by rw [vec_blk k2 k3] at hj; cases hj; exact k6) k7
                    refine ⟨a', σ1, K, _, k1, u2, u1, .vec a' (w + 1) s', a', w + 1, s', List.getElem?_set_self (get_lt g1), rfl, Nat.le_refl _, fun _ => rfl, _, _, _, k2⟩
                  -- nothing is appended to an empty slice without room
                  have same : xs = [] → rows = [] → Emp K val → aAppend P q ty tx val ax σ = some (val, σ) → Snd K φ (.own g (w + 1)) (H.set g (.vec (w + 1) (rows ++ xs) s' true t)) (aAppend P q ty tx val ax σ) := fun e1 e2 k0 k1 => by
                    subst e1; subst e2
                    obtain ⟨u1, u2⟩ := hR.upd (r' := .vec val (w + 1) s') (y' := .vec (w + 1) ([] ++ []) s' true t) (σ' := σ) g1 ⟨rfl, Nat.le_succ _, fun e => by omega⟩ ⟨rfl, rfl, hs0, hs1, hok, .inl ⟨rfl, k0⟩⟩ (fun j hj => by
                      rcases k0 with k0 | ⟨_, _, _, k0, _⟩ <;> rw [k0] at hj <;> cases hj) (fun _ _ _ => rfl)
                    refine ⟨_, _, K, _, k1, u2, u1, .vec val (w + 1) s', val, w + 1, s', List.getElem?_set_self (get_lt g1), rfl, Nat.le_refl _, fun _ => rfl, ?_⟩
                    rcases k0 with k0 | ⟨_, _, _, k0, _⟩ <;> exact ⟨_, _, _, k0⟩
                  have newfin : ∀ (V0 : List Value) (σ1 : Heap), RowsR K s' rows φ V0 → (∀ j, Used K φ j → (Rz.vec val w s').blk ≠ some j → σ1[j]? = σ[j]?) → σ1.length = σ.length →
                      aAppend P q ty tx val ax σ = some (.slice (some ⟨σ1.length, 0, none⟩) (rows.length + xs.length) (unk s' (rows.length + xs.length)), σ1 ++ [⟨V0 ++ vals, .full⟩]) → Snd K φ (.own g (w + 1)) (H.set g (.vec (w + 1) (rows ++ xs) s' true t)) (aAppend P q ty tx val ax σ) := fun V0 σ1 k5 k7 kl k1 => by
                    have hV0 := k5.len
                    refine fin _ _ σ1.length _ V0 [] k1 rfl (capV_new hn c3 (by simp [hV0, hvl, Nat.add_mul])) (by simp) k5 (.inr (by rw [kl]; exact hR.not_used)) (fun j hj hne => ?_)
                    rw [List.getElem?_append_left (by rw [kl]; exact hR.used_lt hj)]
                    exact k7 j hj hne
                  rcases e5 with ⟨e5, e6 | ⟨b0, o0, cs0, e6, e7, e8⟩⟩ | ⟨b, c, old, rest, p, e5, ⟨hc0, C, hC1, hC2, hC3, hC4⟩, e7, e8, e9⟩
                  · -- nil
                    subst e6
                    have hrows : rows = [] := List.eq_nil_of_length_eq_zero e5
                    have key := append_nil (q := q) hu hsz hby hz h1 ⟨c1, c2, c3, c4, by omega, hcells⟩
                    by_cases h0 : xs.length = 0
                    · exact same (List.eq_nil_of_length_eq_zero h0) hrows (.inl rfl) (by rw [key, if_pos h0])
                    · rw [if_neg h0] at key
                      exact newfin [] σ (by rw [hrows]; rfl) (fun _ _ _ => rfl) rfl (by rw [key, hrows]; simp)
                  · -- no room
                    have hrows : rows = [] := List.eq_nil_of_length_eq_zero e5
                    obtain ⟨p0, hp1, hp2⟩ := hR.kn b0 cs0 e7
                    have hcap0 : capOf 0 = .exact 0 := capOf_exact_eq (by decide)
                    have hrd : readN σ ⟨b0, o0, none⟩ (0 * s') = some [] := by
                      rw [readN_eq, hp1]; unfold readB; simp [hp2, e8]
                    by_cases h0 : xs.length = 0
                    · refine same (List.eq_nil_of_length_eq_zero h0) hrows (.inr ⟨_, _, _, e6, e7, e8⟩) ?_
                      rw [e6]
                      unfold aAppend
                      rw [hu]; dsimp only; rw [hsz, hby, hz]; dsimp only; rw [h1]; dsimp only
                      rw [if_neg (Decidable.not_not.2 ⟨c1, c2, c3, c4, by omega, hcells⟩), hcap0]
                      simp [h0]
                    · refine newfin [] σ (by rw [hrows]; rfl) (fun _ _ _ => rfl) rfl ?_
                      rw [e6]
                      unfold aAppend
                      rw [hu]; dsimp only; rw [hsz, hby, hz]; dsimp only; rw [h1]; dsimp only
                      rw [if_neg (Decidable.not_not.2 ⟨c1, c2, c3, c4, by omega, hcells⟩), hcap0]
                      dsimp only
                      rw [if_neg (by omega), hrd, hrows]
                      simp only [newBlk, List.nil_append, hcells, if_true, Option.map_some, List.length_nil, Nat.zero_add]
                  · have hp : p = .full := e8
                    subst hp
                    have holdl := e9.len
                    have hblk : (Rz.vec val w s').blk = some b := vec_blk (t := t) (m := rows.length) (total := (old ++ rest).length) (s := s') e5 ⟨hc0, C, hC1, hC2, hC3, hC4⟩
                    have hun : ∀ r, (match capOf c with
                        | .exact c => if rows.length + xs.length ≤ c then (if xs.length = 0 then some (val, σ) else if q then none else (writeN σ (Addr.add ⟨b, 0, none⟩ (rows.length * s')) vals).map fun σ' => (.slice (some ⟨b, 0, none⟩) (rows.length + xs.length) c, σ'))
                          else match readN σ ⟨b, 0, none⟩ (rows.length * s') with
                            | some olds => (newBlk σ (olds ++ vals)).map fun (a, σ') => (.slice (some a) (rows.length + xs.length) (unk s' (rows.length + xs.length)), σ')
                            | none => none
                        | .unk es lb =>
                          if xs.length = 0 then some (val, σ)
                          else if rows.length + xs.length ≤ lb then (if q then none else (writeN σ (Addr.add ⟨b, 0, none⟩ (rows.length * s')) vals).map fun σ' => (.slice (some ⟨b, 0, none⟩) (rows.length + xs.length) c, σ'))
                          else if rows.length * s' ≤ (old ++ rest).length ∧ es = s' then (newBlk (kill σ b) ((old ++ rest).take (rows.length * s') ++ vals)).map fun (a, σ') => (.slice (some a) (rows.length + xs.length) (unk s' (rows.length + xs.length)), σ')
                              else none
                        | .dng => none) = r → aAppend P q ty tx val ax σ = r := fun r hr => by
                      rw [← hr, e5]
                      unfold aAppend
                      rw [hu]; dsimp only; rw [hsz, hby, hz]; dsimp only; rw [h1]; dsimp only
                      rw [if_neg (Decidable.not_not.2 ⟨c1, c2, c3, c4, hn, hcells⟩)]
                      cases capOf c with
                      | exact c => rfl
                      | unk es lb => dsimp only; rw [e7]; simp
                      | dng => rfl
                    have hall : (old ++ vals).all cellB = true := by rw [List.all_append, hcells, e9.cells hok]; rfl
                    have inpl : rows.length + xs.length ≤ C → xs.length ≠ 0 → aAppend P q ty tx val ax σ = (if q then none else (writeN σ (Addr.add ⟨b, 0, none⟩ (rows.length * s')) vals).map fun σ' => (.slice (some ⟨b, 0, none⟩) (rows.length + xs.length) c, σ')) → Snd K φ (.own g (w + 1)) (H.set g (.vec (w + 1) (rows ++ xs) s' true t)) (aAppend P q ty tx val ax σ) := fun hfit h0 k1 => by
                      have htf : t = false := by
                        cases t with
                        | false => rfl
                        | true => have := hC3 rfl; omega
                      have hqf : q = false := hq.elim id fun h => by rw [htf] at h; cases h
                      have hCs : (rows.length + xs.length) * s' ≤ C * s' := Nat.mul_le_mul_right _ hfit
                      rw [Nat.add_mul] at hCs
                      have hrl : vals.length ≤ rest.length := by simp at hC2; omega
                      have hsp : AM.splice (old ++ rest) (rows.length * s') vals = old ++ vals ++ rest.drop vals.length := by rw [← holdl]; exact splice_end _ _ _
                      refine fin (.slice (some ⟨b, 0, none⟩) (rows.length + xs.length) c) (σ.set b ⟨old ++ vals ++ rest.drop vals.length, .full⟩) b c old (rest.drop vals.length) ?_ rfl ⟨hc0, C, ⟨hfit, hC1.2⟩, ?_, (fun ht => by rw [htf] at ht; cases ht), hC4⟩ ?_ e9 (.inl hblk) (fun j hj hne => List.getElem?_set_ne (fun e => hne (by rw [← e]; exact hblk)))
                      · rw [k1, hqf]
                        simp only [Bool.false_eq_true, if_false, Addr.add_lit, Nat.zero_add]
                        rw [writeN_eq, e7, writeB_full, if_pos ⟨by simp; omega, hcells⟩, hsp]; rfl
                      · have : (old ++ vals ++ rest.drop vals.length).length = (old ++ rest).length := by simp; omega
                        rw [this]; exact hC2
                      · rw [List.getElem?_set_self (get_lt e7)]
                    have nothing : xs.length = 0 → aAppend P q ty tx val ax σ = some (val, σ) → Snd K φ (.own g (w + 1)) (H.set g (.vec (w + 1) (rows ++ xs) s' true t)) (aAppend P q ty tx val ax σ) := fun h0 k1 => by
                      have hxs : xs = [] := List.eq_nil_of_length_eq_zero h0
                      subst hxs
                      have hv : vals = [] := h2
                      subst hv
                      exact fin val σ b c old rest k1 (by simpa using e5) ⟨hc0, C, by simpa using hC1, by simpa using hC2, by simpa using hC3, hC4⟩ (by simpa using e7) e9 (.inl hblk) (fun _ _ _ => rfl)
                    rcases hC4 with hC4' | hC4'
                    · rw [hC4'] at hun
                      dsimp only at hun
                      by_cases hfit : rows.length + xs.length ≤ C
                      · rw [if_pos hfit] at hun
                        by_cases h0 : xs.length = 0
                        · exact nothing h0 (hun _ (by rw [if_pos h0]))
                        · have hcC := (capOf_exact hC4').1
                          exact inpl hfit h0 (by rw [hun _ rfl, if_neg h0, hcC])
                      · rw [if_neg hfit] at hun
                        have hrd : readN σ ⟨b, 0, none⟩ (rows.length * s') = some old := by
                          rw [readN_eq, e7, readB_full, if_pos (by simp; omega), List.drop_zero, ← holdl, List.take_left]
                        refine newfin old σ e9 (fun _ _ _ => rfl) rfl (hun _ ?_)
                        rw [hrd]
                        simp only [newBlk, hall, if_true, Option.map_some]
                    · rw [hC4'] at hun
                      dsimp only at hun
                      by_cases h0 : xs.length = 0
                      · exact nothing h0 (hun _ (by rw [if_pos h0]))
                      · rw [if_neg h0] at hun
                        by_cases hfit : rows.length + xs.length ≤ C
                        · exact inpl hfit h0 (hun _ (by rw [if_pos hfit]))
                        · rw [if_neg hfit] at hun
                          have htk : (old ++ rest).take (rows.length * s') = old := by rw [← holdl, List.take_left]
                          refine newfin old (kill σ b) e9 (fun j hj hne => by rw [kill_get, if_neg (by intro e; subst e; exact hne hblk)]) (kill_len _ _) (hun _ ?_)
                          rw [if_pos ⟨by simp; omega, rfl⟩, htk]
                          simp only [newBlk, hall, if_true, Option.map_some]
              · cases h
            · cases h
          · cases h
        · cases h
      · cases h
    · cases h
  · cases h
end
end Go.Proofs.Ytibejcomfjddfaa.VM
end
section
set_option maxHeartbeats 8000000
set_option linter.unusedVariables false
set_option linter.unusedSimpArgs false

/- The machine of values: the other operations. -/
namespace Go.Proofs.Ytibejcomfjddfaa.VM
open Go AM
section
variable {P : Program} {K K' : Kn} {φ φ' : List Rz} {H H' : Hp} {σ σ' : Heap} {v x : V} {a : Value} {q : Bool} {ρ : Operand → Value}

def intOptV : Option V → Option (Option Int)
  | none => some none
  | some v => (isInt v).map some
def OptR (K : Kn) (φ : List Rz) : Option V → Option Value → Prop
  | none, none => True
  | some v, some a => VR K v φ a
  | _, _ => False
theorem intOptV_sound {v : Option V} {a : Option Value} {j : Option Int} (h : intOptV v = some j) (hr : OptR K φ v a) : intOpt a = some j := by
  cases v with
  | none =>
    cases a with
    | none => cases h; rfl
    | some a => exact hr.elim
  | some v =>
    cases a with
    | none => exact hr.elim
    | some a =>
      simp only [intOptV] at h
      cases hj : isInt v with
      | none => rw [hj] at h; cases h
      | some j' =>
        rw [hj] at h; cases h
        obtain ⟨k, rfl⟩ := isInt_sound hj hr
        rfl
theorem capOf_dng : capOf AM.dng = .dng := by unfold capOf; simp [top, AM.dng]
def vSliceR (k : Bool) (s : Nat) (rows : List (List V)) (lo hi mx : Option Int) : Option V := (bounds rows.length rows.length lo hi mx).map fun p => .fsl (k && lo.isNone) s ((rows.take p.2.1).drop p.1)
/-- A slice expression on what is frozen. -/
def vSlice (P : Program) (t : TypeId) (H : Hp) (x : V) (lo hi mx : Option V) : Option V := match intOptV lo, intOptV hi, intOptV mx with
  | some lo, some hi, some mx => match P.underlying t with
    | some (.slice e) => match szOf P e with
      | some s => match x with
        | .lit (.slice none 0 0) => (bounds 0 0 lo hi mx).map fun _ => x
        | .fsl k s' rows => if s' = s then vSliceR k s rows lo hi mx else none
        | .own g w => match H[g]? with
          | some (.fro w' rows s') => if w = w' ∧ s' = s then vSliceR true s rows lo hi mx else none
          | _ => none
        | _ => none
      | none => none
    | _ => none
  | _, _, _ => none
theorem bounds_cap {n C l h m : Nat} {lo hi mx : Option Int} (hb : bounds n n lo hi mx = some (l, h, m)) (hC : n ≤ C) : ∃ m', bounds n C lo hi mx = some (l, h, m') ∧ l ≤ h ∧ h ≤ n ∧ h ≤ m' ∧ m' ≤ C := by
  unfold bounds at hb ⊢
  split at hb <;> (try (split at hb)) <;> (try (cases hb; done)) <;> cases hb
  · exact ⟨C, rfl, by omega, by omega, by omega, by omega⟩
  · rename_i hc; exact ⟨C, if_pos (by omega), by omega, by omega, by omega, by omega⟩
  · rename_i hc; exact ⟨C, if_pos (by omega), by omega, by omega, by omega, by omega⟩
  · rename_i hc; exact ⟨C, if_pos (by omega), by omega, by omega, by omega, by omega⟩
  · rename_i m hc; exact ⟨m.toNat, if_pos (by omega), by omega, by omega, by omega, by omega⟩
  · rename_i m hc; exact ⟨m.toNat, if_pos (by omega), by omega, by omega, by omega, by omega⟩
theorem unk_lt {c es lb : Nat} (hC : capOf c = .unk es lb) : lb < top := by
  unfold capOf at hC
  split at hC
  · cases hC
  · split at hC
    · cases hC; exact Nat.mod_lt _ (by simp [top])
    · cases hC
theorem capOK_of {c s lb n : Nat} (h : capOf c = .unk s lb) (h3 : n ≤ lb) : capOK c s n := by
  unfold capOK
  rw [h]
  exact ⟨rfl, h3⟩
theorem capOK_unk {s lb n : Nat} (h1 : lb < top) (h2 : s < 4294967296) (h3 : n ≤ lb) : capOK (unk s lb) s n := capOK_of (capOf_unk_eq h1 h2) h3
theorem fsl_main {rows : List (List V)} {cells : List Value} {s b o l hh c' : Nat} {k : Bool} (hk : k = true → c' < AM.dng) (e6 : K b = some cells) (e7 : o + rows.length * s ≤ cells.length) (e8 : RowsR K s rows [] ((cells.drop o).take (rows.length * s))) (e3' : s < 4294967296)
    (hlh1 : l ≤ hh) (hhn : hh ≤ rows.length) (hc' : capOK c' s (hh - l)) : VR K (.fsl k s ((rows.take hh).drop l)) φ (.slice (some ⟨b, o + l * s, none⟩) (hh - l) c') := by
  have hlen : ((rows.take hh).drop l).length = hh - l := by simp; omega
  have hls : l * s ≤ hh * s := Nat.mul_le_mul_right _ hlh1
  have hhs : hh * s ≤ rows.length * s := Nat.mul_le_mul_right _ hhn
  have hsub : (hh - l) * s = hh * s - l * s := Nat.sub_mul ..
  have hrows : RowsR K s ((rows.take hh).drop l) [] ((cells.drop (o + l * s)).take ((hh - l) * s)) := by
    have := (e8.takeR hh hhn).dropR l (by simp; omega)
    rw [List.take_take, Nat.min_eq_left hhs, show ((cells.drop o).take (hh * s)).drop (l * s) = (cells.drop (o + l * s)).take (hh * s - l * s) by rw [List.drop_take, List.drop_drop]] at this
    rw [hsub]; exact this
  refine ⟨_, c', by rw [hlen], (fun e => by cases e), hk, by rw [hlen]; exact hc', e3', .inr ⟨b, o + l * s, cells, rfl, e6, ?_, by rw [hlen]; exact hrows⟩⟩
  rw [hlen, hsub]
  have : o + l * s + (hh * s - l * s) = o + hh * s := by omega
  omega
theorem fsl_empt {rows : List (List V)} {cells : List Value} {s b o l hh c' : Nat} {k : Bool} (hk : k = true → c' < AM.dng) (e6 : K b = some cells) (e7 : o ≤ cells.length) (e3' : s < 4294967296) (e : hh ≤ l) (hc' : capOK c' s 0) : VR K (.fsl k s ((rows.take hh).drop l)) φ (.slice (some ⟨b, o, none⟩) 0 c') := by
  have h0 : ((rows.take hh).drop l).length = 0 := by simp; omega
  rw [List.eq_nil_of_length_eq_zero h0]
  exact ⟨_, c', rfl, (fun e => by cases e), hk, hc', e3', .inr ⟨b, o, cells, rfl, e6, by simp; omega, by simp [RowsR]⟩⟩
theorem lo_none {n C l h m : Nat} {lo hi mx : Option Int} (hb : bounds n C lo hi mx = some (l, h, m)) (hl : lo = none) : l = 0 := by
  subst hl
  unfold bounds at hb
  split at hb <;> (try (split at hb)) <;> simp_all
theorem vSliceR_sound {s t e : Nat} {k : Bool} {rows : List (List V)} {lo hi mx : Option Int} {loA hiA mxA : Option Value} (hu : P.underlying t = some (.slice e)) (hs : szOf P e = some s)
    (h1 : intOpt loA = some lo) (h2 : intOpt hiA = some hi) (h3 : intOpt mxA = some mx) (h : vSliceR k s rows lo hi mx = some v) (hr : VR K (.fsl k s rows) [] a) : ∃ y, aSlice P t a loA hiA mxA = some y ∧ VR K v φ y := by
  unfold vSliceR at h
  cases hb : bounds rows.length rows.length lo hi mx with
  | none => rw [hb] at h; cases h
  | some p =>
    obtain ⟨l, hh, m⟩ := p
    rw [hb] at h
    cases h
    obtain ⟨A, c, e1, e2, ek, e3, e3', e4⟩ := hr
    subst e1
    unfold aSlice
    rw [h1, h2, h3]; dsimp only
    rw [hu]; dsimp only
    rw [hs]; dsimp only
    rcases e4 with ⟨e4, e5⟩ | ⟨b, o, cells, e5, e6, e7, e8⟩
    · subst e5
      dsimp only
      rw [e4] at hb
      rw [if_pos ⟨e4, e2 rfl⟩, hb]
      refine ⟨_, rfl, none, 0, ?_, fun _ => rfl, (fun _ => by simp [AM.dng]), ?_, e3', ?_⟩
      · have : rows = [] := List.eq_nil_of_length_eq_zero e4
        subst this; simp
      · have : rows = [] := List.eq_nil_of_length_eq_zero e4
        subst this; unfold capOK; rw [capOf_exact_eq (by decide)]; simp
      · have : rows = [] := List.eq_nil_of_length_eq_zero e4
        subst this; simp
    · subst e5
      dsimp only
      have hlh : ∀ C, rows.length ≤ C → ∃ m', bounds rows.length C lo hi mx = some (l, hh, m') ∧ l ≤ hh ∧ hh ≤ rows.length ∧ hh ≤ m' ∧ m' ≤ C := fun C hC => bounds_cap hb hC
      obtain ⟨_, _, hlh1, hhn, _, _⟩ := hlh _ (Nat.le_refl _)
      have main : ∀ c', ((k && lo.isNone) = true → c' < AM.dng) → capOK c' s (hh - l) → VR K (.fsl (k && lo.isNone) s ((rows.take hh).drop l)) φ (.slice (some ⟨b, o + l * s, none⟩) (hh - l) c') := fun c' hkc hc' => fsl_main hkc e6 e7 e8 e3' hlh1 hhn hc'
      have empt : ∀ c', ((k && lo.isNone) = true → c' < AM.dng) → hh = l → capOK c' s 0 → VR K (.fsl (k && lo.isNone) s ((rows.take hh).drop l)) φ (.slice (some ⟨b, o, none⟩) 0 c') := fun c' hkc e hc' => fsl_empt hkc e6 (by omega) e3' (by omega) hc'
      unfold capOK at e3
      split at e3
      · rename_i C hC
        obtain ⟨hCc, hCt⟩ := capOf_exact hC
        rw [hC]; dsimp only
        obtain ⟨m', f1, _, _, f2, f3⟩ := hlh C e3
        rw [f1]
        refine ⟨_, rfl, ?_⟩
        dsimp only
        have hkd : m' - l < AM.dng := by simp only [top, AM.dng] at *; omega
        have hcap : capOK (m' - l) s (hh - l) := by unfold capOK; rw [capOf_exact_eq (by omega)]; simp only; omega
        split
        · rename_i hml
          have : hh = l := by omega
          rw [show hh - l = 0 by omega]
          exact empt _ (fun _ => hkd) this (by rw [show hh - l = 0 by omega] at hcap; exact hcap)
        · rw [Addr.add_lit]; exact main _ (fun _ => hkd) hcap
      · rename_i es lb hC
        obtain ⟨hes, hlb⟩ := e3
        rw [hes] at hC
        have hlbt : lb < top := unk_lt hC
        rw [hC]; dsimp only
        obtain ⟨m', f1, _, _, f2, f3⟩ := hlh lb hlb
        rw [f1]; dsimp only
        have hc2 : capOK (unk s (lb - l)) s (hh - l) := capOK_unk (Nat.lt_of_le_of_lt (Nat.sub_le _ _) hlbt) e3' (Nat.sub_le_sub_right (Nat.le_trans hhn hlb) l)
        revert hc2
        generalize unk s (lb - l) = u
        intro hc2
        split
        · refine ⟨_, rfl, ?_⟩
          have hkd : m' - l < AM.dng := by simp only [top, AM.dng] at *; omega
          have hcap : capOK (m' - l) s (hh - l) := by unfold capOK; rw [capOf_exact_eq (by omega)]; simp only; omega
          split
          · rename_i hml
            have : hh = l := by omega
            rw [show hh - l = 0 by omega]
            exact empt _ (fun _ => hkd) this (by rw [show hh - l = 0 by omega] at hcap; exact hcap)
          · rw [Addr.add_lit]; exact main _ (fun _ => hkd) hcap
        · split
          · rename_i h0
            subst h0
            refine ⟨_, rfl, ?_⟩
            have := main c (fun h => ek (by simp at h; exact h.1)) (by unfold capOK; rw [hC]; exact ⟨rfl, by omega⟩)
            simpa using this
          · rename_i h0
            split
            · rename_i hc
              refine ⟨_, rfl, ?_⟩
              rw [Addr.add_lit]
              exact main _ (fun h => absurd (lo_none hb (by simp at h; exact h.2)) h0) hc2
            · rename_i hnc
              have hq : l = hh := by
                have : ¬ l < hh := fun h => hnc ⟨h, rfl⟩
                omega
              rw [if_pos hq]
              refine ⟨_, rfl, empt _ (fun h => absurd (lo_none hb (by simp at h; exact h.2)) h0) hq.symm (by unfold capOK; rw [capOf_dng])⟩
      · rename_i hC
        rw [hC]; dsimp only
        rw [e3] at hb
        rw [hb]
        refine ⟨_, rfl, empt _ (fun h => absurd (ek (by simp at h; exact h.1)) (by have := AM.capOf_dng hC; omega)) (by omega) (by unfold capOK; rw [capOf_dng])⟩
theorem vSlice_sound (hR : Rel K φ H σ) {t : TypeId} {lo hi mx : Option V} {loA hiA mxA : Option Value} (h : vSlice P t H x lo hi mx = some v) (hx : VR K x φ a) (h1 : OptR K φ lo loA) (h2 : OptR K φ hi hiA) (h3 : OptR K φ mx mxA) :
    (∃ y, aSlice P t a loA hiA mxA = some y ∧ VR K v φ y) ∧ ∀ s, a ≠ .string s := by
  unfold vSlice at h
  split at h
  · rename_i lo' hi' mx' i1 i2 i3
    have j1 := intOptV_sound i1 h1
    have j2 := intOptV_sound i2 h2
    have j3 := intOptV_sound i3 h3
    split at h
    · rename_i e hu
      split at h
      · rename_i s hs
        split at h
        · obtain ⟨rfl, _⟩ := hx
          refine ⟨?_, fun s e => by cases e⟩
          cases hb : bounds 0 0 lo' hi' mx' with
          | none => rw [hb] at h; cases h
          | some p =>
            rw [hb] at h; cases h
            refine ⟨.slice none 0 0, ?_, rfl, rfl⟩
            unfold aSlice
            rw [j1, j2, j3]; dsimp only
            rw [hu]; dsimp only
            rw [hs]; dsimp only
            rw [if_pos ⟨rfl, rfl⟩, hb]; rfl
        · split at h
          · rename_i e; subst e
            have hx' : VR K (.fsl _ _ _) [] a := hx
            refine ⟨vSliceR_sound hu hs j1 j2 j3 h hx', fun s e => ?_⟩
            obtain ⟨A, c, e1, _⟩ := hx'
            rw [e1] at e; cases e
          · cases h
        · rename_i g w
          split at h
          · rename_i w' rows s' hg
            split at h
            · rename_i hc
              obtain ⟨rfl, rfl⟩ := hc
              obtain ⟨r, val, w', s1, g1, g2, g3, g4, A, n, c, g5⟩ := hx
              refine ⟨?_, fun s e => by rw [g5] at e; cases e⟩
              have hob := hR.ob g _ _ hg g1
              cases r with
              | mem _ => cases g2
              | vec _ _ _ => exact hob.elim
              | fro val1 w2 s2 =>
                cases g2
                obtain ⟨e1, e2, e3⟩ := hob
                subst e1; subst e2
                rw [g4 rfl]
                exact vSliceR_sound hu hs j1 j2 j3 h e3
            · cases h
          · cases h
        · cases h
      · cases h
    · cases h
  · cases h
/-- How many elements. -/
def lenOf (H : Hp) : V → Option Nat
  | .lit (.slice none 0 0) => some 0
  | .fsl _ _ rows => some rows.length
  | .own g w => (rowsAt H g w).map List.length
  | _ => none
theorem lenOf_sound (hR : Rel K φ H σ) {n : Nat} (h : lenOf H x = some n) (hx : VR K x φ a) : ∃ A c, a = .slice A n c := by
  unfold lenOf at h
  split at h
  · cases h; exact ⟨_, _, hx.1⟩
  · cases h; obtain ⟨A, c, h1, _⟩ := hx; exact ⟨_, _, h1⟩
  · rename_i g w
    cases hr : rowsAt H g w with
    | none => rw [hr] at h; cases h
    | some rows =>
      rw [hr] at h; cases h
      obtain ⟨r, val, w', s1, g1, g2, g3, g4, _⟩ := hx
      obtain ⟨e, A, c, e1, _⟩ := rowsAt_sound hR hr g1 g2
      rw [g4 e]
      exact ⟨_, _, e1⟩
  · cases h
def vLen (P : Program) (t : TypeId) (H : Hp) (x : V) : Option V := match P.underlying t with
  | some (.slice _) => (lenOf H x).map fun n => .lit (.int .i64 n)
  | some (.array n _) => some (.lit (.int .i64 n))
  | _ => none
section
variable {P : Program} {ρ : Operand → Value} {dst : Option Tmp} {type : TypeId} {pos : String} {after : Array Edge} {guard : Option (Nat × Bool)}
theorem aPure_min {x y : Operand} {ts : Array TypeId} {k k' : IntKind} {m n : Int} (hx : ρ x = .int k m) (hy : ρ y = .int k' n) : aPure P ρ ⟨dst, .call { callee := .builtin .min, args := #[x, y], argTypes := ts }, type, pos, after, guard⟩ = some (.int k (if n < m then n else m)) := by
  unfold aPure
  rw [if_pos (by simp [Op.operands, Call.operands, hx, hy, flatB, scalarB])]
  simp [execOp, resolve, invoke, builtin, Builtin.min_, hx, hy, Builtin.min2, pureRun_bind, flatB, scalarB]
theorem aPure_max {x y : Operand} {ts : Array TypeId} {k k' : IntKind} {m n : Int} (hx : ρ x = .int k m) (hy : ρ y = .int k' n) : aPure P ρ ⟨dst, .call { callee := .builtin .max, args := #[x, y], argTypes := ts }, type, pos, after, guard⟩ = some (.int k (if n > m then n else m)) := by
  unfold aPure
  rw [if_pos (by simp [Op.operands, Call.operands, hx, hy, flatB, scalarB])]
  simp [execOp, resolve, invoke, builtin, Builtin.max_, hx, hy, Builtin.max2, pureRun_bind, flatB, scalarB]
theorem aPure_nil {t ty e : TypeId} {x y : Operand} (hu : P.underlying t = some (.pointer e)) (hx : ρ x = .pointer none) (hy : ρ y = .pointer none) :
    aPure P ρ ⟨dst, .binOp .eql t x y ty, type, pos, after, guard⟩ = some (.bool true) ∧ aPure P ρ ⟨dst, .binOp .neq t x y ty, type, pos, after, guard⟩ = some (.bool false) := by
  have hq : pureRun P (Op.equal t (.pointer none) (.pointer none)) = some true := by
    show pureRun P (Op.equalIn (9999 + 1) t (.pointer none) (.pointer none)) = _
    generalize 9999 = d
    unfold Op.equalIn
    rw [pureRun_bind, pureRun_underlying, hu]
    rfl
  have hop : ∀ op, ((Op.binOp op t x y ty).operands.all fun x => flatB (ρ x)) = true := fun op => by simp [Op.operands, hx, hy, flatB, scalarB]
  refine ⟨?_, ?_⟩
  · unfold aPure
    rw [if_pos (hop _)]
    simp only [execOp, hx, hy]
    have : pureRun P (do eqGuard .eql t x y (.pointer none) (.pointer none); binOp .eql t (.pointer none) (.pointer none)) = some (.bool true) := by
      rw [eqGuard_at_pointer, pureRun_bind]
      simp only [pureRun_pure, Option.bind_some, binOp]
      rw [pureRun_bind, hq]; rfl
    rw [pureRun_bind, this]
    rfl
  · unfold aPure
    rw [if_pos (hop _)]
    simp only [execOp, hx, hy]
    have : pureRun P (do eqGuard .neq t x y (.pointer none) (.pointer none); binOp .neq t (.pointer none) (.pointer none)) = some (.bool false) := by
      rw [eqGuard_at_pointer, pureRun_bind]
      simp only [pureRun_pure, Option.bind_some, binOp]
      rw [pureRun_bind, hq]; rfl
    rw [pureRun_bind, this]
    rfl
theorem aPure_len {t : TypeId} {x : Operand} {s : ByteArray} (hu : P.underlying t = some .string) (hx : ρ x = .string s) : aPure P ρ ⟨dst, .call { callee := .builtin .len, args := #[x], argTypes := #[t] }, type, pos, after, guard⟩ = some (.int .i64 s.size) := by
  unfold aPure
  rw [if_pos (by simp [Op.operands, Call.operands, hx, flatB, scalarB])]
  simp [execOp, resolve, invoke, builtin, Builtin.len_, hx, pureRun_bind, pureRun_underlying, hu, flatB, scalarB, goInt]
theorem aPure_index {t : TypeId} {x i : Operand} {s : ByteArray} {j : Int} {k : IntKind} {b : UInt8} (hu : P.underlying t = some .string) (hx : ρ x = .string s) (hi : ρ i = .int k j) (h0 : 0 ≤ j) (hb : s[j.toNat]? = some b) :
    aPure P ρ ⟨dst, .index t x i, type, pos, after, guard⟩ = some (.int .u8 b.toNat) := by
  unfold aPure
  rw [if_pos (by simp [Op.operands, hx, hi, flatB, scalarB])]
  simp [execOp, Instr.index, asIntOf, hx, hi, pureRun_bind, pureRun_underlying, hu, flatB, scalarB, h0, hb]
end
/-- '==' against nil. -/
def vEq (P : Program) (t : TypeId) (x y : V) : Option Bool := match P.underlying t with
  | some (.pointer _) => match x, y with
    | .ptr _ _, .lit (.pointer none) | .fptr _, .lit (.pointer none) | .elt _ _ _ _, .lit (.pointer none) => some false
    | .lit (.pointer none), .ptr _ _ | .lit (.pointer none), .fptr _ | .lit (.pointer none), .elt _ _ _ _ => some false
    | _, _ => none
  | some (.func _ _ _) => match x, y with
    | .fn _ _ _, .lit .nilFunc | .lit .nilFunc, .fn _ _ _ => some false
    | _, _ => none
  | _ => none
def mkLit (v : Value) : Option V := if scalarB v = true then some (.lit v) else none
theorem mkLit_sound {y : Value} (h : mkLit y = some v) : VR K v φ y := by
  unfold mkLit at h
  split at h
  · rename_i hs; cases h; exact ⟨rfl, hs⟩
  · cases h
/-- '==' of two nil pointers. -/
def nilI (P : Program) (op : BinOp) (t : TypeId) (x y : Value) : Option V := match P.underlying t, x, y, op with
  | some (.pointer _), .pointer none, .pointer none, .eql => some (.lit (.bool true))
  | some (.pointer _), .pointer none, .pointer none, .neq => some (.lit (.bool false))
  | _, _, _, _ => none
def vBin (P : Program) (op : BinOp) (t : TypeId) (x y : V) : Option V := match toVal x, toVal y with
  | some a, some b => match strEq op a b with
    | some r => some (.lit (.bool r))
    | none => match binI P op t a b with
      | some y => mkLit y
      | none => nilI P op t a b
  | _, _ => match op with
    | .eql => (vEq P t x y).map fun b => .lit (.bool b)
    | .neq => (vEq P t x y).map fun b => .lit (.bool (!b))
    | _ => none
end
section
variable {P : Program} {K K' : Kn} {φ φ' : List Rz} {H H' : Hp} {σ σ' : Heap} {v x y : V} {a b : Value} {q : Bool} {ρ : Operand → Value}
variable {dst : Option Tmp} {type : TypeId} {pos : String} {after : Array Edge} {guard : Option (Nat × Bool)}
theorem vEq_sound {t : TypeId} {r : Bool} (h : vEq P t x y = some r) (hx : VR K x φ a) (hy : VR K y φ b) : aEq P t a b = some r ∧ (flatB a && flatB b) = false ∧ ∀ op, strEq op a b = none := by
  unfold vEq at h
  split at h
  · rename_i p hu
    split at h <;> cases h
    all_goals
      first
      | (obtain ⟨rfl, _⟩ := hy)
      | (obtain ⟨rfl, _⟩ := hx)
    · obtain ⟨b', _, rfl⟩ := hx; exact ⟨by unfold aEq; rw [hu], rfl, fun op => by cases op <;> rfl⟩
    · obtain ⟨b', o, c, rfl, _⟩ := hx; exact ⟨by unfold aEq; rw [hu], rfl, fun op => by cases op <;> rfl⟩
    · obtain ⟨_, _, _, _, _, _, _, _, _, rfl⟩ := hx; exact ⟨by unfold aEq; rw [hu], rfl, fun op => by cases op <;> rfl⟩
    · obtain ⟨b', _, rfl⟩ := hy; exact ⟨by unfold aEq; rw [hu], rfl, fun op => by cases op <;> rfl⟩
    · obtain ⟨b', o, c, rfl, _⟩ := hy; exact ⟨by unfold aEq; rw [hu], rfl, fun op => by cases op <;> rfl⟩
    · obtain ⟨_, _, _, _, _, _, _, _, _, rfl⟩ := hy; exact ⟨by unfold aEq; rw [hu], rfl, fun op => by cases op <;> rfl⟩
  · rename_i p _ _ hu
    split at h <;> cases h
    · obtain ⟨rfl, _⟩ := hy; obtain ⟨_, _, rfl, _⟩ := hx; exact ⟨by unfold aEq; rw [hu], rfl, fun op => by cases op <;> rfl⟩
    · obtain ⟨rfl, _⟩ := hx; obtain ⟨_, _, rfl, _⟩ := hy; exact ⟨by unfold aEq; rw [hu], rfl, fun op => by cases op <;> rfl⟩
  · cases h
/-- How many elements a slice has that is held against nil. -/
def nilCmp (P : Program) (H : Hp) (t : TypeId) (x y : V) : Option Nat := match P.underlying t with
  | some (.slice _) => match x, y with
    | .fsl _ _ rows, .lit (.slice none 0 0) => some rows.length
    | .lit (.slice none 0 0), .fsl _ _ rows => some rows.length
    | .own g w, .lit (.slice none 0 0) => (rowsAt H g w).map List.length
    | .lit (.slice none 0 0), .own g w => (rowsAt H g w).map List.length
    | _, _ => none
  | _ => none
theorem nilCmp_sound (hR : Rel K φ H σ) {t : TypeId} {n : Nat} (h : nilCmp P H t x y = some n) (hx : VR K x φ a) (hy : VR K y φ b) : ∃ r : Bool, (0 < n → r = false) ∧
    (∀ ox oy ty, ρ ox = a → ρ oy = b → binV P .eql t ox oy ty ρ ⟨dst, .binOp .eql t ox oy ty, type, pos, after, guard⟩ σ = some (.bool r, σ) ∧ binV P .neq t ox oy ty ρ ⟨dst, .binOp .neq t ox oy ty, type, pos, after, guard⟩ σ = some (.bool (!r), σ)) := by
  unfold nilCmp at h
  split at h
  · rename_i e hu
    have fin : ∀ A c, (A = none → c = 0 ∧ n = 0) → (a = .slice A n c ∧ b = .slice none 0 0 ∨ a = .slice none 0 0 ∧ b = .slice A n c) → ∃ r : Bool, (0 < n → r = false) ∧
      (∀ ox oy ty, ρ ox = a → ρ oy = b → binV P .eql t ox oy ty ρ ⟨dst, .binOp .eql t ox oy ty, type, pos, after, guard⟩ σ = some (.bool r, σ) ∧ binV P .neq t ox oy ty ρ ⟨dst, .binOp .neq t ox oy ty, type, pos, after, guard⟩ σ = some (.bool (!r), σ)) := fun A c hA hab => by
      cases A with
      | none =>
        obtain ⟨rfl, rfl⟩ := hA rfl
        have ha : a = .slice none 0 0 := by rcases hab with ⟨h, _⟩ | ⟨h, _⟩ <;> exact h
        have hb : b = .slice none 0 0 := by rcases hab with ⟨_, h⟩ | ⟨_, h⟩ <;> exact h
        refine ⟨true, fun h => by omega, fun ox oy ty e1 e2 => ?_⟩
        rw [ha] at e1; rw [hb] at e2
        have g1 := binI_sound (P := P) (ρ := ρ) (dst := dst) (type := type) (pos := pos) (after := after) (guard := guard) (op := .eql) (t := t) (ty := ty) (x := ox) (y := oy) (v := .bool true) (by rw [e1, e2]; simp only [binI, hu])
        have g2 := binI_sound (P := P) (ρ := ρ) (dst := dst) (type := type) (pos := pos) (after := after) (guard := guard) (op := .neq) (t := t) (ty := ty) (x := ox) (y := oy) (v := .bool false) (by rw [e1, e2]; simp only [binI, hu])
        unfold binV
        rw [show strEq .eql (ρ ox) (ρ oy) = none by rw [e1, e2]; rfl, show strEq .neq (ρ ox) (ρ oy) = none by rw [e1, e2]; rfl]
        dsimp only
        rw [if_pos (by rw [e1, e2]; rfl), if_pos (by rw [e1, e2]; rfl), g1, g2]
        exact ⟨rfl, rfl⟩
      | some A =>
        refine ⟨false, fun _ => rfl, fun ox oy ty e1 e2 => ?_⟩
        rcases hab with ⟨ha, hb⟩ | ⟨ha, hb⟩
        · rw [ha] at e1; rw [hb] at e2
          unfold binV
          rw [show strEq .eql (ρ ox) (ρ oy) = none by rw [e1, e2]; rfl, show strEq .neq (ρ ox) (ρ oy) = none by rw [e1, e2]; rfl]
          dsimp only
          rw [if_neg (by rw [e1, e2]; simp), if_neg (by rw [e1, e2]; simp), e1, e2]
          simp only [aEq, hu]
          exact ⟨rfl, rfl⟩
        · rw [ha] at e1; rw [hb] at e2
          unfold binV
          rw [show strEq .eql (ρ ox) (ρ oy) = none by rw [e1, e2]; rfl, show strEq .neq (ρ ox) (ρ oy) = none by rw [e1, e2]; rfl]
          dsimp only
          rw [if_neg (by rw [e1, e2]; simp), if_neg (by rw [e1, e2]; simp), e1, e2]
          simp only [aEq, hu]
          exact ⟨rfl, rfl⟩
    have own : ∀ {g w : Nat} {rows : List (List V)} {a : Value}, rowsAt H g w = some rows → VR K (.own g w) φ a → ∃ A c, a = .slice A rows.length c ∧ (A = none → c = 0 ∧ rows.length = 0) := fun {g w rows a} hr hx => by
      obtain ⟨r, val, w', s, g1, g2, g3, g4, _⟩ := hx
      obtain ⟨e, A, c, e1, e2, e3, _, e4⟩ := rowsAt_sound hR hr g1 g2
      rw [g4 e]
      refine ⟨A, c, e1, fun hn => ⟨e2 hn, ?_⟩⟩
      rcases e4 with ⟨e4, _⟩ | ⟨b, o, vals, e4, _⟩
      · exact e4
      · rw [hn] at e4; cases e4
    have fsl : ∀ {k : Bool} {s : Nat} {rows : List (List V)} {a : Value}, VR K (.fsl k s rows) φ a → ∃ A c, a = .slice A rows.length c ∧ (A = none → c = 0 ∧ rows.length = 0) := fun {k s rows a} hx => by
      obtain ⟨A, c, e1, e2, _, e3, _, e4⟩ := hx
      refine ⟨A, c, e1, fun hn => ⟨e2 hn, ?_⟩⟩
      rcases e4 with ⟨e4, _⟩ | ⟨b, o, vals, e4, _⟩
      · exact e4
      · rw [hn] at e4; cases e4
    split at h
    · cases h
      obtain ⟨A, c, e1, e2⟩ := fsl hx
      exact fin A c e2 (.inl ⟨e1, hy.1⟩)
    · cases h
      obtain ⟨A, c, e1, e2⟩ := fsl hy
      exact fin A c e2 (.inr ⟨hx.1, e1⟩)
    · rename_i g w
      cases hr : rowsAt H g w with
      | none => rw [hr] at h; cases h
      | some rows =>
        rw [hr] at h; cases h
        obtain ⟨A, c, e1, e2⟩ := own hr hx
        exact fin A c e2 (.inl ⟨e1, hy.1⟩)
    · rename_i g w
      cases hr : rowsAt H g w with
      | none => rw [hr] at h; cases h
      | some rows =>
        rw [hr] at h; cases h
        obtain ⟨A, c, e1, e2⟩ := own hr hy
        exact fin A c e2 (.inr ⟨hx.1, e1⟩)
    · cases h
  · cases h
theorem vBin_sound (hR : Rel K φ H σ) {op : BinOp} {t ty : TypeId} {ox oy : Operand} (h : vBin P op t x y = some v) (hx : VR K x φ (ρ ox)) (hy : VR K y φ (ρ oy)) : Snd K φ v H (binV P op t ox oy ty ρ ⟨dst, .binOp op t ox oy ty, type, pos, after, guard⟩ σ) := by
  unfold vBin at h
  split at h
  · rename_i a b ha hb
    have ea := toVal_sound ha hx
    have eb := toVal_sound hb hy
    split at h
    · rename_i r hr
      cases h
      unfold binV
      rw [ea, eb, hr]
      exact .same hR ⟨rfl, rfl⟩
    · rename_i hr
      split at h
      · rename_i y hbi
        have hs := binI_sound (P := P) (ρ := ρ) (dst := dst) (type := type) (pos := pos) (after := after) (guard := guard) (ty := ty) (x := ox) (y := oy) (by rw [ea, eb]; exact hbi)
        unfold binV
        rw [show strEq op (ρ ox) (ρ oy) = none by rw [ea, eb]; exact hr]
        have hflat : (flatB (ρ ox) && flatB (ρ oy)) = true := by
          unfold aPure at hs
          split at hs
          · rename_i hc
            simpa [Op.operands] using hc
          · cases hs
        dsimp only
        rw [if_pos hflat, hs]
        exact .same hR (mkLit_sound h)
      · unfold nilI at h
        split at h
        · rename_i hu _
          cases h
          have hs := (aPure_nil (ρ := ρ) (dst := dst) (type := type) (pos := pos) (after := after) (guard := guard) (ty := ty) hu ea eb).1
          unfold binV
          rw [show strEq .eql (ρ ox) (ρ oy) = none by rw [ea, eb]; exact hr]
          dsimp only
          rw [if_pos (by rw [ea, eb]; rfl), hs]
          exact .same hR ⟨rfl, rfl⟩
        · rename_i hu _
          cases h
          have hs := (aPure_nil (ρ := ρ) (dst := dst) (type := type) (pos := pos) (after := after) (guard := guard) (ty := ty) hu ea eb).2
          unfold binV
          rw [show strEq .neq (ρ ox) (ρ oy) = none by rw [ea, eb]; exact hr]
          dsimp only
          rw [if_pos (by rw [ea, eb]; rfl), hs]
          exact .same hR ⟨rfl, rfl⟩
        · cases h
  · split at h
    · cases hq : vEq P t x y with
      | none => rw [hq] at h; cases h
      | some r =>
        rw [hq] at h; cases h
        obtain ⟨h1, h2, h3⟩ := vEq_sound hq hx hy
        unfold binV
        rw [h3, h2, h1]
        exact .same hR ⟨rfl, rfl⟩
    · cases hq : vEq P t x y with
      | none => rw [hq] at h; cases h
      | some r =>
        rw [hq] at h; cases h
        obtain ⟨h1, h2, h3⟩ := vEq_sound hq hx hy
        unfold binV
        rw [h3, h2, h1]
        exact .same hR ⟨rfl, rfl⟩
    · cases h
end
end Go.Proofs.Ytibejcomfjddfaa.VM
end
section
set_option maxHeartbeats 8000000
set_option linter.unusedVariables false
set_option linter.unusedSimpArgs false

/- The machine of values: literals, conversions; all operations. -/
namespace Go.Proofs.Ytibejcomfjddfaa.VM
open Go AM
section
variable {P : Program} {K K' : Kn} {φ φ' : List Rz} {H H' : Hp} {σ σ' : Heap} {v x y : V} {a b : Value} {q : Bool} {ρ : Operand → V} {ρa : Operand → Value}
variable {dst : Option Tmp} {type : TypeId} {pos : String} {after : Array Edge} {guard : Option (Nat × Bool)}

mutual
/-- It names no object. -/
def pureV : V → Bool
  | .lit _ | .fsl _ _ _ | .fptr _ => true
  | .ptr _ _ | .own _ _ | .elt _ _ _ _ | .junk => false
  | .fn _ fi cp => pureVs fi && pureVs cp
  | .ifc _ v => pureV v
  | .agg cs | .tup cs => pureVs cs
def pureVs : List V → Bool
  | [] => true
  | v :: vs => pureV v && pureVs vs
end
mutual
theorem VR.pure : ∀ {v : V} {a : Value}, VR K v φ a → pureV v = true → VR K v [] a
  | .lit _, _, h, _ => h
  | .fsl _ _ _, _, h, _ => h
  | .fptr _, _, h, _ => h
  | .ptr _ _, _, _, hp => by cases hp
  | .own _ _, _, _, hp => by cases hp
  | .elt _ _ _ _, _, _, hp => by cases hp
  | .junk, _, _, hp => by cases hp
  | .fn f fi cp, a, ⟨fa, ca, h1, h2, h3⟩, hp => by
    simp only [pureV, Bool.and_eq_true] at hp
    exact ⟨fa, ca, h1, VRs.pure h2 hp.1, VRs.pure h3 hp.2⟩
  | .ifc t v, a, ⟨x, h1, h2⟩, hp => ⟨x, h1, VR.pure h2 hp⟩
  | .agg cs, a, ⟨x, h1, h2⟩, hp => ⟨x, h1, VRs.pure h2 hp⟩
  | .tup cs, a, ⟨x, h1, h2⟩, hp => ⟨x, h1, VRs.pure h2 hp⟩
theorem VRs.pure : ∀ {v : List V} {a : List Value}, VRs K v φ a → pureVs v = true → VRs K v [] a
  | [], _, h, _ => h
  | v :: vs, _, ⟨a, as, h1, h2, h3⟩, hp => by
    simp only [pureVs, Bool.and_eq_true] at hp
    exact ⟨a, as, h1, VR.pure h2 hp.1, VRs.pure h3 hp.2⟩
end
theorem RowsR.pure {s : Nat} : ∀ {v : List (List V)} {a : List Value}, RowsR K s v φ a → (∀ r ∈ v, pureVs r = true) → RowsR K s v [] a
  | [], _, h, _ => h
  | v :: vs, _, ⟨a, as, h1, h2, h3, h4⟩, hp => ⟨a, as, h1, h2, h3.pure (hp v (by simp)), RowsR.pure h4 fun r hr => hp r (by simp [hr])⟩
/-- A new object of cells. -/
theorem newMem (hR : Rel K φ H σ) {cs : List V} {vals : List Value} (h : VRs K cs φ vals) (hc : cs.all V.isCell = true) : Snd K φ (.ptr H.length 0) (H ++ [.mem cs true]) ((newBlk σ vals).map fun (a, σ') => (.pointer (some a), σ')) := by
  unfold newBlk
  rw [if_pos (h.cells hc)]
  have hp : Post φ.length K φ K (φ ++ [.mem σ.length]) := ⟨fun _ _ h => h, fun k q hk hq => ⟨q, by rw [List.getElem?_append_left hk]; exact hq, .refl _⟩⟩
  obtain ⟨h5, h6⟩ := (hR.new vals .full).snoc (r := .mem σ.length) (y := .mem cs true) ⟨vals, .full, by simp, rfl, h.on hp⟩ (fun b hb => by cases hb; exact hR.not_used)
  exact ⟨_, _, K, _, rfl, h6, h5, σ.length, by rw [← hR.len]; simp, rfl⟩
/-- New rows of one's own. -/
theorem newVecP (hR : Rel K φ H σ) {p : Perm} {rw : Bool} (hpo : permOk rw p) (hpd : p ≠ .dead) {s c : Nat} {rows : List (List V)} {vals : List Value} (h : RowsR K s rows φ vals) (ho : RowsOk s rows) (hs : 0 < s) (hs1 : s ≤ 1048576) (hcap : (c = 0 ∧ rows.length = 0) ∨ CapV true c s rows.length (rows.length * s)) :
    Snd K φ (.own H.length 0) (H ++ [.vec 0 rows s rw true]) ((newBlkP σ vals p).map fun (a, σ') => (.slice (some a) rows.length c, σ')) := by
  unfold newBlkP
  rw [if_pos (h.cells ho)]
  have hvl := h.len
  rcases hcap with ⟨hc0, hr0⟩ | hcap
  · have hr : rows = [] := List.eq_nil_of_length_eq_zero hr0
    subst hr; subst hc0
    have hv : vals = [] := h
    subst hv
    obtain ⟨h3, h4⟩ := (hR.new [] p).know (b := σ.length) (c := []) (p := p) (by simp) hpd (fun g r hg hb => hR.not_used (.inr ⟨g, r, hg, hb⟩))
    obtain ⟨h5, h6⟩ := h3.snoc (r := .vec (.slice (some ⟨σ.length, 0, none⟩) 0 0) 0 s) (y := .vec 0 [] s rw true)
      ⟨rfl, rfl, hs, hs1, ho, .inl ⟨rfl, .inr ⟨σ.length, 0, [], rfl, by simp [Kn.add], by simp⟩⟩⟩ (fun b hb => by cases hb)
    exact ⟨_, _, _, _, rfl, h4.trans h6 (Nat.le_refl _), h5, .vec (.slice (some ⟨σ.length, 0, none⟩) 0 0) 0 s, _, 0, s, by rw [← hR.len]; simp, rfl, Nat.le_refl _, fun _ => rfl, _, _, _, rfl⟩
  have hp : Post φ.length K φ K (φ ++ [.vec (.slice (some ⟨σ.length, 0, none⟩) rows.length c) 0 s]) := ⟨fun _ _ h => h, fun k q hk hq => ⟨q, by rw [List.getElem?_append_left hk]; exact hq, .refl _⟩⟩
  obtain ⟨h5, h6⟩ := (hR.new vals p).snoc (r := .vec (.slice (some ⟨σ.length, 0, none⟩) rows.length c) 0 s) (y := .vec 0 rows s rw true)
    ⟨rfl, rfl, hs, hs1, ho, .inr ⟨σ.length, c, vals, [], p, rfl, by simpa [hvl] using hcap, by simp, hpo, h.on hp⟩⟩ (fun b hb => by rw [vec_blk rfl hcap] at hb; cases hb; exact hR.not_used)
  exact ⟨_, _, K, _, rfl, h6, h5, .vec (.slice (some ⟨σ.length, 0, none⟩) rows.length c) 0 s, _, 0, s, by rw [← hR.len]; simp, rfl, Nat.le_refl _, fun _ => rfl, _, _, _, rfl⟩
theorem newVec (hR : Rel K φ H σ) {s c : Nat} {rows : List (List V)} {vals : List Value} (h : RowsR K s rows φ vals) (ho : RowsOk s rows) (hs : 0 < s) (hs1 : s ≤ 1048576) (hcap : (c = 0 ∧ rows.length = 0) ∨ CapV true c s rows.length (rows.length * s)) :
    Snd K φ (.own H.length 0) (H ++ [.vec 0 rows s true true]) ((newBlk σ vals).map fun (a, σ') => (.slice (some a) rows.length c, σ')) := newVecP hR (p := .full) (rw := true) rfl (by simp) h ho hs hs1 hcap
/-- Room just for what there is. -/
theorem capX {s n : Nat} (h : n ≤ 17179869184) : (n = 0 ∧ n = 0) ∨ CapV true n s n (n * s) := by
  by_cases h0 : n = 0
  · exact .inl ⟨h0, h0⟩
  · exact .inr ⟨h0, n, ⟨Nat.le_refl _, by simp only [maxLen]; omega⟩, Nat.le_refl _, fun _ => rfl, .inl (capOf_exact_eq (by simp only [top]; omega))⟩
/-- New frozen rows. -/
theorem newFslP (hR : Rel K φ H σ) {p : Perm} (hpd : p ≠ .dead) {s c : Nat} {rows : List (List V)} {vals : List Value} (h : RowsR K s rows φ vals) (ho : RowsOk s rows) (hpu : ∀ r ∈ rows, pureVs r = true) (hs1 : s < 4294967296) (hcd : c < AM.dng) (hcap : capOK c s rows.length) :
    Snd K φ (.fsl true s rows) H ((newBlkP σ vals p).map fun (a, σ') => (.slice (some a) rows.length c, σ')) := by
  unfold newBlkP
  rw [if_pos (h.cells ho)]
  obtain ⟨h5, h6⟩ := (hR.new vals p).know (b := σ.length) (c := vals) (p := p) (by simp) hpd (fun g r hg hb => hR.not_used (.inr ⟨g, r, hg, hb⟩))
  refine ⟨_, _, K.add σ.length vals, φ, rfl, h6, h5, _, c, rfl, (fun e => by cases e), (fun _ => hcd), hcap, hs1, .inr ⟨σ.length, 0, vals, rfl, by simp [Kn.add], ?_, ?_⟩⟩
  · rw [h.len]; omega
  · rw [List.drop_zero, ← h.len, List.take_length]
    exact (h.pure hpu).monoN (n := 0) ⟨h6.kn, fun g r hg => by omega⟩
def litCells (l : List Value) : Option (List V) := if l.all (fun x => scalarB x && cellB x) = true then some (l.map .lit) else none
theorem litCells_sound {l : List Value} {cs : List V} (h : litCells l = some cs) : VRs K cs φ l ∧ cs.all V.isCell = true := by
  unfold litCells at h
  split at h
  · rename_i hc
    cases h
    rw [List.all_eq_true] at hc
    refine ⟨VRs.lits fun x hx => by have := hc x hx; simp only [Bool.and_eq_true] at this; exact this.1, ?_⟩
    rw [List.all_map, List.all_eq_true]
    intro x hx
    have := hc x hx; simp only [Bool.and_eq_true] at this; exact this.2
  · cases h
def partVV (P : Program) (t : TypeId) (cs : List V) (off : Nat) : Option V := match aggOf P t, szOf P t with
  | some true, some n => some (.agg ((cs.drop off).take n))
  | some false, _ => cs[off]?
  | _, _ => none
theorem partVV_sound {t : TypeId} {cs : List V} {xs : Array Value} {off : Nat} (h : partVV P t cs off = some v) (hr : VRs K cs φ xs.toList) : ∃ y, partV P t xs off = some y ∧ VR K v φ y := by
  unfold partVV at h
  unfold partV
  split at h
  · rename_i n h1 h2
    cases h
    rw [h1, h2]
    refine ⟨_, rfl, _, rfl, ?_⟩
    have := (hr.drop off).take n
    rw [Array.toList_extract]
    simp only [List.extract_eq_take_drop]
    rw [Nat.add_sub_cancel_left]
    exact this
  · rename_i h1
    rw [h1]
    obtain ⟨y, e1, e2⟩ := hr.get h
    exact ⟨y, by simpa using e1, e2⟩
  · cases h
def vFieldAddr (P : Program) (t : TypeId) (x : V) (f : Nat) : Option V := match fieldOf P t f with
  | some (off, ft) => match szOf P ft with
    | some (_ + 1) => match x with
      | .ptr g o => some (.ptr g (o + off))
      | .fptr cs => if off ≤ cs.length then some (.fptr (cs.drop off)) else none
      | .elt g w k o => some (.elt g w k (o + off))
      | _ => none
    | _ => none
  | none => none
theorem vFieldAddr_sound {t : TypeId} {f : Nat} (h : vFieldAddr P t x f = some v) (hr : VR K x φ a) : ∃ off ft n ad, fieldOf P t f = some (off, ft) ∧ szOf P ft = some (n + 1) ∧ a = .pointer (some ad) ∧ VR K v φ (.pointer (some (ad.add off))) := by
  unfold vFieldAddr at h
  split at h
  · rename_i off ft h1
    split at h
    · rename_i n h2
      refine ⟨off, ft, n, ?_⟩
      split at h
      · cases h
        obtain ⟨b, e1, rfl⟩ := hr
        exact ⟨_, h1, h2, rfl, b, e1, by rw [Addr.add_lit]⟩
      · rename_i cs
        split at h
        · cases h
          obtain ⟨b, o, cells, rfl, e2, e3, e4⟩ := hr
          refine ⟨_, h1, h2, rfl, b, o + off, cells, by rw [Addr.add_lit], e2, by rw [List.length_drop]; omega, ?_⟩
          have := e4.drop off
          rw [List.drop_take, List.drop_drop] at this
          rw [List.length_drop]; exact this
        · cases h
      · cases h
        obtain ⟨r, val, w', s, e1, e2, e3, e4, ad, rfl⟩ := hr
        refine ⟨ad, h1, h2, rfl, r, val, w', s, e1, e2, e3, fun e => ?_, _, rfl⟩
        obtain ⟨b, oo, n, c, f1, f2⟩ := e4 e
        cases f2
        exact ⟨b, oo, n, c, f1, by rw [Addr.add_lit, Nat.add_assoc]⟩
      · cases h
    · cases h
  · cases h
/-- A literal's cells. -/
def fillV (place : Nat → Option (Nat × Nat)) (cells : List V) : List (Nat × V) → Option (List V)
  | [] => some cells
  | (i, v) :: rest => match place i with
    | none => none
    | some (off, size) => if v.cells.length = size ∧ off + size ≤ cells.length ∧ v.cells.all V.isCell = true then fillV place (spl cells off v.cells) rest else none
theorem foldl_set (off : Nat) : ∀ (l : List Value) (k : Nat) (cs : Array Value), off + k + l.length ≤ cs.size → ((l.zipIdx k).foldl (fun cs (c, j) => cs.setIfInBounds (off + j) c) cs).toList = AM.splice cs.toList (off + k) l
  | [], k, cs, _ => by simp [AM.splice]
  | c :: l, k, cs, h => by
    simp only [List.length_cons] at h
    rw [List.zipIdx_cons, List.foldl_cons, foldl_set off l (k + 1) _ (by simp; omega)]
    unfold AM.splice
    have h1 : off + k < cs.toList.length := by simp; omega
    apply List.ext_getElem?
    intro i
    simp only [Array.toList_setIfInBounds, List.getElem?_append, List.length_append, List.length_take, List.length_set, List.getElem?_take, List.getElem?_set, List.getElem?_drop, List.length_cons]
    have h2 : min (off + (k + 1)) cs.toList.length = off + k + 1 := by omega
    have h3 : min (off + k) cs.toList.length = off + k := by omega
    simp only [h2, h3]
    rcases Nat.lt_trichotomy i (off + k) with hi | hi | hi
    · simp [show i < off + k + 1 by omega, hi, show off + k ≠ i by omega, show i < off + k + 1 + l.length by omega, show i < off + (k + 1) by omega, show i < off + k + (l.length + 1) by omega]
    · subst hi
      have h5 : off + k - min (off + k) cs.toList.length = 0 := by omega
      have h6 : off + k < cs.size := by simpa using h1
      simp [show off + k < off + (k + 1) by omega, h6]
      intro h; omega
    · have e1 : i - (off + k) = (i - (off + k + 1)) + 1 := by omega
      simp only [show ¬ i < off + k + 1 by omega, show ¬ i < off + k by omega, if_false, e1, List.getElem?_cons_succ]
      by_cases h4 : i < off + k + 1 + l.length
      · rw [if_pos (by omega), if_pos (by omega)]
      · rw [if_neg (by omega), if_neg (by omega), if_neg (by omega)]
        congr 1; omega
def PsR (K : Kn) (φ : List Rz) : List (Nat × V) → List (Nat × Value) → Prop
  | [], l => l = []
  | (i, v) :: ps, l => ∃ a as, l = (i, a) :: as ∧ VR K v φ a ∧ PsR K φ ps as
theorem fillV_sound {place : Nat → Option (Nat × Nat)} : ∀ {ps : List (Nat × V)} {cells : List V} {r : List V} {psA : List (Nat × Value)} {xs : Array Value}, fillV place cells ps = some r → VRs K cells φ xs.toList →
    PsR K φ ps psA → ∃ ys, Instr.fill place xs psA = some ys ∧ VRs K r φ ys.toList
  | [], cells, r, _, xs, h, hx, hp => by cases h; simp only [PsR] at hp; subst hp; exact ⟨xs, rfl, hx⟩
  | (i, v) :: ps, cells, r, _, xs, h, hx, ⟨a, psA, h1, h2, h3⟩ => by
    subst h1
    unfold fillV at h
    unfold Instr.fill
    split at h
    · cases h
    · rename_i off size hpl
      rw [hpl]
      split at h
      · rename_i hc
        obtain ⟨c1, c2, c3⟩ := hc
        obtain ⟨hv, _⟩ := h2.cells c3
        have hl := hv.len
        have hxl := hx.len
        simp only [Array.length_toList] at hl hxl
        dsimp only
        generalize a.cells = A at hv hl ⊢
        have hcond : ¬ ((A.size ≠ size || off + A.size > xs.size) = true) := by
          have e1 : A.size = size := by omega
          have e2 : ¬ (off + size > xs.size) := by omega
          simp [e1]; omega
        rw [if_neg hcond]
        refine fillV_sound h ?_ h3
        have := foldl_set off A.toList 0 xs (by simp; omega)
        rw [← Array.foldl_toList, Array.toList_zipIdx, this, Nat.add_zero]
        exact hx.splice hv
      · cases h
def vBuild (P : Program) (t : TypeId) (parts : List (Nat × V)) : Option V := match zeroOf P t, placesOf P t with
  | some (.agg zs), some pl => if flatB (.agg zs) = true then (fillV (fun x => pl.toArray[x]?) (zs.toList.map .lit) parts).map .agg else none
  | _, _ => none
theorem junk_of (h : VR K v φ a) (hc : v.cells.all V.isCell = true) : junkB a = false := by
  cases v with
  | agg cs => obtain ⟨xs, rfl, _⟩ := h; rfl
  | _ =>
    have := (h.cell (by simpa [V.cells] using hc)).1
    simp only [cellB, Bool.and_eq_true, Bool.not_eq_true'] at this
    exact this.2
theorem fillV_cells {place : Nat → Option (Nat × Nat)} : ∀ {ps : List (Nat × V)} {cells r : List V}, fillV place cells ps = some r → ∀ p ∈ ps, p.2.cells.all V.isCell = true
  | [], _, _, _, p, hp => by simp at hp
  | (i, v) :: ps, cells, r, h, p, hp => by
    unfold fillV at h
    split at h
    · cases h
    · split at h
      · rename_i hc
        rcases List.mem_cons.1 hp with rfl | hp
        · exact hc.2.2
        · exact fillV_cells h p hp
      · cases h
theorem forall2_junk : ∀ {ps : List (Nat × V)} {psA : List (Nat × Value)}, PsR K φ ps psA → (∀ p ∈ ps, p.2.cells.all V.isCell = true) → ∀ p ∈ psA, (!junkB p.2) = true
  | [], _, h, _, p, hp => by simp only [PsR] at h; subst h; simp at hp
  | (i, v) :: ps, _, ⟨a, psA, h1, h2, h3⟩, hc, p, hp => by
    subst h1
    rcases List.mem_cons.1 hp with rfl | hp
    · rw [junk_of h2 (hc (i, v) (by simp))]; rfl
    · exact forall2_junk h3 (fun p hp => hc p (by simp [hp])) p hp
theorem vBuild_sound {t : TypeId} {ps : List (Nat × V)} {psA : Array (Nat × Value)} (h : vBuild P t ps = some v) (hps : PsR K φ ps psA.toList) : ∃ y, buildV P t psA = some y ∧ VR K v φ y := by
  unfold vBuild at h
  split at h
  · rename_i zs pl h1 h2
    split at h
    · rename_i hf
      cases hfi : fillV (fun x => pl.toArray[x]?) (zs.toList.map .lit) ps with
      | none => rw [hfi] at h; cases h
      | some r =>
        rw [hfi] at h; cases h
        have hz : VRs K (zs.toList.map .lit) φ zs.toList := VRs.lits (List.all_eq_true.1 (by rw [Array.all_toList]; exact hf))
        obtain ⟨ys, e1, e2⟩ := fillV_sound hfi hz hps
        have hj : (psA.all fun (_, x) => !junkB x) = true := by
          rw [← Array.all_toList, List.all_eq_true]
          exact forall2_junk hps (fillV_cells hfi)
        rw [buildV_places h1 hf h2 hj e1]
        exact ⟨_, rfl, ys, rfl, e2⟩
    · cases h
  · cases h
end
end Go.Proofs.Ytibejcomfjddfaa.VM
end
section
set_option maxHeartbeats 8000000
set_option linter.unusedVariables false
set_option linter.unusedSimpArgs false

/- The machine of values: one operation. -/
namespace Go.Proofs.Ytibejcomfjddfaa.VM
open Go AM
section
variable {P : Program} {K K' : Kn} {φ φ' : List Rz} {H H' : Hp} {σ σ' : Heap} {v x y : V} {a b : Value} {q : Bool} {ρ : Operand → V} {ρa : Operand → Value}
variable {dst : Option Tmp} {type : TypeId} {pos : String} {after : Array Edge} {guard : Option (Nat × Bool)}

/-- Rows of a slice literal: its parts in order. -/
def litRows (s len : Nat) (ps : List (Nat × V)) : Option (List (List V)) :=
  if ps.map (·.1) = List.range len ∧ RowsOk s (ps.map fun p => p.2.cells) then some (ps.map fun p => p.2.cells) else none
theorem zip_of : ∀ {ps : List (Nat × Value)} {k : Nat}, ps.map (·.1) = (List.range ps.length).map (· + k) → ps = ((ps.map (·.2)).zipIdx k).map fun x => (x.2, x.1)
  | [], _, _ => rfl
  | (i, a) :: ps, k, h => by
    simp only [List.map_cons, List.length_cons, List.range_succ_eq_map, List.map_map, List.cons.injEq, Nat.zero_add] at h
    obtain ⟨h1, h2⟩ := h
    subst h1
    have := zip_of (ps := ps) (k := i + 1) (by rw [h2]; apply List.map_congr_left; intro j _; simp; omega)
    rw [List.map_cons, List.zipIdx_cons, List.map_cons]
    rw [← this]
theorem PsR.rows {s : Nat} : ∀ {ps : List (Nat × V)} {psA : List (Nat × Value)}, PsR K φ ps psA → RowsOk s (ps.map fun p => p.2.cells) → RowsR K s (ps.map fun p => p.2.cells) φ ((psA.map (·.2)).flatMap fun v => v.cells.toList) ∧ (∀ v ∈ psA.map (·.2), v.cells.size = s) ∧ psA.map (·.1) = ps.map (·.1)
  | [], _, h, _ => by simp only [PsR] at h; subst h; exact ⟨rfl, by simp, rfl⟩
  | (i, v) :: ps, _, ⟨a, as, h1, h2, h3⟩, ho => by
    subst h1
    have hv := ho v.cells (by simp)
    obtain ⟨e1, e2, e3⟩ := PsR.rows h3 (fun r hr => ho r (by simp at hr ⊢; exact .inr hr))
    obtain ⟨c1, _⟩ := h2.cells hv.2
    refine ⟨⟨a.cells.toList, _, by simp, hv.1, c1, e1⟩, ?_, by simp [e3]⟩
    intro u hu
    rcases List.mem_cons.1 hu with rfl | hu
    · have := c1.len; rw [hv.1] at this; simpa using this
    · exact e2 u hu
def vLit (P : Program) (own : Bool) (p : Perm) (t : TypeId) (len : Nat) (ps : List (Nat × V)) (H : Hp) : Option (V × Hp) := match P.underlying t with
  | some (.slice e) => match szOf P e, zerosOf P e len with
    | some s, some zs => if zs.length = len * s ∧ 0 < s ∧ s ≤ 1048576 ∧ len * s ≤ 16777216 ∧ len ≤ 16777216 then (match litRows s len ps with
      | some rows => if own = false ∧ 0 < len ∧ rows.all pureVs = true then some (.fsl true s rows, H) else some (.own H.length 0, H ++ [.vec 0 rows s (p == .full) true])
      | none => none) else none
    | _, _ => none
  | _ => none
theorem vLit_sound (hR : Rel K φ H σ) {own : Bool} {p : Perm} (hpd : p ≠ .dead) {t : TypeId} {len : Nat} {ps : List (Nat × V)} {psA : Array (Nat × Value)} (h : vLit P own p t len ps H = some (v, H')) (hps : PsR K φ ps psA.toList) :
    Snd K φ v H' ((buildSliceV P t len psA).bind fun cs => (newBlkP σ cs p).map fun (a, σ') => (.slice (some a) len len, σ')) := by
  unfold vLit at h
  split at h
  · rename_i e hu
    split at h
    · rename_i s zs hs hz
      split at h
      · rename_i hc
        obtain ⟨c1, c2, c3, c4, c5⟩ := hc
        split at h
        · rename_i rows hl
          unfold litRows at hl
          split at hl
          · rename_i hr
            obtain ⟨r1, r2⟩ := hr
            cases hl
            obtain ⟨e1, e2, e3⟩ := hps.rows r2
            have hlen : ps.length = len := by have := congrArg List.length r1; simpa using this
            have hpsl : psA.toList.length = len := by have := congrArg List.length e3; simp at this ⊢; omega
            have hzip : psA.toList = ((psA.toList.map (·.2)).zipIdx 0).map fun x => (x.2, x.1) := zip_of (by rw [e3, r1, hpsl]; simp)
            have hfill : Instr.fill (fun i => some (i * s, s)) zs.toArray psA.toList = some ((psA.toList.map (·.2)).flatMap fun v => v.cells.toList).toArray := by
              conv => lhs; rw [hzip]
              exact Great.fill_whole c2 _ _ e2 (by simp only [List.length_map, hpsl]; simpa using c1.symm)
            have hj : (psA.all fun (_, x) => !junkB x) = true := by
              rw [← Array.all_toList, List.all_eq_true]
              exact forall2_junk hps (fun p hp => (r2 p.2.cells (List.mem_map.2 ⟨p, hp, rfl⟩)).2)
            have hb : buildSliceV P t len psA = some ((psA.toList.map (·.2)).flatMap fun v => v.cells.toList) := by
              unfold buildSliceV
              rw [hu]; dsimp only; rw [hs, hz]; dsimp only
              rw [if_pos ⟨c4, by simp only [top]; omega, hj⟩, hfill]; rfl
            rw [hb]
            have hrl : (ps.map fun p => p.2.cells).length = len := by simp [hlen]
            split at h
            · rename_i hc
              cases h
              have := newFslP hR hpd (c := len) e1 r2 (fun r hr => List.all_eq_true.1 hc.2.2 r hr) (by omega) (by simp only [AM.dng]; omega) (by unfold capOK; rw [capOf_exact_eq (by simp only [top]; omega), hrl]; exact Nat.le_refl _)
              rw [hrl] at this
              exact this
            · cases h
              have := newVecP hR (p := p) (rw := p == .full) (by cases p <;> first | rfl | simp [permOk] at hpd ⊢ | exact hpd) hpd (c := len) e1 r2 c2 c3 (by rw [hrl]; exact capX (by omega))
              rw [hrl] at this
              exact this
          · cases hl
        · cases h
      · cases h
    · cases h
  · cases h
theorem rows_rep {s : Nat} {z : List Value} (hz : z.length = s) (hs : ∀ x ∈ z, scalarB x = true) : ∀ n, RowsR K s (List.replicate n (z.map .lit)) φ (List.replicate n z).flatten
  | 0 => rfl
  | n + 1 => ⟨z, _, by rw [List.replicate_succ, List.flatten_cons], by simp [hz], VRs.lits hs, rows_rep hz hs n⟩
def vMake (P : Program) (t : TypeId) (l c : V) (H : Hp) : Option (V × Hp) := match P.underlying t, isInt l, isInt c with
  | some (.slice e), some l, some c => match szOf P e, byOf P e, zerosOf P e 1 with
    | some s, some bytes, some z => if l = c ∧ 0 ≤ l ∧ c ≤ 17179869184 ∧ bytes ≤ 4096 ∧ 0 < s ∧ s ≤ 1048576 ∧ z.length = s ∧ z.all (fun x => scalarB x && cellB x) = true then some (.own H.length 0, H ++ [.vec 0 (List.replicate l.toNat (z.map .lit)) s true true]) else none
    | _, _, _ => none
  | _, _, _ => none
theorem zeros_one {t n : Nat} {z : List Value} (h : zerosOf P t 1 = some z) : zerosOf P t n = some (List.replicate n z).flatten := by
  unfold zerosOf at h ⊢
  split at h
  · rename_i z' s h1 h2
    split at h
    · rename_i hc
      cases h
      rw [if_pos hc]
      simp
    · cases h
  · cases h
def makeA (P : Program) (t : TypeId) (la ca : Value) (σ : Heap) : Option (Value × Heap) := match P.underlying t, la, ca with
    | some (.slice e), .int _ l, .int _ c => match byOf P e with
      | some bytes => if 0 ≤ l ∧ l ≤ c ∧ c ≤ 17179869184 ∧ bytes ≤ 4096 then (zerosOf P e c.toNat).bind fun zs => (newBlk σ zs).map fun (a, σ') => (.slice (some a) l.toNat c.toNat, σ') else none
      | none => none
    | _, _, _ => none
theorem vMake_sound (hR : Rel K φ H σ) {t : TypeId} {l c : V} {la ca : Value} (h : vMake P t l c H = some (v, H')) (hl : VR K l φ la) (hc : VR K c φ ca) :
    Snd K φ v H' (makeA P t la ca σ) := by
  unfold makeA
  unfold vMake at h
  split at h
  · rename_i e l' c' hu i1 i2
    obtain ⟨k1, rfl⟩ := isInt_sound i1 hl
    obtain ⟨k2, rfl⟩ := isInt_sound i2 hc
    split at h
    · rename_i s bytes z h1 h2 h3
      split at h
      · rename_i hc
        obtain ⟨rfl, c1, c2, c3, c4, c5, c6, c7⟩ := hc
        cases h
        rw [hu]; dsimp only
        rw [h2]; dsimp only
        rw [if_pos ⟨c1, Int.le_refl _, c2, c3⟩, zeros_one h3]
        have hz : ∀ x ∈ z, scalarB x = true ∧ cellB x = true := fun x hx => by have := List.all_eq_true.1 c7 x hx; simpa using this
        have := newVec hR (c := l'.toNat) (rows_rep (n := l'.toNat) (φ := φ) (K := K) c6 fun x hx => (hz x hx).1) (s := s)
          (fun r hr => by
            rw [(List.mem_replicate.1 hr).2]
            refine ⟨by simp [c6], ?_⟩
            rw [List.all_map, List.all_eq_true]
            exact fun x hx => (hz x hx).2) c4 c5 (by rw [List.length_replicate]; exact capX (by omega))
        rw [List.length_replicate] at this
        exact this
      · cases h
    · cases h
  · cases h
/-- Bytes of rows. -/
def bytesV : List (List V) → Option (List UInt8)
  | [] => some []
  | [.lit v] :: l => match byteOfV v, bytesV l with
    | some b, some bs => some (b :: bs)
    | _, _ => none
  | _ => none
theorem bytesV_sound : ∀ {rows : List (List V)} {bs : List UInt8} {vals : List Value}, bytesV rows = some bs → RowsR K 1 rows φ vals → vals.mapM byteOfV = some bs
  | [], _, _, h, hr => by cases h; simp only [RowsR] at hr; subst hr; rfl
  | r :: rs, bs, _, h, ⟨a, as, h1, h2, h3, h4⟩ => by
    subst h1
    match r, h2, h3, h with
    | [x], h2, h3, h =>
      obtain ⟨a1, as1, e1, e2, e3⟩ := h3
      simp only [VRs] at e3
      subst e3; subst e1
      unfold bytesV at h
      split at h
      · rename_i hq; cases hq
      · rename_i v l hq
        cases hq
        obtain ⟨rfl, _⟩ := e2
        split at h
        · rename_i b bs' h5 h6
          cases h
          have := bytesV_sound h6 h4
          simp [List.mapM_cons, h5, this]
        · cases h
      · cases h
def vConv (P : Program) (own : Bool) (src dt : TypeId) (x : V) (H : Hp) : Option (V × Hp) := match P.underlying src, P.underlying dt with
  | some (.slice e), some .string => match P.underlying e, rowsOf H 1 x with
    | some (.int .u8), some rows => (bytesV rows).map fun bs => (.lit (.string ⟨bs.toArray⟩), H)
    | _, _ => none
  | some .string, some (.slice e) => match P.underlying e, x with
    | some (.int .u8), .lit (.string s) => if s.size ≤ 17179869184 then
        (if own = false then some (.fsl true 1 ((byteCells s).map fun c => [.lit c]), H) else some (.own H.length 0, H ++ [.vec 0 ((byteCells s).map fun c => [.lit c]) 1 false true])) else none
    | _, _ => none
  | some (.slice _), some (.slice _) => none
  | _, _ => match toVal x with
    | some (.int k n) => ((convI P src dt (.int k n)).bind mkLit).map (·, H)
    | _ => none
theorem byteRows_ok {s : ByteArray} : RowsOk 1 ((byteCells s).map fun c => [V.lit c]) := fun r hr => by
  obtain ⟨c, hc, rfl⟩ := List.mem_map.1 hr
  unfold byteCells at hc
  obtain ⟨y, _, rfl⟩ := List.mem_map.1 hc
  exact ⟨rfl, rfl⟩
def convA (P : Program) (src dt : TypeId) (x : Value) (alt : Option Value) (σ : Heap) : Option (Value × Heap) := match P.underlying src, P.underlying dt, x with
    | some (.slice e), some .string, .slice A n c => match P.underlying e with
      | some (.int .u8) => match A with
        | some a => match readN σ a n with
          | some cs => match cs.mapM byteOfV with
            | some bs => some (.string ⟨bs.toArray⟩, σ)
            | none => none
          | none => none
        | none => if n = 0 ∧ c = 0 then some (.string ⟨#[]⟩, σ) else none
      | _ => none
    | some (.slice _), some (.slice e), .slice (some a) n c => match P.underlying e, σ[a.block]? with
      | some (.int .u8), some b => if src = dt ∧ b.perm = .byt ∧ c < dng then some (.slice (some a) n c, σ) else none
      | _, _ => none
    | some .string, some (.slice e), .string s => match P.underlying e with
      | some (.int .u8) => if s.size ≤ 17179869184 then (newBlkP σ (byteCells s) .byt).map fun (a, σ') => (.slice (some a) s.size (unk 1 s.size), σ') else none
      | _ => none
    | _, _, _ => alt.map (·, σ)
theorem vConv_sound (hR : Rel K φ H σ) {own : Bool} {src dt : TypeId} {ox : Operand} (h : vConv P own src dt x H = some (v, H')) (hx : VR K x φ (ρa ox)) :
    Snd K φ v H' (convA P src dt (ρa ox) (aPure P ρa ⟨dst, .convert src dt ox, type, pos, after, guard⟩) σ) := by
  unfold vConv at h
  unfold convA
  split at h
  · rename_i e h1 h2
    split at h
    · rename_i rows h3 h4
      cases hb : bytesV rows with
      | none => rw [hb] at h; cases h
      | some bs =>
        rw [hb] at h; cases h
        obtain ⟨A, c, e1, e2, e3, e4, ⟨e5, e5'⟩ | ⟨b, o, vals, e5, e6, e7⟩⟩ := rowsOf_sound hR (by omega) h4 hx
        · have hr0 : rows = [] := List.eq_nil_of_length_eq_zero e5
          subst hr0
          cases hb
          subst e5'
          have hc0 := e2 rfl
          subst hc0
          rw [e1, h1, h2]; dsimp only
          rw [h3]; dsimp only
          rw [if_pos ⟨rfl, rfl⟩]
          exact .same hR ⟨rfl, rfl⟩
        · subst e5
          rw [e1, h1, h2]; dsimp only
          rw [h3]; dsimp only
          rw [readN_eq]
          rw [Nat.mul_one] at e6
          rw [e6]; dsimp only
          rw [bytesV_sound hb e7]
          exact .same hR ⟨rfl, rfl⟩
    · cases h
  · rename_i e h1 h2
    split at h
    · rename_i s h3
      obtain ⟨e1, _⟩ := hx
      rw [e1, h1, h2]; dsimp only
      rw [h3]; dsimp only
      split at h
      · rename_i hn
        rw [if_pos hn]
        have hl : ((byteCells s).map fun c => [V.lit c]).length = s.size := by rw [List.length_map, byteCells_len]
        split at h
        · cases h
          have := newFslP hR (p := .byt) (by simp) (c := unk 1 s.size) (rows1 (K := K) (φ := φ) (byteCells_scalar (b := s))) byteRows_ok (fun r hr => by obtain ⟨c, _, rfl⟩ := List.mem_map.1 hr; rfl) (by omega) (by unfold unk top AM.dng; omega) (by rw [hl]; exact capOK_of (capOf_unkS hn (by omega)) (Nat.le_refl _))
          rw [hl] at this
          exact this
        · cases h
          have := newVecP hR (p := .byt) (rw := false) (by simp [permOk]) (by simp) (c := unk 1 s.size) (rows1 (K := K) (φ := φ) (byteCells_scalar (b := s))) byteRows_ok (by omega) (by omega) (.inr (by rw [hl]; exact capV_new hn (by omega) (Nat.le_refl _)))
          rw [hl] at this
          exact this
      · cases h
    · cases h
  · cases h
  · rename_i n1 n2 n3
    split at h
    · rename_i k n hk
      have e1 := toVal_sound hk hx
      cases hci : convI P src dt (.int k n) with
      | none => rw [hci] at h; cases h
      | some y =>
        rw [hci] at h
        simp only [Option.bind_some] at h
        cases hm : mkLit y with
        | none => rw [hm] at h; cases h
        | some l =>
          rw [hm] at h; cases h
          rw [aPure_conv, e1, hci]
          split
          · rename_i hq; cases hq
          · rename_i hq; cases hq
          · rename_i hq; cases hq
          · exact .same hR (mkLit_sound hm)
    · cases h
/-- Rows are copied. -/
def vCopy (P : Program) (t tx : TypeId) (d x : V) (H : Hp) : Option (V × Hp) := match P.underlying t, P.underlying tx with
  | some (.slice e), some (.slice _) => match szOf P e, d with
    | some s, .own g w => match H[g]? with
      | some (.vec w' rows s' true t) => if w = w' ∧ s = s' then (match rowsOf H s x with
        | some xs => if RowsOk s xs then some (.lit (.int .i64 (Nat.min xs.length rows.length : Nat)), H.set g (.vec w' (xs.take (Nat.min xs.length rows.length) ++ rows.drop (Nat.min xs.length rows.length)) s true t)) else none
        | none => none) else none
      | _ => none
    | _, _ => none
  | _, _ => none
end
end Go.Proofs.Ytibejcomfjddfaa.VM
end
