/- varint.put, varint.Put. -/
import Derived.Test.YtenbclcfhjdcaaaVarP
import Derived.Test.YtenbclcfhjdcaaaProg
namespace Go.Proofs.Ytenbclcfhjdcaaa
open Go.RowKit B
theorem infoU8 : (Try.prog.info? 5).map (fun i => (i.zero, i.size, i.bytes)) = some (some (.int .u8 0), 1, 1) := by kernel_rfl
theorem bits_or (r : Nat) (h : r < 256) : bits BinOp.or IntKind.u8 (r : Int) 128 = ((r % 128 + 128 : Nat) : Int) := by
  have : ∀ r : Fin 256, bits BinOp.or IntKind.u8 ((r : Nat) : Int) 128 = (((r : Nat) % 128 + 128 : Nat) : Int) := by decide +kernel
  exact this ⟨r, h⟩
theorem bits_or' (q : Nat) : bits BinOp.or IntKind.u8 ((q : Int) % 256) 128 = ((q % 128 + 128 : Nat) : Int) := by
  have := bits_or (q % 256) (by omega)
  rw [show (((q % 256 : Nat) : Int)) = (q : Int) % 256 by omega] at this
  rw [this]
  omega
set_option maxRecDepth 100000 in
theorem varint_put (base : Nat) (v : Value) (n : Nat) (xs : List Int) (w : World) (x : Nat) (hown : w.ownsRow base 5 1 v n (u8s xs)) (hbase : base ≤ w.heap.size) (hx : x < 18446744073709551616) (hn : n ≤ 900000000) :
    Calls Try.prog 106 #[v, .int .u64 x] w fun e w' => ∃ g cap, e = .returned (.slice (some ⟨g, 0, none⟩) (n + (venc x).length) cap) ∧ (w'.ownsRow base 5 1 (.slice (some ⟨g, 0, none⟩) (n + (venc x).length) cap) (n + (venc x).length) (u8s (xs ++ venc x)) ∧ w.grownBy w' v.ownBlock ∧ (v.ownBlock = some g ∨ w.heap.size ≤ g)) := by
  obtain ⟨i0, hi0, hz0, hz1, hz2⟩ := info_parts infoU8
  obtain ⟨A, c, rfl⟩ := own_slice hown
  have H0 := Keep.mk hown
  have R : Keep (w.grownBy w (Value.slice A n c).ownBlock) := ⟨⟨rfl, rfl, rfl, Nat.le_refl _, fun _ _ _ => rfl⟩⟩
  clear hown
  have HX := Keep.mk hx
  clear hx
  go_enter Try.func106, Try.ntmps106
  go_wp2_with fail
  go_loopw [0, 1] (fun s y wr => ∃ (q m : Nat) (A2 : Option Addr) (c2 : Nat), s = .slice A2 (n + m) c2 ∧ y = .int .u64 q ∧ m ≤ 10 ∧ Keep (∃ ys, ys.length = m ∧ venc x = ys ++ venc q ∧ q < 18446744073709551616 ∧ wr.ownsRow base 5 1 (.slice A2 (n + m) c2) (n + m) (u8s (xs ++ ys)) ∧ w.grownBy wr (Value.slice A n c).ownBlock ∧ ((Value.slice A2 (n + m) c2).ownBlock = (Value.slice A n c).ownBlock ∨ ∀ k, (Value.slice A2 (n + m) c2).ownBlock = some k → w.heap.size ≤ k)))
    (fun _ y _ => (intOf y).toNat)
  case atStart => exact ⟨x, 0, A, c, rfl, rfl, by omega, ⟨[], rfl, rfl, HX.out, by simpa using H0.out, R.out, .inl rfl⟩⟩
  case round =>
    obtain ⟨q, m, A2, c2, rfl, rfl, hm, I⟩ := hrel
    by_cases h : 128 ≤ q
    · obtain ⟨ys, hy1, hy2, hq, o2, g2, a2⟩ := I.out
      have O2 := Keep.mk o2
      have hbs : base ≤ wr.heap.size := Nat.le_trans hbase g2.size
      have HBO := bits_or' q
      have K0 := Keep.mk (And.intro hy1 (And.intro hy2 (And.intro hq (And.intro g2 a2))))
      clear hy1 hy2 hq g2 a2 o2 I
      go_wp2_with (at_builtin; refine app1 (by rfl) _ _ _ (by rfl) base 5 5 i0 _ 1 1 Try.underlying23 hi0 hz0 hz1 hz2 rfl (by omega) _ (n + m) _ (by rfl) O2.out [.int .u8 ((q % 128 + 128 : Nat) : Int)] (by rfl) rfl (by simp [Value.oneCell']) (by omega) (by omega) hbs ?_; intro g3 cap3 w3 hown hg3 hat; have K := Keep.mk (And.intro hown (And.intro hg3 hat)); clear hown hg3 hat)
      obtain ⟨hy1, hy2, hq, g2, a2⟩ := K0.out
      obtain ⟨o3, g3', at3⟩ := K.out
      have hl := venc_length x
      have hp := venc_pos (q / 128)
      have he := venc_ge q h hq
      rw [hy2, List.length_append, he, List.length_cons] at hl
      have gg := grown_trans (grown_alloc g2 _) g3' (a2.elim .inl .inr)
      have e1 : ys ++ [((q % 128 + 128 : Nat) : Int)] ++ venc (q / 128) = venc x := by rw [hy2, he, List.append_assoc]; rfl
      refine ⟨⟨q / 128, m + 1, _, cap3, rfl, by rw [show ((q / 128 : Nat) : Int) = (q : Int) / 128 by omega], by omega, ⟨ys ++ [((q % 128 + 128 : Nat) : Int)], by simp [hy1], e1.symm, by omega, ?_, gg, ?_⟩⟩, ?_⟩
      · have e2 : u8s (xs ++ ys) ++ [.int .u8 ((q % 128 + 128 : Nat) : Int)] = u8s (xs ++ (ys ++ [((q % 128 + 128 : Nat) : Int)])) := by simp [u8s]
        rw [e2] at o3
        exact o3
      · rcases at3 with e | e
        · rcases a2 with e2 | e2
          · left; rw [← e2, e]; rfl
          · right; intro k hk; exact e2 k (by rw [e]; exact hk)
        · right; intro k hk
          simp [Value.ownBlock] at hk
          have := g2.size
          omega
      · simp [intOf]; omega
    · obtain ⟨ys, hy1, hy2, hq, o2, g2, a2⟩ := I.out
      have O2 := Keep.mk o2
      have hbs : base ≤ wr.heap.size := Nat.le_trans hbase g2.size
      have K0 := Keep.mk (And.intro hy1 (And.intro hy2 (And.intro hq (And.intro g2 a2))))
      have hm256 : (q : Int) % 256 = (q : Int) := by omega
      clear hy1 hy2 hq g2 a2 o2 I
      go_wp2_with (at_builtin; refine app1 (by rfl) _ _ _ (by rfl) base 5 5 i0 _ 1 1 Try.underlying23 hi0 hz0 hz1 hz2 rfl (by omega) _ (n + m) _ (by rfl) O2.out [.int .u8 (q : Int)] (by rfl) rfl (by simp [Value.oneCell']) (by omega) (by omega) hbs ?_; intro g3 cap3 w3 hown hg3 hat; have K := Keep.mk (And.intro hown (And.intro hg3 hat)); clear hown hg3 hat)
      go_ret
      obtain ⟨hy1, hy2, hq, g2, a2⟩ := K0.out
      obtain ⟨o3, g3', at3⟩ := K.out
      have he := venc_lt q (by omega)
      have gg := grown_trans (grown_alloc g2 _) g3' (a2.elim .inl .inr)
      have hl : (venc x).length = m + 1 := by rw [hy2, he]; simp [hy1]
      have e2 : u8s (xs ++ ys) ++ [.int .u8 (q : Int)] = u8s (xs ++ venc x) := by rw [hy2, he]; simp [u8s]
      rw [e2] at o3
      refine ⟨g3, cap3, by rw [hl]; rfl, by rw [hl]; exact o3, gg, ?_⟩
      rcases at3 with e | e
      · rcases a2 with e2 | e2
        · left; rw [← e2, e]
        · right; exact e2 g3 e
      · right; have := g2.size; omega
/-- What Put answers: nothing, where a number is below 0. -/
def putL (l : List Int) : List Int := if l.all (fun x => decide (0 ≤ x)) then vencs l else []
theorem putL_ok (l : List Int) (h : ∀ i, i < l.length → 0 ≤ el l i) : putL l = vencs l := by
  unfold putL
  rw [if_pos]
  rw [List.all_eq_true]
  intro x hx
  obtain ⟨i, hi, rfl⟩ := List.getElem_of_mem hx
  have := h i hi
  rw [el_eq l i hi] at this
  simpa using this
theorem putL_bad (l : List Int) (i : Nat) (hi : i < l.length) (h : el l i < 0) : putL l = [] := by
  unfold putL
  rw [if_neg]
  intro ha
  rw [List.all_eq_true] at ha
  have := ha _ (List.getElem_mem hi)
  rw [el_eq l i hi] at h
  simp at this
  omega
theorem vencs_take (l : List Int) (k : Nat) (h : k < l.length) : vencs (l.take (k + 1)) = vencs (l.take k) ++ venc (el l k).toNat := by
  rw [List.take_succ_eq_append_getElem h, vencs_append, el_eq l k h]
  simp [vencs]
theorem below_of_grown {B : Nat} {w w1 w2 : World} {r : Option Nat} (h : Below B w w1) (hB : B ≤ w1.heap.size) (hg : w1.grownBy w2 r) (hr : ∀ k, r = some k → B ≤ k) : Below B w w2 := h.grown hg hB hr
set_option maxRecDepth 100000 in
theorem varint_Put (v : Value) (l : List Int) (w : World) (h : Row w v l.length (ints l)) (hm : l.length ≤ 1000000) (hb : ∀ i, i < l.length → el l i < 9223372036854775808) :
    Calls Try.prog 85 #[v] w fun e w' => ∃ v', e = .returned v' ∧ w'.ownsRow w.heap.size 5 1 v' (putL l).length (u8s (putL l)) ∧ Below w.heap.size w w' := by
  have R := Keep.mk (Below.refl w.heap.size w)
  have H0 := Keep.mk h
  have HB := Keep.mk hb
  clear hb
  obtain ⟨A, c, rfl, h1, h2, _⟩ := h
  go_enter Try.func85, Try.ntmps85
  go_wp2_with fail
  go_loopw [3, 8] (fun s i wr => ∃ (k : Nat) (A2 : Option Addr) (n2 c2 : Nat), i = .int .i64 k ∧ s = .slice A2 n2 c2 ∧ k ≤ l.length ∧ n2 ≤ 10 * k ∧ Keep ((∀ j, j < k → 0 ≤ el l j) ∧ n2 = (vencs (l.take k)).length ∧ wr.ownsRow w.heap.size 5 1 (.slice A2 n2 c2) n2 (u8s (vencs (l.take k))) ∧ Below w.heap.size w wr)) (fun _ i _ => l.length - (intOf i).toNat)
  case atStart => exact ⟨0, none, 0, 0, rfl, rfl, Nat.zero_le _, Nat.le_refl _, ⟨fun j hj => absurd hj (Nat.not_lt_zero _), rfl, own_nil' _ _ _ _, R.out⟩⟩
  case round =>
    obtain ⟨k, A2, n2, c2, rfl, rfl, hk, hn2, I⟩ := hrel
    by_cases hlt : k < l.length
    · obtain ⟨g, o, c', e, _, _, hc⟩ : ∃ g o c', Value.slice A l.length c = .slice (some ⟨g, o, none⟩) l.length c' ∧ l.length ≤ c' ∧ c' ≤ maxLen ∧ ∀ j u, (ints l)[j]? = some u → w.cell? ⟨g, o + j, none⟩ = some u := by
        rcases H0.out.open_ with ⟨h0, _⟩ | h
        · omega
        · exact h
      cases e
      have e1 := kc I.out.2.2.2 (hc k _ (ints_get l k hlt))
      clear hc
      by_cases hneg : el l k < 0
      · go_wp2_with fail
        go_ret
        refine ⟨.slice none 0 0, rfl, ?_, I.out.2.2.2⟩
        rw [putL_bad l k hlt hneg]
        exact own_nil' _ _ _ _
      · obtain ⟨x, hx⟩ : ∃ x : Nat, el l k = x := ⟨(el l k).toNat, by omega⟩
        have hxb := HB.out k hlt
        rw [hx] at e1 hxb
        have HX := Keep.mk hx
        clear hx hneg
        have hxm : (x : Int) % 18446744073709551616 = x := by omega
        have HP := Keep.mk (varint_put w.heap.size (.slice A2 n2 c2) n2 (vencs (l.take k)) wr x I.out.2.2.1 I.out.2.2.2.size (by omega) (by omega))
        have hu : IntKind.u64.wrap (x : Int) = (x : Int) := by simp only [IntKind.wrap]; exact hxm
        have HXB := Keep.mk hxb
        clear hxm hxb
        go_wp2_with (go_at_call 106; refine HP.out.mono ?_; rintro e w' ⟨g2, cap2, rfl, hq⟩; have KQ := Keep.mk hq; clear hq)
        obtain ⟨o3, g3, a3⟩ := KQ.out
        have hl := venc_length x
        have e3 : vencs (l.take k) ++ venc x = vencs (l.take (k + 1)) := by rw [vencs_take l k hlt, HX.out, Int.toNat_natCast]
        have e4 : n2 + (venc x).length = (vencs (l.take (k + 1))).length := by rw [← e3, List.length_append, ← I.out.2.1]
        rw [e3] at o3
        have hbb := I.out.2.2.2.grown g3 I.out.2.2.2.size (fun j hj => (I.out.2.2.1.lt j hj).1)
        exact ⟨⟨k + 1, _, _, cap2, by go_num, rfl, by omega, by omega, ⟨fun j hj => by rcases Nat.lt_or_ge j k with h | h; exact I.out.1 j h; rw [show j = k by omega, HX.out]; omega, e4, o3, hbb⟩⟩, by simp [intOf]; omega⟩
    · obtain rfl : k = l.length := by omega
      go_wp2_with fail
      go_ret
      have e := I.out
      rw [List.take_length] at e
      obtain ⟨e1, e2, e3, e4⟩ := e
      rw [putL_ok l e1]
      refine ⟨_, rfl, ?_, e4⟩
      rw [← e2]
      exact e3
end Go.Proofs.Ytenbclcfhjdcaaa
