/- DocsFinds: each byte of each document is found where it is put. -/
import Derived.Test.YtenbclcfhjdcaaaDocsKnown
import Derived.Test.YtenbclcfhjdcaaaRead
namespace Go.Proofs.Ytenbclcfhjdcaaa
open Go.RowKit B

/-- A slice's value, out of its three parts. -/
def slv (x : Option Addr × Nat × Nat) : Value := .slice x.1 x.2.1 x.2.2
def cut20 (x : Option Addr × Nat × Nat) : Option Addr × Nat × Nat := (x.1, min x.2.1 20, x.2.2)
theorem infoBytes : (Try.prog.info? 23).map (fun i => (i.zero, i.size, i.bytes)) = some (some (.slice none 0 0), 1, 24) := by kernel_rfl
def lens (L : List (Option Addr × Nat × Nat)) : List Int := L.map fun x => (x.2.1 : Int)
theorem lens_el (L : List (Option Addr × Nat × Nat)) (i : Nat) (h : i < L.length) : el (lens L) i = L[i].2.1 := by
  rw [el_eq _ _ (by simpa [lens] using h)]; simp [lens]
theorem lens_right (L : List (Option Addr × Nat × Nat)) (h : L.length ≤ 8) : Docs.Right (lens (L.map cut20)) := by
  refine ⟨by simp [lens]; omega, fun k hk => ?_⟩
  have hk' : k < (L.map cut20).length := by simpa [lens] using hk
  rw [lens_el _ k hk']
  simp [cut20]
  omega
theorem lens_reads {w : World} {v : Value} {L : List (Option Addr × Nat × Nat)} (h : Row w v L.length (L.map slv)) : Lens w v (lens L) := by
  refine ⟨L.map slv, by simpa [lens] using h, fun i hi => ?_⟩
  have hi' : i < L.length := by simpa [lens] using hi
  exact ⟨L[i].1, L[i].2.2, L[i].2.1, by simp [hi', slv], lens_el L i hi'⟩
theorem infoU8 : (Try.prog.info? 5).map (fun i => (i.zero, i.size, i.bytes)) = some (some (.int .u8 0), 1, 1) := by kernel_rfl

theorem docs_place_in (v : Value) (sz : List Int) (d o : Nat) (w : World) (h : DocsAt w v sz) (hr : Docs.Right sz) (hd : d < sz.length) (ho : (o : Int) ≤ el sz d) :
    Calls Try.prog 15 #[v, .int .i64 d, .int .i64 o] w fun e w' => e = .returned (.tuple #[.int .i64 (Docs.st sz d + o), .int .i64 0]) ∧ w = w' := by
  have k := docs_place v sz d o w h hr
  have e : Docs.place sz d o = (Docs.st sz d + o, 0) := by unfold Docs.place; rw [if_neg (by omega), Int.toNat_natCast, if_neg (by omega)]
  rw [e] at k
  exact k
theorem docs_find_in (v : Value) (sz : List Int) (d o : Nat) (w : World) (h : DocsAt w v sz) (hr : Docs.Right sz) (hd : d < sz.length) (ho : (o : Int) < el sz d) :
    Calls Try.prog 16 #[v, .int .i64 (Docs.st sz d + o)] w fun e w' => e = .returned (.tuple #[.int .i64 d, .int .i64 o, .int .i64 0]) ∧ Below w.heap.size w w' := by
  have k := docs_find v sz (Docs.st sz d + o) w h hr
  have e := Docs.find_at sz hr (Docs.st sz d + o) d hd (by omega) (Docs.place_in sz hr d o hd (by omega))
  rw [if_neg (by omega), show Docs.st sz d + (o : Int) - Docs.st sz d = o by omega] at e
  rw [e] at k
  exact k
set_option maxRecDepth 100000 in
theorem docsFinds_walk (A : Option Addr) (c : Nat) (L : List (Option Addr × Nat × Nat)) (w : World) (hl : L.length ≤ c) (hc : c ≤ maxLen) (hL : ∀ x ∈ L, x.2.1 ≤ x.2.2 ∧ x.2.2 ≤ maxLen)
    (hcell : 0 < L.length → ∃ g o, A = some ⟨g, o, none⟩ ∧ g < w.heap.size ∧ ∀ i (h : i < L.length), w.cell? ⟨g, o + i, none⟩ = some (slv L[i])) :
    Calls Try.prog 3 #[.slice A L.length c] w fun e w' => e = .returned (.bool true) ∧ Below w.heap.size w w' := by
  obtain ⟨i0, hi0, hz0, hz1, hz2⟩ := info_parts infoBytes
  obtain ⟨iu, hiu, _, _, _⟩ := info_parts infoU8
  have R : Keep (Below w.heap.size w w) := ⟨Below.refl _ _⟩
  have HC := Keep.mk hcell
  have HL := Keep.mk hL
  unfold maxLen at hc
  clear hcell hL
  generalize hB : w.heap.size = B at *
  have HB := Keep.mk hB
  clear hB
  go_enter Try.func3, Try.ntmps3
  go_wp2_with fail
  go_loopw [3, 4] (fun s i wr => ∃ k : Nat, i = .int .i64 k ∧ k ≤ L.length ∧ k ≤ 8 ∧ Keep (wr.ownsRow B 23 1 s k (((L.take k).map cut20).map slv) ∧ Below B w wr ∧ B ≤ wr.heap.size))
    (fun _ i _ => 8 - (intOf i).toNat)
  case atStart => exact ⟨0, rfl, Nat.zero_le _, Nat.zero_le _, ⟨own_nil' _ _ _ _, R.out, by rw [HB.out]; exact Nat.le_refl _⟩⟩
  case round =>
    obtain ⟨k, rfl, hk, hk8, I⟩ := hrel
    by_cases hcc : k < L.length ∧ k < 8
    · obtain ⟨h1, h2⟩ := hcc
      · obtain ⟨g, o, rfl, gl, hcl⟩ := HC.out (by omega)
        have cell := (I.out.2.1.cell (p := ⟨g, o + k, none⟩) gl).trans (hcl k h1)
        have hx := HL.out L[k] (List.getElem_mem h1)
        clear hcl
        generalize hv : L[k] = x at *
        obtain ⟨A2, m, c2⟩ := x
        simp only [slv] at cell hx
        have HV := Keep.mk hv
        clear hv
        obtain ⟨hx1, hx2⟩ := hx
        unfold maxLen at hx2
        obtain ⟨A3, c3, rfl⟩ := own_slice I.out.1
        have hlt1 : g < wr.heap.size := by have := I.out.2.2; omega
        have hn1 : wr.heap.size ≠ g := by omega
        have hn2 : g ≠ wr.heap.size := by omega
        have i1 : (0 : Int) ≤ (k : Int) := by omega
        have i2 : (k : Int) < (L.length : Int) := by omega
        have j0 : (0 : Int) ≤ (m : Int) := by omega
        have j1 : (m : Int) ≤ (c2 : Int) := by omega
        obtain ⟨q, hq0⟩ : ∃ q, q = min m 20 := ⟨_, rfl⟩
        have hq : (if (20 : Int) < (m : Int) then (20 : Int) else (m : Int)) = (q : Int) := by split <;> omega
        have hsl : ∀ w, (Instr.slice 23 (.slice A2 m c2) none (some (.int .i64 (q : Int))) none).run Try.prog w = .ok (.slice A2 q c2) w := fun w => run_cut Try.underlying23 hiu A2 m c2 q (by omega) w
        have HQ := Keep.mk hq0
        clear hq0
        go_wp2_with fail
        go_region_held3 (fun w' => w'.cell? ⟨g, o + k, none⟩ = some (.slice A2 m c2)) (first | go_keep | exact d0)
          ((refine step1 (by rfl) _ _ _ (by rfl) B 23 23 i0 _ 1 24 Try.underlying22 hi0 hz0 hz1 hz2 rfl (by omega) _ k _ (by rfl) I.out.1 [.slice A2 q c2] (by rfl) rfl (by simp [Value.oneCell']) (by omega) (by omega) I.out.2.2 ?_; intro g3 cap3 w3 hown hg3 hat; have d0 : w3.cell? ⟨g, o + k, none⟩ = some (.slice A2 m c2) := ((World.cell?_of_block (w := wr) (a := ⟨g, o + k, none⟩) (w' := w3) ((hg3.block g (by simp; omega) (fun e => by have := (I.out.1.lt _ e.symm).1; omega)).trans (heap_alloc_old _ _ hlt1))).trans cell)))
        have K := Keep.mk (And.intro hown hg3)
        clear hown hg3 hat d0
        go_wp2
        obtain ⟨o1, g1⟩ := K.out
        have hs := g1.size
        simp at hs
        have hb1 := I.out.2.2
        refine ⟨⟨k + 1, by go_num, by omega, by omega, ⟨?_, (balloc' I.out.2.1 _).grown g1 (by simp; omega) (fun j hj => (I.out.1.lt j hj).1), by omega⟩⟩, by simp [intOf]; omega⟩
        rw [List.take_succ_eq_append_getElem h1, List.map_append, List.map_append, HV.out]
        rw [HQ.out] at o1
        exact o1
    · have HF : ¬ (k < L.length) ∨ (k < L.length ∧ ¬ k < 8) := by omega
      have hT : (L.take k).length = k := by simp; omega
      have HR := Keep.mk (lens_right (L.take k) (by rw [hT]; exact hk8))
      generalize hM : (L.take k).map cut20 = M at *
      have hMl : M.length = k := by rw [← hM]; simpa using hT
      have HN := Keep.mk (docs_of u3 _ wr (lens_reads (by rw [hMl]; exact Row.of_own I.out.1)) HR.out)
      have hml : (lens M).length = k := by simpa [lens] using hMl
      have HMl := Keep.mk hMl
      have HLL := Keep.mk hml
      obtain ⟨A3, c3, rfl⟩ := own_slice I.out.1
      clear hM hT hMl hml hcc
      rcases HF with h1 | ⟨h1, h2⟩
      all_goals
        go_wp2_with (go_at_call 14; refine HN.out.mono ?_; rintro e w1 ⟨p, rfl, hd, hb⟩; have K := Keep.mk (And.intro hd hb); clear hd hb)
        have RW : Keep (Row w1 (.slice A3 k c3) k (M.map slv)) := ⟨(Row.of_own I.out.1).below K.out.2⟩
        have R1 : Keep (Below w1.heap.size w1 w1) := ⟨Below.refl _ _⟩
        go_loopw [7] (fun d wr2 => ∃ dd : Nat, d = .int .i64 dd ∧ dd ≤ k ∧ Keep (Below w1.heap.size w1 wr2)) (fun d _ => k - (intOf d).toNat)
        case atStart => exact ⟨0, rfl, Nat.zero_le _, R1⟩
        case round =>
          obtain ⟨d, rfl, hd, I2⟩ := hrel
          obtain ⟨wr2, hwr⟩ : ∃ wa : World, wa = wr := ⟨_, rfl⟩
          subst hwr
          by_cases hdk : d < k
          · obtain ⟨ga, oa, hA3, hcell⟩ : ∃ ga oa, A3 = some ⟨ga, oa, none⟩ ∧ w1.cell? ⟨ga, oa + d, none⟩ = some (slv (M.getD d (none, 0, 0))) := by
              rcases RW.out.open_ with ⟨hz, _⟩ | ⟨ga, oa, c, e, _, _, hc⟩
              · omega
              · cases e
                have hd2 : d < M.length := by have := HMl.out; omega
                exact ⟨ga, oa, rfl, hc d _ (by simp [hd2])⟩
            subst hA3
            have hm0 : el (lens M) d = (M.getD d (none, 0, 0)).2.1 := by
              have hd2 : d < M.length := by have := HMl.out; omega
              rw [lens_el M d hd2]; simp [hd2]
            have hm20 := HR.out.2 d (by have := HLL.out; omega)
            rw [hm0] at hm20
            have HM0 := Keep.mk hm0
            clear hm0
            generalize M.getD d (none, 0, 0) = x at *
            obtain ⟨A4, m, c4⟩ := x
            simp only [slv] at hcell hm20
            have hcell2 := kc I2.out hcell
            go_wp2_with fail
            go_loopw [8] (fun o wr3 => ∃ oo : Nat, o = .int .i64 oo ∧ oo ≤ m ∧ Keep (Below w1.heap.size w1 wr3)) (fun o _ => m - (intOf o).toNat)
            case atStart => exact ⟨0, rfl, Nat.zero_le _, I2⟩
            case round =>
              obtain ⟨oo, rfl, hoo, I3⟩ := hrel
              obtain ⟨wr3, hwr⟩ : ∃ wa : World, wa = wr := ⟨_, rfl⟩
              subst hwr
              have hcell3 := kc I3.out hcell
              clear hcell2
              by_cases hlt : oo < m
              · have HD := K.out.1.below I3.out
                have HP := Keep.mk (docs_place_in p (lens M) d oo wr3 HD HR.out (by have := HLL.out; omega) (by rw [HM0.out]; omega))
                have HFi := Keep.mk (docs_find_in p (lens M) d oo wr3 HD HR.out (by have := HLL.out; omega) (by rw [HM0.out]; omega))
                clear HD
                go_wp2_with (first | (go_at_call 15; refine HP.out.mono ?_; rintro e w2 ⟨rfl, rfl⟩) | (go_at_call 16; refine HFi.out.mono ?_; rintro e w2 ⟨rfl, hb⟩; have KB := Keep.mk hb; clear hb))
                go_roundw
                case rel => exact ⟨oo + 1, by go_num, by omega, ⟨bnext I3.out I3.out.size KB.out⟩⟩
                case measure => simp [intOf]; omega
              · go_wp2_with fail
                obtain rfl : oo = m := by omega
                exact ⟨⟨d + 1, by go_num, by omega, I3⟩, by simp [intOf]; omega⟩
          · obtain rfl : d = k := by omega
            have hfb := Docs.fin_bound _ HR.out
            obtain ⟨N, hN⟩ : ∃ N : Nat, (N : Int) = Docs.fin (lens M) + 1 := ⟨(Docs.fin (lens M) + 1).toNat, by omega⟩
            have HN2 := Keep.mk hN
            clear hN
            go_wp2_with fail
            go_loopw [14, 15] (fun s p wr3 => ∃ pp : Nat, p = .int .i64 pp ∧ pp ≤ N ∧ s = .int .i64 (Docs.cnt (lens M) pp) ∧ Keep (Below w1.heap.size w1 wr3)) (fun _ p _ => N - (intOf p).toNat)
            case atStart => exact ⟨0, rfl, Nat.zero_le _, rfl, I2⟩
            case round =>
              obtain ⟨pp, rfl, hpp, rfl, I3⟩ := hrel
              obtain ⟨wr3, hwr⟩ : ∃ wa : World, wa = wr := ⟨_, rfl⟩
              subst hwr
              have HD := K.out.1.below I3.out
              have HS := docs_symbols p (lens M) wr3 HD HR.out
              rw [← HN2.out] at HS
              have HS := Keep.mk HS
              have hN6 : N ≤ 65601 := by have := HN2.out; omega
              have hcl := Docs.cnt_le (lens M) pp
              by_cases hlt : pp < N
              · have HFi := docs_find p (lens M) pp wr3 HD HR.out
                have hcs := Docs.cnt_succ (lens M) pp
                generalize Docs.find (lens M) pp = f at *
                obtain ⟨f1, f2, f3⟩ := f
                have HC3 := Keep.mk hcs
                have HFi := Keep.mk HFi
                clear HD hcs
                by_cases hf : f3 = 0
                all_goals
                  first
                    | (have hfd : (f3 != 0) = false := by simp [hf])
                    | (have hfd : (f3 != 0) = true := by simp [hf])
                  have HFF := Keep.mk hf
                  clear hf
                  go_wp2_with (first | (go_at_call 17; refine HS.out.mono ?_; rintro e w2 ⟨rfl, rfl⟩) | (go_at_call 16; refine HFi.out.mono ?_; rintro e w2 ⟨rfl, hb⟩; have KB := Keep.mk hb; clear hb))
                  go_roundw
                  case rel => exact ⟨pp + 1, by go_num, by omega, by rw [HC3.out]; simp only [HFF.out, ne_eq, not_true_eq_false, not_false_eq_true, ↓reduceIte]; go_num, ⟨bnext I3.out I3.out.size KB.out⟩⟩
                  case measure => simp [intOf]; omega
              · obtain rfl : pp = N := by omega
                have hca := Docs.cnt_all (lens M) HR.out pp HN2.out
                rw [HLL.out] at hca
                rw [hca] at *
                have HKn := Keep.mk (docs_known wr3)
                clear HD hca
                go_wp2_with (first | (go_at_call 17; refine HS.out.mono ?_; rintro e w2 ⟨rfl, rfl⟩) | (go_at_call 18; refine HKn.out.mono ?_; rintro e w2 ⟨rfl, hb⟩; have KB := Keep.mk hb; clear hb HS))
                have HB2 := Keep.mk (bnext I3.out I3.out.size KB.out)
                have HT := Keep.mk (docs_total p (lens M) w2 (K.out.1.below HB2.out) HR.out)
                rw [HLL.out] at HT
                refine HT.out.mono ?_
                rintro e w4 ⟨rfl, hb4⟩
                have HB4 := Keep.mk (bnext HB2.out HB2.out.size hb4)
                have HS4 := Keep.mk (docs_symbols p (lens M) w4 (K.out.1.below HB4.out) HR.out)
                clear hb4
                go_wp2_with (go_at_call 17; refine HS4.out.mono ?_; rintro e w5 ⟨rfl, rfl⟩)
                go_ret
                refine ⟨retB ?_, ?_⟩
                · simp; omega
                · exact bnext (bnext I.out.2.1 I.out.2.2 K.out.2) (by have := I.out.2.2; have := K.out.2.size; omega) HB4.out

theorem docsFinds_row {H : Type} {enc : TypeId × Value → H} (A : Option Addr) (n c : Nat) (w : World) (h : Rd enc Try.prog w 22 [.slice A n c]) :
    Calls Try.prog 3 #[.slice A n c] w fun e w' => e = .returned (.bool true) ∧ Below w.heap.size w w' := by
  obtain ⟨h1, h2, h3, f, hf⟩ := h.slice1 Try.underlying22 (by kernel_rfl)
  have hE : ∀ i : Nat, ∃ x : Option Addr × Nat × Nat, i < n → f i = slv x ∧ x.2.1 ≤ x.2.2 ∧ x.2.2 ≤ maxLen := fun i => by
    by_cases hi : i < n
    · obtain ⟨v2, m2, es2, hv2, _, ⟨A2, c2, rfl, h3, h4, _⟩, _⟩ := (hf i hi).2.slice Try.underlying23 (by kernel_rfl : Try.prog.cellsOf 5 = 1) (by omega)
      exact ⟨(A2, m2, c2), fun _ => ⟨by simpa [slv] using hv2, h3, h4⟩⟩
    · exact ⟨(none, 0, 0), fun h => absurd h hi⟩
  obtain ⟨q, hq⟩ := Classical.axiomOfChoice hE
  have hlen : ((List.range n).map q).length = n := by simp
  have key := docsFinds_walk A c ((List.range n).map q) w (by rw [hlen]; exact h1) h2 (fun x hx => by
    simp at hx
    obtain ⟨i, hi, rfl⟩ := hx
    exact (hq i hi).2) (fun h0 => by
    rw [hlen] at h0
    obtain ⟨g, o, e, hg⟩ := h3 h0
    refine ⟨g, o, e, hg, fun i hi => ?_⟩
    have hi' : i < n := by simpa using hi
    rw [(hf i hi').1 g o e, (hq i hi').1]
    simp)
  rw [hlen] at key
  exact key
end Go.Proofs.Ytenbclcfhjdcaaa
