/- What the proof of CommandReads rests on: library functions at the model's level. -/
import Derived.BigQuiet
import Derived.Deep.Draws
import Derived.KernelRfl
import Derived.Shelf.Bytes.Small
import Derived.Shelf.LaysM
import Derived.Shelf.Strings.Fields
import Derived.Shelf.Strings.SplitShaped
import Derived.Shelf.Unicode.ExclAny
import Derived.Shelf.Unicode.Is16Any
import Derived.Shelf.Unicode.Is16White
import Derived.Shelf.Unicode.Is32Any
import Derived.Shelf.Unicode.IsSpaceAny
import Derived.Shelf.Unicode.Latin
import Derived.Test.YtenbclcfhjdcaaaDoorProg
import Derived.WalkKit
section
set_option maxHeartbeats 8000000
set_option linter.unusedVariables false
set_option linter.unusedSimpArgs false
/- The kit's contracts of library functions, laid at this seat by the kit's tool (strings_Fields). -/
namespace Go.Proofs.YtenbclcfhjdcaaaDoor.SH
open Go Go.Proofs Go.Shelf
def Tryd.lays157_ren : Go.Shelf.Ren := ⟨fun | 157 => 59 | 229 => 67 | 199 => 68 | 261 => 73 | 311 => 74 | 312 => 75 | n => n, fun | 9 => 9 | 31 => 100 | 3 => 3 | 5 => 5 | 4 => 4 | 119 => 116 | 0 => 0 | 40 => 118 | 152 => 127 | 21 => 21 | 154 => 129 | 51 => 130 | 141 => 132 | 196 => 137 | 193 => 134 | 198 => 140 | 49 => 138 | 194 => 135 | 201 => 143 | 226 => 145 | 46 => 110 | 227 => 146 | n => n, fun | 0 => 1 | 6 => 2 | n => n⟩
theorem Tryd.lays157 : Go.Proofs.Lays.n157 Tryd.prog Tryd.lays157_ren := {
  mixed := by kernel_rfl
  f157 := Tryd.func59.trans (congrArg some (by kernel_rfl))
  f199 := Tryd.func68.trans (congrArg some (by kernel_rfl))
  f229 := Tryd.func67.trans (congrArg some (by kernel_rfl))
  f261 := Tryd.func73.trans (congrArg some (by kernel_rfl))
  f311 := Tryd.func74.trans (congrArg some (by kernel_rfl))
  f312 := Tryd.func75.trans (congrArg some (by kernel_rfl))
  t0 := Tryd.underlying0
  a0 := Tryd.isAgg0
  z0 := Tryd.sizeOf0
  v0 := Tryd.zeroValue0
  t3 := Tryd.underlying3
  a3 := Tryd.isAgg3
  z3 := Tryd.sizeOf3
  v3 := Tryd.zeroValue3
  t4 := Tryd.underlying4
  a4 := Tryd.isAgg4
  z4 := Tryd.sizeOf4
  v4 := Tryd.zeroValue4
  t5 := Tryd.underlying5
  a5 := Tryd.isAgg5
  z5 := Tryd.sizeOf5
  v5 := Tryd.zeroValue5
  t9 := Tryd.underlying9
  a9 := Tryd.isAgg9
  z9 := Tryd.sizeOf9
  v9 := Tryd.zeroValue9
  t21 := Tryd.underlying21
  a21 := Tryd.isAgg21
  z21 := Tryd.sizeOf21
  v21 := Tryd.zeroValue21
  t31 := Tryd.underlying100
  a31 := Tryd.isAgg100
  z31 := Tryd.sizeOf100
  v31 := Tryd.zeroValue100
  t40 := Tryd.underlying118
  a40 := Tryd.isAgg118
  z40 := Tryd.sizeOf118
  v40 := Tryd.zeroValue118
  t46 := Tryd.underlying110
  a46 := Tryd.isAgg110
  z46 := Tryd.sizeOf110
  v46 := Tryd.zeroValue110
  t49 := Tryd.underlying138
  a49 := Tryd.isAgg138
  z49 := Tryd.sizeOf138
  v49 := Tryd.zeroValue138
  t51 := Tryd.underlying130
  a51 := Tryd.isAgg130
  z51 := Tryd.sizeOf130
  v51 := Tryd.zeroValue130
  t119 := Tryd.underlying116
  a119 := Tryd.isAgg116
  z119 := Tryd.sizeOf116
  t141 := Tryd.underlying132
  a141 := Tryd.isAgg132
  z141 := Tryd.sizeOf132
  v141 := Tryd.zeroValue132
  t152 := Tryd.underlying127
  a152 := Tryd.isAgg127
  z152 := Tryd.sizeOf127
  v152 := Tryd.zeroValue127
  t154 := Tryd.underlying129
  a154 := Tryd.isAgg129
  z154 := Tryd.sizeOf129
  v154 := Tryd.zeroValue129
  t193 := Tryd.underlying134
  a193 := Tryd.isAgg134
  z193 := Tryd.sizeOf134
  v193 := Tryd.zeroValue134
  t194 := Tryd.underlying135
  a194 := Tryd.isAgg135
  z194 := Tryd.sizeOf135
  v194 := Tryd.zeroValue135
  t196 := Tryd.underlying137
  a196 := Tryd.isAgg137
  z196 := Tryd.sizeOf137
  v196 := Tryd.zeroValue137
  t198 := Tryd.underlying140
  a198 := Tryd.isAgg140
  z198 := Tryd.sizeOf140
  v198 := Tryd.zeroValue140
  t201 := Tryd.underlying143
  a201 := Tryd.isAgg143
  z201 := Tryd.sizeOf143
  v201 := Tryd.zeroValue143
  t226 := Tryd.underlying145
  a226 := Tryd.isAgg145
  z226 := Tryd.sizeOf145
  v226 := Tryd.zeroValue145
  t227 := Tryd.underlying146
  a227 := Tryd.isAgg146
  z227 := Tryd.sizeOf146
  v227 := Tryd.zeroValue146
  g0 := by kernel_rfl
  g6 := by kernel_rfl }
open Go.RowKit Go.Lib in
theorem Tryd.strings_Fields (s : ByteArray) (w : World) (hs : s.size < 4294967281) (hascii : ∀ (j : Nat) b, s.data.toList[j]? = some b → b.toNat < 128) (htab : Lib.TabIs Tryd.prog w "strings.asciiSpace" .u8 Lib.asciiSpaceTab) :
    Calls Tryd.prog 59 #[.string s] w fun e w' =>
      e = .returned (.slice (some ⟨w.heap.size, 0, none⟩) (Lib.fields s.data.toList).length (Lib.fields s.data.toList).length) ∧ w' = w.alloc (.cells ((Lib.fields s.data.toList).map fun l => Value.string ⟨l.toArray⟩).toArray 9) := Any.strings_Fields Tryd.lays157 (by kernel_rfl) (by kernel_rfl) s w hs hascii htab
end Go.Proofs.YtenbclcfhjdcaaaDoor.SH
end
section
set_option maxHeartbeats 8000000
set_option linter.unusedVariables false
set_option linter.unusedSimpArgs false

/- command.Word: a kind's word, by the kit's contract of strings.Fields at the constant of the words. -/
namespace Go.Proofs.YtenbclcfhjdcaaaDoor.TW
open Go Go.Proofs Go.RowKit Go.Shelf
attribute [local go_sem] Oper.semAt_some
/-- The words, apart. -/
def wordsL : List (List UInt8) := [[97, 100, 100], [100, 101, 108, 101, 116, 101], [115, 116, 101, 112], [115, 116, 97, 103, 101], [99, 111, 109, 109, 105, 116], [97, 98, 111, 114, 116], [99, 111, 117, 110, 116], [108, 111, 99, 97, 116, 101], [101, 120, 116, 114, 97, 99, 116], [108, 105, 115, 116], [115, 116, 97, 116]]
/-- The words in one. -/
def wordsB : ByteArray := ⟨(([97, 100, 100, 32, 100, 101, 108, 101, 116, 101, 32, 115, 116, 101, 112, 32, 115, 116, 97, 103, 101, 32, 99, 111, 109, 109, 105, 116, 32, 97, 98, 111] : List UInt8).append [114, 116, 32, 99, 111, 117, 110, 116, 32, 108, 111, 99, 97, 116, 101, 32, 101, 120, 116, 114, 97, 99, 116, 32, 108, 105, 115, 116, 32, 115, 116, 97, 116]).toArray⟩
theorem fields_words : Lib.fields wordsB.data.toList = wordsL := by decide +kernel
theorem ascii_words : ∀ (j : Nat) b, wordsB.data.toList[j]? = some b → b.toNat < 128 := by
  have h : (wordsB.data.toList.all fun b => decide (b.toNat < 128)) = true := by decide +kernel
  intro j b hb
  have := List.all_eq_true.1 h b (List.mem_of_getElem? hb)
  simpa using this
/-- A kind's word. -/
def wordOf (k : Int) : ByteArray := if 1 ≤ k ∧ k ≤ 11 then ⟨(wordsL.getD (k - 1).toNat []).toArray⟩ else ⟨#[]⟩
set_option maxRecDepth 100000 in
set_option maxHeartbeats 2000000 in
theorem word_calls (k : Int) (w : World) (hk : -9223372036854775808 ≤ k ∧ k ≤ 9223372036854775807) (hT : ∀ c : Nat, c < 256 → w.cell? ⟨1, c, none⟩ = some (.int .u8 (if Lib.isSp (UInt8.ofNat c) then 1 else 0))) :
    Calls Tryd.prog 39 #[.int .i64 k] w fun e w' => e = .returned (.string (wordOf k)) ∧ Below w.heap.size w w' := by
  have S := Any.strings_Fields_core SH.Tryd.lays157 (by kernel_rfl) wordsB w (by decide +kernel) ascii_words hT
  rw [fields_words] at S
  have hb : Below w.heap.size w (w.alloc (.cells (wordsL.map fun l => Value.string ⟨l.toArray⟩).toArray (SH.Tryd.lays157_ren.t 9))) := (Below.refl _ w).alloc (Nat.le_refl _) _
  have hc : 1 ≤ k → k ≤ 11 → (w.alloc (.cells (wordsL.map fun l => Value.string ⟨l.toArray⟩).toArray (SH.Tryd.lays157_ren.t 9))).cell? ⟨w.heap.size, 0 + (k - 1).toNat, none⟩ = some (.string (wordOf k)) := fun h1 h2 => by
    rw [World.cell?_alloc_new]
    unfold wordOf
    rw [if_pos ⟨h1, h2⟩]
    have hlt : (k - 1).toNat < wordsL.length := by have : wordsL.length = 11 := rfl; omega
    generalize (k - 1).toNat = j at hlt ⊢
    simp [List.getD, List.getElem?_eq_getElem hlt]
  have hn : ¬ (1 ≤ k ∧ k ≤ 11) → wordOf k = ⟨#[]⟩ := fun h => by unfold wordOf; rw [if_neg h]
  generalize w.alloc (.cells (wordsL.map fun l => Value.string ⟨l.toArray⟩).toArray (SH.Tryd.lays157_ren.t 9)) = W1 at S hb hc
  have S' : Calls Tryd.prog 59 #[.string wordsB] w fun e w' => e = .returned (.slice (some ⟨w.heap.size, 0, none⟩) 11 11) ∧ w' = W1 := S
  clear S hT
  by_cases h1 : 1 ≤ k
  · by_cases h2 : k ≤ 11
    · have hc1 := hc h1 h2
      rw [show 0 + (k - 1).toNat = k.toNat - 1 by omega] at hc1
      generalize wordOf k = s at hc1
      clear hc hn
      go_enter Tryd.func39, Tryd.ntmps39
      go_wp2_with (go_at_call 59; refine S'.mono ?_; rintro e w' ⟨rfl, rfl⟩)
      go_ret
      exact ⟨rfl, hb⟩
    · rw [hn (by omega)]
      clear hc hn
      go_enter Tryd.func39, Tryd.ntmps39
      go_wp2_with (go_at_call 59; refine S'.mono ?_; rintro e w' ⟨rfl, rfl⟩)
      go_ret
      exact ⟨rfl, hb⟩
  · rw [hn (by omega)]
    clear hc hn
    go_enter Tryd.func39, Tryd.ntmps39
    go_wp2_with (go_at_call 59; refine S'.mono ?_; rintro e w' ⟨rfl, rfl⟩)
    go_ret
    exact ⟨rfl, hb⟩
end Go.Proofs.YtenbclcfhjdcaaaDoor.TW
end
