/- What the proof of BatchCuts rests on, part 5 of 7. -/
import Derived.Test.YtldhfdagmaklaaaBatchCutsP4
import Derived.KernelRfl
import Derived.Test.YtldhfdagmaklaaaProg
section
set_option maxHeartbeats 8000000
set_option linter.unusedVariables false
set_option linter.unusedSimpArgs false
/- What is asked of the seat's types and functions. -/
namespace Go.Proofs.Ytldhfdagmaklaaa.AM
open Go Go.Proofs
attribute [simp] Instr.fill
@[simp] theorem sz2 : szOf Try.prog 2 = some 1 := by kernel_rfl
@[simp] theorem ag2 : aggOf Try.prog 2 = some false := by kernel_rfl
@[simp] theorem zv2 : zeroOf Try.prog 2 = some (.int .i64 0) := by kernel_rfl
@[simp low] theorem zn2 (n : Nat) : zerosOf Try.prog 2 n = some (List.replicate n [.int .i64 0]).flatten := by kernel_rfl
@[simp] theorem ze2 : zerosOf Try.prog 2 1 = some [.int .i64 0] := by kernel_rfl
@[simp] theorem by2 : byOf Try.prog 2 = some 8 := by kernel_rfl
attribute [simp] Try.underlying2
@[simp] theorem sz3 : szOf Try.prog 3 = some 1 := by kernel_rfl
@[simp] theorem ag3 : aggOf Try.prog 3 = some false := by kernel_rfl
@[simp] theorem zv3 : zeroOf Try.prog 3 = some (.int .i64 0) := by kernel_rfl
@[simp low] theorem zn3 (n : Nat) : zerosOf Try.prog 3 n = some (List.replicate n [.int .i64 0]).flatten := by kernel_rfl
@[simp] theorem ze3 : zerosOf Try.prog 3 1 = some [.int .i64 0] := by kernel_rfl
@[simp] theorem by3 : byOf Try.prog 3 = some 8 := by kernel_rfl
attribute [simp] Try.underlying3
@[simp] theorem sz4 : szOf Try.prog 4 = some 1 := by kernel_rfl
@[simp] theorem ag4 : aggOf Try.prog 4 = some false := by kernel_rfl
@[simp] theorem zv4 : zeroOf Try.prog 4 = some (.bool false) := by kernel_rfl
@[simp low] theorem zn4 (n : Nat) : zerosOf Try.prog 4 n = some (List.replicate n [.bool false]).flatten := by kernel_rfl
@[simp] theorem ze4 : zerosOf Try.prog 4 1 = some [.bool false] := by kernel_rfl
@[simp] theorem by4 : byOf Try.prog 4 = some 1 := by kernel_rfl
attribute [simp] Try.underlying4
@[simp] theorem sz5 : szOf Try.prog 5 = some 1 := by kernel_rfl
@[simp] theorem ag5 : aggOf Try.prog 5 = some false := by kernel_rfl
@[simp] theorem zv5 : zeroOf Try.prog 5 = some (.int .u8 0) := by kernel_rfl
@[simp low] theorem zn5 (n : Nat) : zerosOf Try.prog 5 n = some (List.replicate n [.int .u8 0]).flatten := by kernel_rfl
@[simp] theorem ze5 : zerosOf Try.prog 5 1 = some [.int .u8 0] := by kernel_rfl
@[simp] theorem by5 : byOf Try.prog 5 = some 1 := by kernel_rfl
attribute [simp] Try.underlying5
@[simp] theorem sz6 : szOf Try.prog 6 = some 1 := by kernel_rfl
@[simp] theorem ag6 : aggOf Try.prog 6 = some false := by kernel_rfl
@[simp] theorem zv6 : zeroOf Try.prog 6 = some (.int .u8 0) := by kernel_rfl
@[simp low] theorem zn6 (n : Nat) : zerosOf Try.prog 6 n = some (List.replicate n [.int .u8 0]).flatten := by kernel_rfl
@[simp] theorem ze6 : zerosOf Try.prog 6 1 = some [.int .u8 0] := by kernel_rfl
@[simp] theorem by6 : byOf Try.prog 6 = some 1 := by kernel_rfl
attribute [simp] Try.underlying6
@[simp] theorem sz7 : szOf Try.prog 7 = some 4 := by kernel_rfl
@[simp] theorem ag7 : aggOf Try.prog 7 = some true := by kernel_rfl
@[simp] theorem zv7 : zeroOf Try.prog 7 = some (.agg #[.int .i64 0, .int .i64 0, .bool false, .int .u8 0]) := by kernel_rfl
@[simp low] theorem zn7 (n : Nat) : zerosOf Try.prog 7 n = some (List.replicate n [.int .i64 0, .int .i64 0, .bool false, .int .u8 0]).flatten := by kernel_rfl
@[simp] theorem ze7 : zerosOf Try.prog 7 1 = some [.int .i64 0, .int .i64 0, .bool false, .int .u8 0] := by kernel_rfl
@[simp] theorem pl7 : placesOf Try.prog 7 = some [(0, 1), (1, 1), (2, 1), (3, 1)] := by kernel_rfl
@[simp] theorem bu7 (ps : Array (Nat × Value)) : buildV Try.prog 7 ps = if (ps.all fun (_, x) => !junkB x) = true then (Instr.fill (fun x => [(0, 1), (1, 1), (2, 1), (3, 1)].toArray[x]?) #[.int .i64 0, .int .i64 0, .bool false, .int .u8 0] ps.toList).map fun cs => .agg cs else none := buildV_struct zv7 (by kernel_rfl) pl7
@[simp] theorem by7 : byOf Try.prog 7 = some 24 := by kernel_rfl
@[simp] theorem fo7_0 : fieldOf Try.prog 7 0 = some (0, 2) := by kernel_rfl
@[simp] theorem fo7_1 : fieldOf Try.prog 7 1 = some (1, 3) := by kernel_rfl
@[simp] theorem fo7_2 : fieldOf Try.prog 7 2 = some (2, 4) := by kernel_rfl
@[simp] theorem fo7_3 : fieldOf Try.prog 7 3 = some (3, 6) := by kernel_rfl
attribute [simp] Try.underlying7
@[simp] theorem sz8 : szOf Try.prog 8 = some 4 := by kernel_rfl
@[simp] theorem ag8 : aggOf Try.prog 8 = some true := by kernel_rfl
@[simp] theorem zv8 : zeroOf Try.prog 8 = some (.agg #[.int .i64 0, .int .i64 0, .bool false, .int .u8 0]) := by kernel_rfl
@[simp low] theorem zn8 (n : Nat) : zerosOf Try.prog 8 n = some (List.replicate n [.int .i64 0, .int .i64 0, .bool false, .int .u8 0]).flatten := by kernel_rfl
@[simp] theorem ze8 : zerosOf Try.prog 8 1 = some [.int .i64 0, .int .i64 0, .bool false, .int .u8 0] := by kernel_rfl
@[simp] theorem pl8 : placesOf Try.prog 8 = some [(0, 1), (1, 1), (2, 1), (3, 1)] := by kernel_rfl
@[simp] theorem bu8 (ps : Array (Nat × Value)) : buildV Try.prog 8 ps = if (ps.all fun (_, x) => !junkB x) = true then (Instr.fill (fun x => [(0, 1), (1, 1), (2, 1), (3, 1)].toArray[x]?) #[.int .i64 0, .int .i64 0, .bool false, .int .u8 0] ps.toList).map fun cs => .agg cs else none := buildV_struct zv8 (by kernel_rfl) pl8
@[simp] theorem by8 : byOf Try.prog 8 = some 24 := by kernel_rfl
@[simp] theorem fo8_0 : fieldOf Try.prog 8 0 = some (0, 2) := by kernel_rfl
@[simp] theorem fo8_1 : fieldOf Try.prog 8 1 = some (1, 3) := by kernel_rfl
@[simp] theorem fo8_2 : fieldOf Try.prog 8 2 = some (2, 4) := by kernel_rfl
@[simp] theorem fo8_3 : fieldOf Try.prog 8 3 = some (3, 6) := by kernel_rfl
attribute [simp] Try.underlying8
@[simp] theorem sz9 : szOf Try.prog 9 = some 1 := by kernel_rfl
@[simp] theorem ag9 : aggOf Try.prog 9 = some false := by kernel_rfl
@[simp] theorem zv9 : zeroOf Try.prog 9 = some (.string ⟨#[]⟩) := by kernel_rfl
@[simp low] theorem zn9 (n : Nat) : zerosOf Try.prog 9 n = some (List.replicate n [.string ⟨#[]⟩]).flatten := by kernel_rfl
@[simp] theorem ze9 : zerosOf Try.prog 9 1 = some [.string ⟨#[]⟩] := by kernel_rfl
@[simp] theorem by9 : byOf Try.prog 9 = some 16 := by kernel_rfl
attribute [simp] Try.underlying9
@[simp] theorem sz10 : szOf Try.prog 10 = some 1 := by kernel_rfl
@[simp] theorem ag10 : aggOf Try.prog 10 = some false := by kernel_rfl
@[simp] theorem zv10 : zeroOf Try.prog 10 = some (.string ⟨#[]⟩) := by kernel_rfl
@[simp low] theorem zn10 (n : Nat) : zerosOf Try.prog 10 n = some (List.replicate n [.string ⟨#[]⟩]).flatten := by kernel_rfl
@[simp] theorem ze10 : zerosOf Try.prog 10 1 = some [.string ⟨#[]⟩] := by kernel_rfl
@[simp] theorem by10 : byOf Try.prog 10 = some 16 := by kernel_rfl
attribute [simp] Try.underlying10
@[simp] theorem sz11 : szOf Try.prog 11 = some 1 := by kernel_rfl
@[simp] theorem ag11 : aggOf Try.prog 11 = some false := by kernel_rfl
@[simp] theorem zv11 : zeroOf Try.prog 11 = some (.string ⟨#[]⟩) := by kernel_rfl
@[simp low] theorem zn11 (n : Nat) : zerosOf Try.prog 11 n = some (List.replicate n [.string ⟨#[]⟩]).flatten := by kernel_rfl
@[simp] theorem ze11 : zerosOf Try.prog 11 1 = some [.string ⟨#[]⟩] := by kernel_rfl
@[simp] theorem by11 : byOf Try.prog 11 = some 16 := by kernel_rfl
attribute [simp] Try.underlying11
@[simp] theorem sz12 : szOf Try.prog 12 = some 1 := by kernel_rfl
@[simp] theorem ag12 : aggOf Try.prog 12 = some false := by kernel_rfl
@[simp] theorem zv12 : zeroOf Try.prog 12 = some (.int .u64 0) := by kernel_rfl
@[simp low] theorem zn12 (n : Nat) : zerosOf Try.prog 12 n = some (List.replicate n [.int .u64 0]).flatten := by kernel_rfl
@[simp] theorem ze12 : zerosOf Try.prog 12 1 = some [.int .u64 0] := by kernel_rfl
@[simp] theorem by12 : byOf Try.prog 12 = some 8 := by kernel_rfl
attribute [simp] Try.underlying12
@[simp] theorem sz13 : szOf Try.prog 13 = some 2 := by kernel_rfl
@[simp] theorem ag13 : aggOf Try.prog 13 = some true := by kernel_rfl
@[simp] theorem zv13 : zeroOf Try.prog 13 = some (.agg #[.string ⟨#[]⟩, .int .u64 0]) := by kernel_rfl
@[simp low] theorem zn13 (n : Nat) : zerosOf Try.prog 13 n = some (List.replicate n [.string ⟨#[]⟩, .int .u64 0]).flatten := by kernel_rfl
@[simp] theorem ze13 : zerosOf Try.prog 13 1 = some [.string ⟨#[]⟩, .int .u64 0] := by kernel_rfl
@[simp] theorem pl13 : placesOf Try.prog 13 = some [(0, 1), (1, 1)] := by kernel_rfl
@[simp] theorem bu13 (ps : Array (Nat × Value)) : buildV Try.prog 13 ps = if (ps.all fun (_, x) => !junkB x) = true then (Instr.fill (fun x => [(0, 1), (1, 1)].toArray[x]?) #[.string ⟨#[]⟩, .int .u64 0] ps.toList).map fun cs => .agg cs else none := buildV_struct zv13 (by kernel_rfl) pl13
@[simp] theorem by13 : byOf Try.prog 13 = some 24 := by kernel_rfl
@[simp] theorem fo13_0 : fieldOf Try.prog 13 0 = some (0, 9) := by kernel_rfl
@[simp] theorem fo13_1 : fieldOf Try.prog 13 1 = some (1, 12) := by kernel_rfl
attribute [simp] Try.underlying13
@[simp] theorem sz14 : szOf Try.prog 14 = some 2 := by kernel_rfl
@[simp] theorem ag14 : aggOf Try.prog 14 = some true := by kernel_rfl
@[simp] theorem zv14 : zeroOf Try.prog 14 = some (.agg #[.string ⟨#[]⟩, .int .u64 0]) := by kernel_rfl
@[simp low] theorem zn14 (n : Nat) : zerosOf Try.prog 14 n = some (List.replicate n [.string ⟨#[]⟩, .int .u64 0]).flatten := by kernel_rfl
@[simp] theorem ze14 : zerosOf Try.prog 14 1 = some [.string ⟨#[]⟩, .int .u64 0] := by kernel_rfl
@[simp] theorem pl14 : placesOf Try.prog 14 = some [(0, 1), (1, 1)] := by kernel_rfl
@[simp] theorem bu14 (ps : Array (Nat × Value)) : buildV Try.prog 14 ps = if (ps.all fun (_, x) => !junkB x) = true then (Instr.fill (fun x => [(0, 1), (1, 1)].toArray[x]?) #[.string ⟨#[]⟩, .int .u64 0] ps.toList).map fun cs => .agg cs else none := buildV_struct zv14 (by kernel_rfl) pl14
@[simp] theorem by14 : byOf Try.prog 14 = some 24 := by kernel_rfl
@[simp] theorem fo14_0 : fieldOf Try.prog 14 0 = some (0, 9) := by kernel_rfl
@[simp] theorem fo14_1 : fieldOf Try.prog 14 1 = some (1, 12) := by kernel_rfl
attribute [simp] Try.underlying14
@[simp] theorem sz15 : szOf Try.prog 15 = some 1 := by kernel_rfl
@[simp] theorem ag15 : aggOf Try.prog 15 = some false := by kernel_rfl
@[simp] theorem zv15 : zeroOf Try.prog 15 = some (.pointer none) := by kernel_rfl
@[simp low] theorem zn15 (n : Nat) : zerosOf Try.prog 15 n = some (List.replicate n [.pointer none]).flatten := by kernel_rfl
@[simp] theorem ze15 : zerosOf Try.prog 15 1 = some [.pointer none] := by kernel_rfl
@[simp] theorem by15 : byOf Try.prog 15 = some 8 := by kernel_rfl
attribute [simp] Try.underlying15
@[simp] theorem sz16 : szOf Try.prog 16 = some 1 := by kernel_rfl
@[simp] theorem ag16 : aggOf Try.prog 16 = some false := by kernel_rfl
@[simp] theorem zv16 : zeroOf Try.prog 16 = some (.pointer none) := by kernel_rfl
@[simp low] theorem zn16 (n : Nat) : zerosOf Try.prog 16 n = some (List.replicate n [.pointer none]).flatten := by kernel_rfl
@[simp] theorem ze16 : zerosOf Try.prog 16 1 = some [.pointer none] := by kernel_rfl
@[simp] theorem by16 : byOf Try.prog 16 = some 8 := by kernel_rfl
attribute [simp] Try.underlying16
@[simp] theorem sz17 : szOf Try.prog 17 = some 1 := by kernel_rfl
@[simp] theorem ag17 : aggOf Try.prog 17 = some false := by kernel_rfl
@[simp] theorem zv17 : zeroOf Try.prog 17 = some (.pointer none) := by kernel_rfl
@[simp low] theorem zn17 (n : Nat) : zerosOf Try.prog 17 n = some (List.replicate n [.pointer none]).flatten := by kernel_rfl
@[simp] theorem ze17 : zerosOf Try.prog 17 1 = some [.pointer none] := by kernel_rfl
@[simp] theorem by17 : byOf Try.prog 17 = some 8 := by kernel_rfl
attribute [simp] Try.underlying17
@[simp] theorem sz18 : szOf Try.prog 18 = some 1 := by kernel_rfl
@[simp] theorem ag18 : aggOf Try.prog 18 = some true := by kernel_rfl
@[simp] theorem zv18 : zeroOf Try.prog 18 = some (.agg #[.pointer none]) := by kernel_rfl
@[simp low] theorem zn18 (n : Nat) : zerosOf Try.prog 18 n = some (List.replicate n [.pointer none]).flatten := by kernel_rfl
@[simp] theorem ze18 : zerosOf Try.prog 18 1 = some [.pointer none] := by kernel_rfl
@[simp] theorem pl18 : placesOf Try.prog 18 = some [(0, 1)] := by kernel_rfl
@[simp] theorem bu18 (ps : Array (Nat × Value)) : buildV Try.prog 18 ps = if (ps.all fun (_, x) => !junkB x) = true then (Instr.fill (fun x => [(0, 1)].toArray[x]?) #[.pointer none] ps.toList).map fun cs => .agg cs else none := buildV_struct zv18 (by kernel_rfl) pl18
@[simp] theorem by18 : byOf Try.prog 18 = some 8 := by kernel_rfl
@[simp] theorem fo18_0 : fieldOf Try.prog 18 0 = some (0, 17) := by kernel_rfl
attribute [simp] Try.underlying18
@[simp] theorem sz19 : szOf Try.prog 19 = some 1 := by kernel_rfl
@[simp] theorem ag19 : aggOf Try.prog 19 = some true := by kernel_rfl
@[simp] theorem zv19 : zeroOf Try.prog 19 = some (.agg #[.pointer none]) := by kernel_rfl
@[simp low] theorem zn19 (n : Nat) : zerosOf Try.prog 19 n = some (List.replicate n [.pointer none]).flatten := by kernel_rfl
@[simp] theorem ze19 : zerosOf Try.prog 19 1 = some [.pointer none] := by kernel_rfl
@[simp] theorem pl19 : placesOf Try.prog 19 = some [(0, 1)] := by kernel_rfl
@[simp] theorem bu19 (ps : Array (Nat × Value)) : buildV Try.prog 19 ps = if (ps.all fun (_, x) => !junkB x) = true then (Instr.fill (fun x => [(0, 1)].toArray[x]?) #[.pointer none] ps.toList).map fun cs => .agg cs else none := buildV_struct zv19 (by kernel_rfl) pl19
@[simp] theorem by19 : byOf Try.prog 19 = some 8 := by kernel_rfl
@[simp] theorem fo19_0 : fieldOf Try.prog 19 0 = some (0, 17) := by kernel_rfl
attribute [simp] Try.underlying19
@[simp] theorem sz21 : szOf Try.prog 21 = some 1 := by kernel_rfl
@[simp] theorem ag21 : aggOf Try.prog 21 = some false := by kernel_rfl
@[simp] theorem zv21 : zeroOf Try.prog 21 = some (.int .i32 0) := by kernel_rfl
@[simp low] theorem zn21 (n : Nat) : zerosOf Try.prog 21 n = some (List.replicate n [.int .i32 0]).flatten := by kernel_rfl
@[simp] theorem ze21 : zerosOf Try.prog 21 1 = some [.int .i32 0] := by kernel_rfl
@[simp] theorem by21 : byOf Try.prog 21 = some 4 := by kernel_rfl
attribute [simp] Try.underlying21
@[simp] theorem sz22 : szOf Try.prog 22 = some 1 := by kernel_rfl
@[simp] theorem ag22 : aggOf Try.prog 22 = some false := by kernel_rfl
@[simp] theorem zv22 : zeroOf Try.prog 22 = some (.slice none 0 0) := by kernel_rfl
@[simp low] theorem zn22 (n : Nat) : zerosOf Try.prog 22 n = some (List.replicate n [.slice none 0 0]).flatten := by kernel_rfl
@[simp] theorem ze22 : zerosOf Try.prog 22 1 = some [.slice none 0 0] := by kernel_rfl
@[simp] theorem by22 : byOf Try.prog 22 = some 24 := by kernel_rfl
attribute [simp] Try.underlying22
@[simp] theorem sz25 : szOf Try.prog 25 = some 1 := by kernel_rfl
@[simp] theorem ag25 : aggOf Try.prog 25 = some false := by kernel_rfl
@[simp] theorem zv25 : zeroOf Try.prog 25 = some (.pointer none) := by kernel_rfl
@[simp low] theorem zn25 (n : Nat) : zerosOf Try.prog 25 n = some (List.replicate n [.pointer none]).flatten := by kernel_rfl
@[simp] theorem ze25 : zerosOf Try.prog 25 1 = some [.pointer none] := by kernel_rfl
@[simp] theorem by25 : byOf Try.prog 25 = some 8 := by kernel_rfl
attribute [simp] Try.underlying25
@[simp] theorem sz26 : szOf Try.prog 26 = some 1 := by kernel_rfl
@[simp] theorem ag26 : aggOf Try.prog 26 = some false := by kernel_rfl
@[simp] theorem zv26 : zeroOf Try.prog 26 = some (.int .i64 0) := by kernel_rfl
@[simp low] theorem zn26 (n : Nat) : zerosOf Try.prog 26 n = some (List.replicate n [.int .i64 0]).flatten := by kernel_rfl
@[simp] theorem ze26 : zerosOf Try.prog 26 1 = some [.int .i64 0] := by kernel_rfl
@[simp] theorem by26 : byOf Try.prog 26 = some 8 := by kernel_rfl
attribute [simp] Try.underlying26
@[simp] theorem sz34 : szOf Try.prog 34 = some 1 := by kernel_rfl
@[simp] theorem ag34 : aggOf Try.prog 34 = some false := by kernel_rfl
@[simp] theorem zv34 : zeroOf Try.prog 34 = some (.slice none 0 0) := by kernel_rfl
@[simp low] theorem zn34 (n : Nat) : zerosOf Try.prog 34 n = some (List.replicate n [.slice none 0 0]).flatten := by kernel_rfl
@[simp] theorem ze34 : zerosOf Try.prog 34 1 = some [.slice none 0 0] := by kernel_rfl
@[simp] theorem by34 : byOf Try.prog 34 = some 24 := by kernel_rfl
attribute [simp] Try.underlying34
@[simp] theorem sz35 : szOf Try.prog 35 = some 1 := by kernel_rfl
@[simp] theorem ag35 : aggOf Try.prog 35 = some false := by kernel_rfl
@[simp] theorem zv35 : zeroOf Try.prog 35 = some (.slice none 0 0) := by kernel_rfl
@[simp low] theorem zn35 (n : Nat) : zerosOf Try.prog 35 n = some (List.replicate n [.slice none 0 0]).flatten := by kernel_rfl
@[simp] theorem ze35 : zerosOf Try.prog 35 1 = some [.slice none 0 0] := by kernel_rfl
@[simp] theorem by35 : byOf Try.prog 35 = some 24 := by kernel_rfl
attribute [simp] Try.underlying35
@[simp] theorem sz36 : szOf Try.prog 36 = some 1 := by kernel_rfl
@[simp] theorem ag36 : aggOf Try.prog 36 = some false := by kernel_rfl
@[simp] theorem zv36 : zeroOf Try.prog 36 = some (.pointer none) := by kernel_rfl
@[simp low] theorem zn36 (n : Nat) : zerosOf Try.prog 36 n = some (List.replicate n [.pointer none]).flatten := by kernel_rfl
@[simp] theorem ze36 : zerosOf Try.prog 36 1 = some [.pointer none] := by kernel_rfl
@[simp] theorem by36 : byOf Try.prog 36 = some 8 := by kernel_rfl
attribute [simp] Try.underlying36
@[simp] theorem sz39 : szOf Try.prog 39 = some 1 := by kernel_rfl
@[simp] theorem ag39 : aggOf Try.prog 39 = some false := by kernel_rfl
@[simp] theorem zv39 : zeroOf Try.prog 39 = some (.pointer none) := by kernel_rfl
@[simp low] theorem zn39 (n : Nat) : zerosOf Try.prog 39 n = some (List.replicate n [.pointer none]).flatten := by kernel_rfl
@[simp] theorem ze39 : zerosOf Try.prog 39 1 = some [.pointer none] := by kernel_rfl
@[simp] theorem by39 : byOf Try.prog 39 = some 8 := by kernel_rfl
attribute [simp] Try.underlying39
@[simp] theorem sz42 : szOf Try.prog 42 = some 1 := by kernel_rfl
@[simp] theorem ag42 : aggOf Try.prog 42 = some false := by kernel_rfl
@[simp] theorem zv42 : zeroOf Try.prog 42 = some (.slice none 0 0) := by kernel_rfl
@[simp low] theorem zn42 (n : Nat) : zerosOf Try.prog 42 n = some (List.replicate n [.slice none 0 0]).flatten := by kernel_rfl
@[simp] theorem ze42 : zerosOf Try.prog 42 1 = some [.slice none 0 0] := by kernel_rfl
@[simp] theorem by42 : byOf Try.prog 42 = some 24 := by kernel_rfl
attribute [simp] Try.underlying42
@[simp] theorem sz43 : szOf Try.prog 43 = some 1 := by kernel_rfl
@[simp] theorem ag43 : aggOf Try.prog 43 = some false := by kernel_rfl
@[simp] theorem zv43 : zeroOf Try.prog 43 = some (.slice none 0 0) := by kernel_rfl
@[simp low] theorem zn43 (n : Nat) : zerosOf Try.prog 43 n = some (List.replicate n [.slice none 0 0]).flatten := by kernel_rfl
@[simp] theorem ze43 : zerosOf Try.prog 43 1 = some [.slice none 0 0] := by kernel_rfl
@[simp] theorem by43 : byOf Try.prog 43 = some 24 := by kernel_rfl
attribute [simp] Try.underlying43
@[simp] theorem sz48 : szOf Try.prog 48 = some 1 := by kernel_rfl
@[simp] theorem ag48 : aggOf Try.prog 48 = some false := by kernel_rfl
@[simp] theorem zv48 : zeroOf Try.prog 48 = some (.slice none 0 0) := by kernel_rfl
@[simp low] theorem zn48 (n : Nat) : zerosOf Try.prog 48 n = some (List.replicate n [.slice none 0 0]).flatten := by kernel_rfl
@[simp] theorem ze48 : zerosOf Try.prog 48 1 = some [.slice none 0 0] := by kernel_rfl
@[simp] theorem by48 : byOf Try.prog 48 = some 24 := by kernel_rfl
attribute [simp] Try.underlying48
@[simp] theorem sz49 : szOf Try.prog 49 = some 3 := by kernel_rfl
@[simp] theorem ag49 : aggOf Try.prog 49 = some true := by kernel_rfl
@[simp] theorem zv49 : zeroOf Try.prog 49 = some (.agg #[.bool false, .int .i64 0, .slice none 0 0]) := by kernel_rfl
@[simp low] theorem zn49 (n : Nat) : zerosOf Try.prog 49 n = some (List.replicate n [.bool false, .int .i64 0, .slice none 0 0]).flatten := by kernel_rfl
@[simp] theorem ze49 : zerosOf Try.prog 49 1 = some [.bool false, .int .i64 0, .slice none 0 0] := by kernel_rfl
@[simp] theorem pl49 : placesOf Try.prog 49 = some [(0, 1), (1, 1), (2, 1)] := by kernel_rfl
@[simp] theorem bu49 (ps : Array (Nat × Value)) : buildV Try.prog 49 ps = if (ps.all fun (_, x) => !junkB x) = true then (Instr.fill (fun x => [(0, 1), (1, 1), (2, 1)].toArray[x]?) #[.bool false, .int .i64 0, .slice none 0 0] ps.toList).map fun cs => .agg cs else none := buildV_struct zv49 (by kernel_rfl) pl49
@[simp] theorem by49 : byOf Try.prog 49 = some 40 := by kernel_rfl
@[simp] theorem fo49_0 : fieldOf Try.prog 49 0 = some (0, 4) := by kernel_rfl
@[simp] theorem fo49_1 : fieldOf Try.prog 49 1 = some (1, 3) := by kernel_rfl
@[simp] theorem fo49_2 : fieldOf Try.prog 49 2 = some (2, 48) := by kernel_rfl
attribute [simp] Try.underlying49
@[simp] theorem sz50 : szOf Try.prog 50 = some 3 := by kernel_rfl
@[simp] theorem ag50 : aggOf Try.prog 50 = some true := by kernel_rfl
@[simp] theorem zv50 : zeroOf Try.prog 50 = some (.agg #[.bool false, .int .i64 0, .slice none 0 0]) := by kernel_rfl
@[simp low] theorem zn50 (n : Nat) : zerosOf Try.prog 50 n = some (List.replicate n [.bool false, .int .i64 0, .slice none 0 0]).flatten := by kernel_rfl
@[simp] theorem ze50 : zerosOf Try.prog 50 1 = some [.bool false, .int .i64 0, .slice none 0 0] := by kernel_rfl
@[simp] theorem pl50 : placesOf Try.prog 50 = some [(0, 1), (1, 1), (2, 1)] := by kernel_rfl
@[simp] theorem bu50 (ps : Array (Nat × Value)) : buildV Try.prog 50 ps = if (ps.all fun (_, x) => !junkB x) = true then (Instr.fill (fun x => [(0, 1), (1, 1), (2, 1)].toArray[x]?) #[.bool false, .int .i64 0, .slice none 0 0] ps.toList).map fun cs => .agg cs else none := buildV_struct zv50 (by kernel_rfl) pl50
@[simp] theorem by50 : byOf Try.prog 50 = some 40 := by kernel_rfl
@[simp] theorem fo50_0 : fieldOf Try.prog 50 0 = some (0, 4) := by kernel_rfl
@[simp] theorem fo50_1 : fieldOf Try.prog 50 1 = some (1, 3) := by kernel_rfl
@[simp] theorem fo50_2 : fieldOf Try.prog 50 2 = some (2, 48) := by kernel_rfl
attribute [simp] Try.underlying50
@[simp] theorem sz62 : szOf Try.prog 62 = some 3 := by kernel_rfl
@[simp] theorem ag62 : aggOf Try.prog 62 = some true := by kernel_rfl
@[simp] theorem zv62 : zeroOf Try.prog 62 = some (.agg #[.bool false, .int .i64 0, .slice none 0 0]) := by kernel_rfl
@[simp low] theorem zn62 (n : Nat) : zerosOf Try.prog 62 n = some (List.replicate n [.bool false, .int .i64 0, .slice none 0 0]).flatten := by kernel_rfl
@[simp] theorem ze62 : zerosOf Try.prog 62 1 = some [.bool false, .int .i64 0, .slice none 0 0] := by kernel_rfl
@[simp] theorem pl62 : placesOf Try.prog 62 = some [(0, 1), (1, 1), (2, 1)] := by kernel_rfl
@[simp] theorem bu62 (ps : Array (Nat × Value)) : buildV Try.prog 62 ps = if (ps.all fun (_, x) => !junkB x) = true then (Instr.fill (fun x => [(0, 1), (1, 1), (2, 1)].toArray[x]?) #[.bool false, .int .i64 0, .slice none 0 0] ps.toList).map fun cs => .agg cs else none := buildV_struct zv62 (by kernel_rfl) pl62
@[simp] theorem by62 : byOf Try.prog 62 = some 40 := by kernel_rfl
@[simp] theorem fo62_0 : fieldOf Try.prog 62 0 = some (0, 4) := by kernel_rfl
@[simp] theorem fo62_1 : fieldOf Try.prog 62 1 = some (1, 3) := by kernel_rfl
@[simp] theorem fo62_2 : fieldOf Try.prog 62 2 = some (2, 48) := by kernel_rfl
attribute [simp] Try.underlying62
@[simp] theorem sz65 : szOf Try.prog 65 = some 1 := by kernel_rfl
@[simp] theorem ag65 : aggOf Try.prog 65 = some false := by kernel_rfl
@[simp] theorem zv65 : zeroOf Try.prog 65 = some (.int .u64 0) := by kernel_rfl
@[simp low] theorem zn65 (n : Nat) : zerosOf Try.prog 65 n = some (List.replicate n [.int .u64 0]).flatten := by kernel_rfl
@[simp] theorem ze65 : zerosOf Try.prog 65 1 = some [.int .u64 0] := by kernel_rfl
@[simp] theorem by65 : byOf Try.prog 65 = some 8 := by kernel_rfl
attribute [simp] Try.underlying65
@[simp] theorem sz70 : szOf Try.prog 70 = some 1 := by kernel_rfl
@[simp] theorem ag70 : aggOf Try.prog 70 = some false := by kernel_rfl
@[simp] theorem zv70 : zeroOf Try.prog 70 = some (.pointer none) := by kernel_rfl
@[simp low] theorem zn70 (n : Nat) : zerosOf Try.prog 70 n = some (List.replicate n [.pointer none]).flatten := by kernel_rfl
@[simp] theorem ze70 : zerosOf Try.prog 70 1 = some [.pointer none] := by kernel_rfl
@[simp] theorem by70 : byOf Try.prog 70 = some 8 := by kernel_rfl
attribute [simp] Try.underlying70
@[simp] theorem sz73 : szOf Try.prog 73 = some 1 := by kernel_rfl
@[simp] theorem ag73 : aggOf Try.prog 73 = some false := by kernel_rfl
@[simp] theorem zv73 : zeroOf Try.prog 73 = some (.pointer none) := by kernel_rfl
@[simp low] theorem zn73 (n : Nat) : zerosOf Try.prog 73 n = some (List.replicate n [.pointer none]).flatten := by kernel_rfl
@[simp] theorem ze73 : zerosOf Try.prog 73 1 = some [.pointer none] := by kernel_rfl
@[simp] theorem by73 : byOf Try.prog 73 = some 8 := by kernel_rfl
attribute [simp] Try.underlying73
@[simp] theorem sz76 : szOf Try.prog 76 = some 4 := by kernel_rfl
@[simp] theorem ag76 : aggOf Try.prog 76 = some true := by kernel_rfl
@[simp] theorem zv76 : zeroOf Try.prog 76 = some (.agg #[.int .i64 0, .pointer none, .pointer none, .pointer none]) := by kernel_rfl
@[simp low] theorem zn76 (n : Nat) : zerosOf Try.prog 76 n = some (List.replicate n [.int .i64 0, .pointer none, .pointer none, .pointer none]).flatten := by kernel_rfl
@[simp] theorem ze76 : zerosOf Try.prog 76 1 = some [.int .i64 0, .pointer none, .pointer none, .pointer none] := by kernel_rfl
@[simp] theorem pl76 : placesOf Try.prog 76 = some [(0, 1), (1, 1), (2, 1), (3, 1)] := by kernel_rfl
@[simp] theorem bu76 (ps : Array (Nat × Value)) : buildV Try.prog 76 ps = if (ps.all fun (_, x) => !junkB x) = true then (Instr.fill (fun x => [(0, 1), (1, 1), (2, 1), (3, 1)].toArray[x]?) #[.int .i64 0, .pointer none, .pointer none, .pointer none] ps.toList).map fun cs => .agg cs else none := buildV_struct zv76 (by kernel_rfl) pl76
@[simp] theorem by76 : byOf Try.prog 76 = some 32 := by kernel_rfl
@[simp] theorem fo76_0 : fieldOf Try.prog 76 0 = some (0, 3) := by kernel_rfl
@[simp] theorem fo76_1 : fieldOf Try.prog 76 1 = some (1, 70) := by kernel_rfl
@[simp] theorem fo76_2 : fieldOf Try.prog 76 2 = some (2, 73) := by kernel_rfl
@[simp] theorem fo76_3 : fieldOf Try.prog 76 3 = some (3, 73) := by kernel_rfl
attribute [simp] Try.underlying76
@[simp] theorem sz77 : szOf Try.prog 77 = some 4 := by kernel_rfl
@[simp] theorem ag77 : aggOf Try.prog 77 = some true := by kernel_rfl
@[simp] theorem zv77 : zeroOf Try.prog 77 = some (.agg #[.int .i64 0, .pointer none, .pointer none, .pointer none]) := by kernel_rfl
@[simp low] theorem zn77 (n : Nat) : zerosOf Try.prog 77 n = some (List.replicate n [.int .i64 0, .pointer none, .pointer none, .pointer none]).flatten := by kernel_rfl
@[simp] theorem ze77 : zerosOf Try.prog 77 1 = some [.int .i64 0, .pointer none, .pointer none, .pointer none] := by kernel_rfl
@[simp] theorem pl77 : placesOf Try.prog 77 = some [(0, 1), (1, 1), (2, 1), (3, 1)] := by kernel_rfl
@[simp] theorem bu77 (ps : Array (Nat × Value)) : buildV Try.prog 77 ps = if (ps.all fun (_, x) => !junkB x) = true then (Instr.fill (fun x => [(0, 1), (1, 1), (2, 1), (3, 1)].toArray[x]?) #[.int .i64 0, .pointer none, .pointer none, .pointer none] ps.toList).map fun cs => .agg cs else none := buildV_struct zv77 (by kernel_rfl) pl77
@[simp] theorem by77 : byOf Try.prog 77 = some 32 := by kernel_rfl
@[simp] theorem fo77_0 : fieldOf Try.prog 77 0 = some (0, 3) := by kernel_rfl
@[simp] theorem fo77_1 : fieldOf Try.prog 77 1 = some (1, 70) := by kernel_rfl
@[simp] theorem fo77_2 : fieldOf Try.prog 77 2 = some (2, 73) := by kernel_rfl
@[simp] theorem fo77_3 : fieldOf Try.prog 77 3 = some (3, 73) := by kernel_rfl
attribute [simp] Try.underlying77
@[simp] theorem sz85 : szOf Try.prog 85 = some 1 := by kernel_rfl
@[simp] theorem ag85 : aggOf Try.prog 85 = some false := by kernel_rfl
@[simp] theorem zv85 : zeroOf Try.prog 85 = some (.slice none 0 0) := by kernel_rfl
@[simp low] theorem zn85 (n : Nat) : zerosOf Try.prog 85 n = some (List.replicate n [.slice none 0 0]).flatten := by kernel_rfl
@[simp] theorem ze85 : zerosOf Try.prog 85 1 = some [.slice none 0 0] := by kernel_rfl
@[simp] theorem by85 : byOf Try.prog 85 = some 24 := by kernel_rfl
attribute [simp] Try.underlying85
@[simp] theorem sz89 : szOf Try.prog 89 = some 2 := by kernel_rfl
@[simp] theorem ag89 : aggOf Try.prog 89 = some true := by kernel_rfl
@[simp] theorem zv89 : zeroOf Try.prog 89 = some (.agg #[.int .i64 0, .slice none 0 0]) := by kernel_rfl
@[simp low] theorem zn89 (n : Nat) : zerosOf Try.prog 89 n = some (List.replicate n [.int .i64 0, .slice none 0 0]).flatten := by kernel_rfl
@[simp] theorem ze89 : zerosOf Try.prog 89 1 = some [.int .i64 0, .slice none 0 0] := by kernel_rfl
@[simp] theorem pl89 : placesOf Try.prog 89 = some [(0, 1), (1, 1)] := by kernel_rfl
@[simp] theorem bu89 (ps : Array (Nat × Value)) : buildV Try.prog 89 ps = if (ps.all fun (_, x) => !junkB x) = true then (Instr.fill (fun x => [(0, 1), (1, 1)].toArray[x]?) #[.int .i64 0, .slice none 0 0] ps.toList).map fun cs => .agg cs else none := buildV_struct zv89 (by kernel_rfl) pl89
@[simp] theorem by89 : byOf Try.prog 89 = some 32 := by kernel_rfl
@[simp] theorem fo89_0 : fieldOf Try.prog 89 0 = some (0, 3) := by kernel_rfl
@[simp] theorem fo89_1 : fieldOf Try.prog 89 1 = some (1, 48) := by kernel_rfl
attribute [simp] Try.underlying89
@[simp] theorem sz90 : szOf Try.prog 90 = some 2 := by kernel_rfl
@[simp] theorem ag90 : aggOf Try.prog 90 = some true := by kernel_rfl
@[simp] theorem zv90 : zeroOf Try.prog 90 = some (.agg #[.int .i64 0, .slice none 0 0]) := by kernel_rfl
@[simp low] theorem zn90 (n : Nat) : zerosOf Try.prog 90 n = some (List.replicate n [.int .i64 0, .slice none 0 0]).flatten := by kernel_rfl
@[simp] theorem ze90 : zerosOf Try.prog 90 1 = some [.int .i64 0, .slice none 0 0] := by kernel_rfl
@[simp] theorem pl90 : placesOf Try.prog 90 = some [(0, 1), (1, 1)] := by kernel_rfl
@[simp] theorem bu90 (ps : Array (Nat × Value)) : buildV Try.prog 90 ps = if (ps.all fun (_, x) => !junkB x) = true then (Instr.fill (fun x => [(0, 1), (1, 1)].toArray[x]?) #[.int .i64 0, .slice none 0 0] ps.toList).map fun cs => .agg cs else none := buildV_struct zv90 (by kernel_rfl) pl90
@[simp] theorem by90 : byOf Try.prog 90 = some 32 := by kernel_rfl
@[simp] theorem fo90_0 : fieldOf Try.prog 90 0 = some (0, 3) := by kernel_rfl
@[simp] theorem fo90_1 : fieldOf Try.prog 90 1 = some (1, 48) := by kernel_rfl
attribute [simp] Try.underlying90
@[simp] theorem sz91 : szOf Try.prog 91 = some 3 := by kernel_rfl
@[simp] theorem ag91 : aggOf Try.prog 91 = some true := by kernel_rfl
@[simp] theorem zv91 : zeroOf Try.prog 91 = some (.agg #[.pointer none, .pointer none, .slice none 0 0]) := by kernel_rfl
@[simp low] theorem zn91 (n : Nat) : zerosOf Try.prog 91 n = some (List.replicate n [.pointer none, .pointer none, .slice none 0 0]).flatten := by kernel_rfl
@[simp] theorem ze91 : zerosOf Try.prog 91 1 = some [.pointer none, .pointer none, .slice none 0 0] := by kernel_rfl
@[simp] theorem pl91 : placesOf Try.prog 91 = some [(0, 1), (1, 1), (2, 1)] := by kernel_rfl
@[simp] theorem bu91 (ps : Array (Nat × Value)) : buildV Try.prog 91 ps = if (ps.all fun (_, x) => !junkB x) = true then (Instr.fill (fun x => [(0, 1), (1, 1), (2, 1)].toArray[x]?) #[.pointer none, .pointer none, .slice none 0 0] ps.toList).map fun cs => .agg cs else none := buildV_struct zv91 (by kernel_rfl) pl91
@[simp] theorem by91 : byOf Try.prog 91 = some 40 := by kernel_rfl
@[simp] theorem fo91_0 : fieldOf Try.prog 91 0 = some (0, 36) := by kernel_rfl
@[simp] theorem fo91_1 : fieldOf Try.prog 91 1 = some (1, 36) := by kernel_rfl
@[simp] theorem fo91_2 : fieldOf Try.prog 91 2 = some (2, 43) := by kernel_rfl
attribute [simp] Try.underlying91
@[simp] theorem sz92 : szOf Try.prog 92 = some 3 := by kernel_rfl
@[simp] theorem ag92 : aggOf Try.prog 92 = some true := by kernel_rfl
@[simp] theorem zv92 : zeroOf Try.prog 92 = some (.agg #[.pointer none, .pointer none, .slice none 0 0]) := by kernel_rfl
@[simp low] theorem zn92 (n : Nat) : zerosOf Try.prog 92 n = some (List.replicate n [.pointer none, .pointer none, .slice none 0 0]).flatten := by kernel_rfl
@[simp] theorem ze92 : zerosOf Try.prog 92 1 = some [.pointer none, .pointer none, .slice none 0 0] := by kernel_rfl
@[simp] theorem pl92 : placesOf Try.prog 92 = some [(0, 1), (1, 1), (2, 1)] := by kernel_rfl
@[simp] theorem bu92 (ps : Array (Nat × Value)) : buildV Try.prog 92 ps = if (ps.all fun (_, x) => !junkB x) = true then (Instr.fill (fun x => [(0, 1), (1, 1), (2, 1)].toArray[x]?) #[.pointer none, .pointer none, .slice none 0 0] ps.toList).map fun cs => .agg cs else none := buildV_struct zv92 (by kernel_rfl) pl92
@[simp] theorem by92 : byOf Try.prog 92 = some 40 := by kernel_rfl
@[simp] theorem fo92_0 : fieldOf Try.prog 92 0 = some (0, 36) := by kernel_rfl
@[simp] theorem fo92_1 : fieldOf Try.prog 92 1 = some (1, 36) := by kernel_rfl
@[simp] theorem fo92_2 : fieldOf Try.prog 92 2 = some (2, 43) := by kernel_rfl
attribute [simp] Try.underlying92
@[simp] theorem sz119 : szOf Try.prog 119 = some 1 := by kernel_rfl
@[simp] theorem ag119 : aggOf Try.prog 119 = some false := by kernel_rfl
@[simp] theorem zv119 : zeroOf Try.prog 119 = some (.slice none 0 0) := by kernel_rfl
@[simp low] theorem zn119 (n : Nat) : zerosOf Try.prog 119 n = some (List.replicate n [.slice none 0 0]).flatten := by kernel_rfl
@[simp] theorem ze119 : zerosOf Try.prog 119 1 = some [.slice none 0 0] := by kernel_rfl
@[simp] theorem by119 : byOf Try.prog 119 = some 24 := by kernel_rfl
attribute [simp] Try.underlying119
@[simp] theorem sz125 : szOf Try.prog 125 = some 1 := by kernel_rfl
@[simp] theorem ag125 : aggOf Try.prog 125 = some false := by kernel_rfl
@[simp] theorem zv125 : zeroOf Try.prog 125 = some (.slice none 0 0) := by kernel_rfl
@[simp low] theorem zn125 (n : Nat) : zerosOf Try.prog 125 n = some (List.replicate n [.slice none 0 0]).flatten := by kernel_rfl
@[simp] theorem ze125 : zerosOf Try.prog 125 1 = some [.slice none 0 0] := by kernel_rfl
@[simp] theorem by125 : byOf Try.prog 125 = some 24 := by kernel_rfl
attribute [simp] Try.underlying125
@[simp] theorem sz126 : szOf Try.prog 126 = some 1 := by kernel_rfl
@[simp] theorem ag126 : aggOf Try.prog 126 = some true := by kernel_rfl
@[simp] theorem zv126 : zeroOf Try.prog 126 = some (.agg #[.slice none 0 0]) := by kernel_rfl
@[simp low] theorem zn126 (n : Nat) : zerosOf Try.prog 126 n = some (List.replicate n [.slice none 0 0]).flatten := by kernel_rfl
@[simp] theorem ze126 : zerosOf Try.prog 126 1 = some [.slice none 0 0] := by kernel_rfl
@[simp] theorem pl126 : placesOf Try.prog 126 = some [(0, 1)] := by kernel_rfl
@[simp] theorem bu126 (ps : Array (Nat × Value)) : buildV Try.prog 126 ps = if (ps.all fun (_, x) => !junkB x) = true then (Instr.fill (fun x => [(0, 1)].toArray[x]?) #[.slice none 0 0] ps.toList).map fun cs => .agg cs else none := buildV_struct zv126 (by kernel_rfl) pl126
@[simp] theorem by126 : byOf Try.prog 126 = some 24 := by kernel_rfl
@[simp] theorem fo126_0 : fieldOf Try.prog 126 0 = some (0, 125) := by kernel_rfl
attribute [simp] Try.underlying126
@[simp] theorem sz127 : szOf Try.prog 127 = some 1 := by kernel_rfl
@[simp] theorem ag127 : aggOf Try.prog 127 = some true := by kernel_rfl
@[simp] theorem zv127 : zeroOf Try.prog 127 = some (.agg #[.slice none 0 0]) := by kernel_rfl
@[simp low] theorem zn127 (n : Nat) : zerosOf Try.prog 127 n = some (List.replicate n [.slice none 0 0]).flatten := by kernel_rfl
@[simp] theorem ze127 : zerosOf Try.prog 127 1 = some [.slice none 0 0] := by kernel_rfl
@[simp] theorem pl127 : placesOf Try.prog 127 = some [(0, 1)] := by kernel_rfl
@[simp] theorem bu127 (ps : Array (Nat × Value)) : buildV Try.prog 127 ps = if (ps.all fun (_, x) => !junkB x) = true then (Instr.fill (fun x => [(0, 1)].toArray[x]?) #[.slice none 0 0] ps.toList).map fun cs => .agg cs else none := buildV_struct zv127 (by kernel_rfl) pl127
@[simp] theorem by127 : byOf Try.prog 127 = some 24 := by kernel_rfl
@[simp] theorem fo127_0 : fieldOf Try.prog 127 0 = some (0, 125) := by kernel_rfl
attribute [simp] Try.underlying127
@[simp] theorem sz129 : szOf Try.prog 129 = some 2 := by kernel_rfl
@[simp] theorem ag129 : aggOf Try.prog 129 = some true := by kernel_rfl
@[simp] theorem zv129 : zeroOf Try.prog 129 = some (.agg #[.int .i64 0, .slice none 0 0]) := by kernel_rfl
@[simp low] theorem zn129 (n : Nat) : zerosOf Try.prog 129 n = some (List.replicate n [.int .i64 0, .slice none 0 0]).flatten := by kernel_rfl
@[simp] theorem ze129 : zerosOf Try.prog 129 1 = some [.int .i64 0, .slice none 0 0] := by kernel_rfl
@[simp] theorem pl129 : placesOf Try.prog 129 = some [(0, 1), (1, 1)] := by kernel_rfl
@[simp] theorem bu129 (ps : Array (Nat × Value)) : buildV Try.prog 129 ps = if (ps.all fun (_, x) => !junkB x) = true then (Instr.fill (fun x => [(0, 1), (1, 1)].toArray[x]?) #[.int .i64 0, .slice none 0 0] ps.toList).map fun cs => .agg cs else none := buildV_struct zv129 (by kernel_rfl) pl129
@[simp] theorem by129 : byOf Try.prog 129 = some 32 := by kernel_rfl
@[simp] theorem fo129_0 : fieldOf Try.prog 129 0 = some (0, 3) := by kernel_rfl
@[simp] theorem fo129_1 : fieldOf Try.prog 129 1 = some (1, 48) := by kernel_rfl
attribute [simp] Try.underlying129
@[simp] theorem sz139 : szOf Try.prog 139 = some 1 := by kernel_rfl
@[simp] theorem ag139 : aggOf Try.prog 139 = some false := by kernel_rfl
@[simp] theorem zv139 : zeroOf Try.prog 139 = some (.int .u32 0) := by kernel_rfl
@[simp low] theorem zn139 (n : Nat) : zerosOf Try.prog 139 n = some (List.replicate n [.int .u32 0]).flatten := by kernel_rfl
@[simp] theorem ze139 : zerosOf Try.prog 139 1 = some [.int .u32 0] := by kernel_rfl
@[simp] theorem by139 : byOf Try.prog 139 = some 4 := by kernel_rfl
attribute [simp] Try.underlying139
@[simp] theorem sz142 : szOf Try.prog 142 = some 1 := by kernel_rfl
@[simp] theorem ag142 : aggOf Try.prog 142 = some false := by kernel_rfl
@[simp] theorem zv142 : zeroOf Try.prog 142 = some (.slice none 0 0) := by kernel_rfl
@[simp low] theorem zn142 (n : Nat) : zerosOf Try.prog 142 n = some (List.replicate n [.slice none 0 0]).flatten := by kernel_rfl
@[simp] theorem ze142 : zerosOf Try.prog 142 1 = some [.slice none 0 0] := by kernel_rfl
@[simp] theorem by142 : byOf Try.prog 142 = some 24 := by kernel_rfl
attribute [simp] Try.underlying142
@[simp] theorem sz146 : szOf Try.prog 146 = some 1 := by kernel_rfl
@[simp] theorem ag146 : aggOf Try.prog 146 = some false := by kernel_rfl
@[simp] theorem zv146 : zeroOf Try.prog 146 = some (.slice none 0 0) := by kernel_rfl
@[simp low] theorem zn146 (n : Nat) : zerosOf Try.prog 146 n = some (List.replicate n [.slice none 0 0]).flatten := by kernel_rfl
@[simp] theorem ze146 : zerosOf Try.prog 146 1 = some [.slice none 0 0] := by kernel_rfl
@[simp] theorem by146 : byOf Try.prog 146 = some 24 := by kernel_rfl
attribute [simp] Try.underlying146
@[simp] theorem sz147 : szOf Try.prog 147 = some 0 := by kernel_rfl
@[simp] theorem ag147 : aggOf Try.prog 147 = some true := by kernel_rfl
@[simp] theorem by147 : byOf Try.prog 147 = some 0 := by kernel_rfl
attribute [simp] Try.underlying147
@[simp] theorem sz148 : szOf Try.prog 148 = some 0 := by kernel_rfl
@[simp] theorem ag148 : aggOf Try.prog 148 = some true := by kernel_rfl
@[simp] theorem by148 : byOf Try.prog 148 = some 0 := by kernel_rfl
attribute [simp] Try.underlying148
@[simp] theorem sz149 : szOf Try.prog 149 = some 0 := by kernel_rfl
@[simp] theorem ag149 : aggOf Try.prog 149 = some true := by kernel_rfl
@[simp] theorem by149 : byOf Try.prog 149 = some 0 := by kernel_rfl
attribute [simp] Try.underlying149
@[simp] theorem sz150 : szOf Try.prog 150 = some 1 := by kernel_rfl
@[simp] theorem ag150 : aggOf Try.prog 150 = some true := by kernel_rfl
@[simp] theorem zv150 : zeroOf Try.prog 150 = some (.agg #[.int .u32 0]) := by kernel_rfl
@[simp low] theorem zn150 (n : Nat) : zerosOf Try.prog 150 n = some (List.replicate n [.int .u32 0]).flatten := by kernel_rfl
@[simp] theorem ze150 : zerosOf Try.prog 150 1 = some [.int .u32 0] := by kernel_rfl
@[simp] theorem pl150 : placesOf Try.prog 150 = some [(0, 0), (0, 1)] := by kernel_rfl
@[simp] theorem bu150 (ps : Array (Nat × Value)) : buildV Try.prog 150 ps = if (ps.all fun (_, x) => !junkB x) = true then (Instr.fill (fun x => [(0, 0), (0, 1)].toArray[x]?) #[.int .u32 0] ps.toList).map fun cs => .agg cs else none := buildV_struct zv150 (by kernel_rfl) pl150
@[simp] theorem by150 : byOf Try.prog 150 = some 4 := by kernel_rfl
@[simp] theorem fo150_0 : fieldOf Try.prog 150 0 = some (0, 149) := by kernel_rfl
@[simp] theorem fo150_1 : fieldOf Try.prog 150 1 = some (0, 139) := by kernel_rfl
attribute [simp] Try.underlying150
@[simp] theorem sz151 : szOf Try.prog 151 = some 1 := by kernel_rfl
@[simp] theorem ag151 : aggOf Try.prog 151 = some true := by kernel_rfl
@[simp] theorem zv151 : zeroOf Try.prog 151 = some (.agg #[.int .u32 0]) := by kernel_rfl
@[simp low] theorem zn151 (n : Nat) : zerosOf Try.prog 151 n = some (List.replicate n [.int .u32 0]).flatten := by kernel_rfl
@[simp] theorem ze151 : zerosOf Try.prog 151 1 = some [.int .u32 0] := by kernel_rfl
@[simp] theorem pl151 : placesOf Try.prog 151 = some [(0, 0), (0, 1)] := by kernel_rfl
@[simp] theorem bu151 (ps : Array (Nat × Value)) : buildV Try.prog 151 ps = if (ps.all fun (_, x) => !junkB x) = true then (Instr.fill (fun x => [(0, 0), (0, 1)].toArray[x]?) #[.int .u32 0] ps.toList).map fun cs => .agg cs else none := buildV_struct zv151 (by kernel_rfl) pl151
@[simp] theorem by151 : byOf Try.prog 151 = some 4 := by kernel_rfl
@[simp] theorem fo151_0 : fieldOf Try.prog 151 0 = some (0, 149) := by kernel_rfl
@[simp] theorem fo151_1 : fieldOf Try.prog 151 1 = some (0, 139) := by kernel_rfl
attribute [simp] Try.underlying151
@[simp] theorem sz152 : szOf Try.prog 152 = some 2 := by kernel_rfl
@[simp] theorem ag152 : aggOf Try.prog 152 = some true := by kernel_rfl
@[simp] theorem zv152 : zeroOf Try.prog 152 = some (.agg #[.int .i32 0, .int .u32 0]) := by kernel_rfl
@[simp low] theorem zn152 (n : Nat) : zerosOf Try.prog 152 n = some (List.replicate n [.int .i32 0, .int .u32 0]).flatten := by kernel_rfl
@[simp] theorem ze152 : zerosOf Try.prog 152 1 = some [.int .i32 0, .int .u32 0] := by kernel_rfl
@[simp] theorem pl152 : placesOf Try.prog 152 = some [(0, 1), (1, 1)] := by kernel_rfl
@[simp] theorem bu152 (ps : Array (Nat × Value)) : buildV Try.prog 152 ps = if (ps.all fun (_, x) => !junkB x) = true then (Instr.fill (fun x => [(0, 1), (1, 1)].toArray[x]?) #[.int .i32 0, .int .u32 0] ps.toList).map fun cs => .agg cs else none := buildV_struct zv152 (by kernel_rfl) pl152
@[simp] theorem by152 : byOf Try.prog 152 = some 8 := by kernel_rfl
@[simp] theorem fo152_0 : fieldOf Try.prog 152 0 = some (0, 21) := by kernel_rfl
@[simp] theorem fo152_1 : fieldOf Try.prog 152 1 = some (1, 139) := by kernel_rfl
attribute [simp] Try.underlying152
@[simp] theorem sz153 : szOf Try.prog 153 = some 2 := by kernel_rfl
@[simp] theorem ag153 : aggOf Try.prog 153 = some true := by kernel_rfl
@[simp] theorem zv153 : zeroOf Try.prog 153 = some (.agg #[.int .i32 0, .int .u32 0]) := by kernel_rfl
@[simp low] theorem zn153 (n : Nat) : zerosOf Try.prog 153 n = some (List.replicate n [.int .i32 0, .int .u32 0]).flatten := by kernel_rfl
@[simp] theorem ze153 : zerosOf Try.prog 153 1 = some [.int .i32 0, .int .u32 0] := by kernel_rfl
@[simp] theorem pl153 : placesOf Try.prog 153 = some [(0, 1), (1, 1)] := by kernel_rfl
@[simp] theorem bu153 (ps : Array (Nat × Value)) : buildV Try.prog 153 ps = if (ps.all fun (_, x) => !junkB x) = true then (Instr.fill (fun x => [(0, 1), (1, 1)].toArray[x]?) #[.int .i32 0, .int .u32 0] ps.toList).map fun cs => .agg cs else none := buildV_struct zv153 (by kernel_rfl) pl153
@[simp] theorem by153 : byOf Try.prog 153 = some 8 := by kernel_rfl
@[simp] theorem fo153_0 : fieldOf Try.prog 153 0 = some (0, 21) := by kernel_rfl
@[simp] theorem fo153_1 : fieldOf Try.prog 153 1 = some (1, 139) := by kernel_rfl
attribute [simp] Try.underlying153
@[simp] theorem sz154 : szOf Try.prog 154 = some 2 := by kernel_rfl
@[simp] theorem ag154 : aggOf Try.prog 154 = some true := by kernel_rfl
@[simp] theorem zv154 : zeroOf Try.prog 154 = some (.agg #[.int .i32 0, .int .u32 0]) := by kernel_rfl
@[simp low] theorem zn154 (n : Nat) : zerosOf Try.prog 154 n = some (List.replicate n [.int .i32 0, .int .u32 0]).flatten := by kernel_rfl
@[simp] theorem ze154 : zerosOf Try.prog 154 1 = some [.int .i32 0, .int .u32 0] := by kernel_rfl
@[simp] theorem pl154 : placesOf Try.prog 154 = some [(0, 0), (0, 2)] := by kernel_rfl
@[simp] theorem bu154 (ps : Array (Nat × Value)) : buildV Try.prog 154 ps = if (ps.all fun (_, x) => !junkB x) = true then (Instr.fill (fun x => [(0, 0), (0, 2)].toArray[x]?) #[.int .i32 0, .int .u32 0] ps.toList).map fun cs => .agg cs else none := buildV_struct zv154 (by kernel_rfl) pl154
@[simp] theorem by154 : byOf Try.prog 154 = some 8 := by kernel_rfl
@[simp] theorem fo154_0 : fieldOf Try.prog 154 0 = some (0, 148) := by kernel_rfl
@[simp] theorem fo154_1 : fieldOf Try.prog 154 1 = some (0, 153) := by kernel_rfl
attribute [simp] Try.underlying154
@[simp] theorem sz155 : szOf Try.prog 155 = some 2 := by kernel_rfl
@[simp] theorem ag155 : aggOf Try.prog 155 = some true := by kernel_rfl
@[simp] theorem zv155 : zeroOf Try.prog 155 = some (.agg #[.int .i32 0, .int .u32 0]) := by kernel_rfl
@[simp low] theorem zn155 (n : Nat) : zerosOf Try.prog 155 n = some (List.replicate n [.int .i32 0, .int .u32 0]).flatten := by kernel_rfl
@[simp] theorem ze155 : zerosOf Try.prog 155 1 = some [.int .i32 0, .int .u32 0] := by kernel_rfl
@[simp] theorem pl155 : placesOf Try.prog 155 = some [(0, 0), (0, 2)] := by kernel_rfl
@[simp] theorem bu155 (ps : Array (Nat × Value)) : buildV Try.prog 155 ps = if (ps.all fun (_, x) => !junkB x) = true then (Instr.fill (fun x => [(0, 0), (0, 2)].toArray[x]?) #[.int .i32 0, .int .u32 0] ps.toList).map fun cs => .agg cs else none := buildV_struct zv155 (by kernel_rfl) pl155
@[simp] theorem by155 : byOf Try.prog 155 = some 8 := by kernel_rfl
@[simp] theorem fo155_0 : fieldOf Try.prog 155 0 = some (0, 148) := by kernel_rfl
@[simp] theorem fo155_1 : fieldOf Try.prog 155 1 = some (0, 153) := by kernel_rfl
attribute [simp] Try.underlying155
@[simp] theorem sz156 : szOf Try.prog 156 = some 3 := by kernel_rfl
@[simp] theorem ag156 : aggOf Try.prog 156 = some true := by kernel_rfl
@[simp] theorem zv156 : zeroOf Try.prog 156 = some (.agg #[.int .u32 0, .int .i32 0, .int .u32 0]) := by kernel_rfl
@[simp low] theorem zn156 (n : Nat) : zerosOf Try.prog 156 n = some (List.replicate n [.int .u32 0, .int .i32 0, .int .u32 0]).flatten := by kernel_rfl
@[simp] theorem ze156 : zerosOf Try.prog 156 1 = some [.int .u32 0, .int .i32 0, .int .u32 0] := by kernel_rfl
@[simp] theorem pl156 : placesOf Try.prog 156 = some [(0, 0), (0, 1), (1, 2)] := by kernel_rfl
@[simp] theorem bu156 (ps : Array (Nat × Value)) : buildV Try.prog 156 ps = if (ps.all fun (_, x) => !junkB x) = true then (Instr.fill (fun x => [(0, 0), (0, 1), (1, 2)].toArray[x]?) #[.int .u32 0, .int .i32 0, .int .u32 0] ps.toList).map fun cs => .agg cs else none := buildV_struct zv156 (by kernel_rfl) pl156
@[simp] theorem by156 : byOf Try.prog 156 = some 12 := by kernel_rfl
@[simp] theorem fo156_0 : fieldOf Try.prog 156 0 = some (0, 148) := by kernel_rfl
@[simp] theorem fo156_1 : fieldOf Try.prog 156 1 = some (0, 151) := by kernel_rfl
@[simp] theorem fo156_2 : fieldOf Try.prog 156 2 = some (1, 155) := by kernel_rfl
attribute [simp] Try.underlying156
@[simp] theorem sz157 : szOf Try.prog 157 = some 3 := by kernel_rfl
@[simp] theorem ag157 : aggOf Try.prog 157 = some true := by kernel_rfl
@[simp] theorem zv157 : zeroOf Try.prog 157 = some (.agg #[.int .u32 0, .int .i32 0, .int .u32 0]) := by kernel_rfl
@[simp low] theorem zn157 (n : Nat) : zerosOf Try.prog 157 n = some (List.replicate n [.int .u32 0, .int .i32 0, .int .u32 0]).flatten := by kernel_rfl
@[simp] theorem ze157 : zerosOf Try.prog 157 1 = some [.int .u32 0, .int .i32 0, .int .u32 0] := by kernel_rfl
@[simp] theorem pl157 : placesOf Try.prog 157 = some [(0, 0), (0, 1), (1, 2)] := by kernel_rfl
@[simp] theorem bu157 (ps : Array (Nat × Value)) : buildV Try.prog 157 ps = if (ps.all fun (_, x) => !junkB x) = true then (Instr.fill (fun x => [(0, 0), (0, 1), (1, 2)].toArray[x]?) #[.int .u32 0, .int .i32 0, .int .u32 0] ps.toList).map fun cs => .agg cs else none := buildV_struct zv157 (by kernel_rfl) pl157
@[simp] theorem by157 : byOf Try.prog 157 = some 12 := by kernel_rfl
@[simp] theorem fo157_0 : fieldOf Try.prog 157 0 = some (0, 148) := by kernel_rfl
@[simp] theorem fo157_1 : fieldOf Try.prog 157 1 = some (0, 151) := by kernel_rfl
@[simp] theorem fo157_2 : fieldOf Try.prog 157 2 = some (1, 155) := by kernel_rfl
attribute [simp] Try.underlying157
@[simp] theorem sz158 : szOf Try.prog 158 = some 2 := by kernel_rfl
@[simp] theorem ag158 : aggOf Try.prog 158 = some true := by kernel_rfl
@[simp] theorem zv158 : zeroOf Try.prog 158 = some (.agg #[.slice none 0 0, .slice none 0 0]) := by kernel_rfl
@[simp low] theorem zn158 (n : Nat) : zerosOf Try.prog 158 n = some (List.replicate n [.slice none 0 0, .slice none 0 0]).flatten := by kernel_rfl
@[simp] theorem ze158 : zerosOf Try.prog 158 1 = some [.slice none 0 0, .slice none 0 0] := by kernel_rfl
@[simp] theorem pl158 : placesOf Try.prog 158 = some [(0, 1), (1, 1)] := by kernel_rfl
@[simp] theorem bu158 (ps : Array (Nat × Value)) : buildV Try.prog 158 ps = if (ps.all fun (_, x) => !junkB x) = true then (Instr.fill (fun x => [(0, 1), (1, 1)].toArray[x]?) #[.slice none 0 0, .slice none 0 0] ps.toList).map fun cs => .agg cs else none := buildV_struct zv158 (by kernel_rfl) pl158
@[simp] theorem by158 : byOf Try.prog 158 = some 48 := by kernel_rfl
@[simp] theorem fo158_0 : fieldOf Try.prog 158 0 = some (0, 22) := by kernel_rfl
@[simp] theorem fo158_1 : fieldOf Try.prog 158 1 = some (1, 22) := by kernel_rfl
attribute [simp] Try.underlying158
@[simp] theorem sz159 : szOf Try.prog 159 = some 2 := by kernel_rfl
@[simp] theorem ag159 : aggOf Try.prog 159 = some true := by kernel_rfl
@[simp] theorem zv159 : zeroOf Try.prog 159 = some (.agg #[.slice none 0 0, .slice none 0 0]) := by kernel_rfl
@[simp low] theorem zn159 (n : Nat) : zerosOf Try.prog 159 n = some (List.replicate n [.slice none 0 0, .slice none 0 0]).flatten := by kernel_rfl
@[simp] theorem ze159 : zerosOf Try.prog 159 1 = some [.slice none 0 0, .slice none 0 0] := by kernel_rfl
@[simp] theorem pl159 : placesOf Try.prog 159 = some [(0, 1), (1, 1)] := by kernel_rfl
@[simp] theorem bu159 (ps : Array (Nat × Value)) : buildV Try.prog 159 ps = if (ps.all fun (_, x) => !junkB x) = true then (Instr.fill (fun x => [(0, 1), (1, 1)].toArray[x]?) #[.slice none 0 0, .slice none 0 0] ps.toList).map fun cs => .agg cs else none := buildV_struct zv159 (by kernel_rfl) pl159
@[simp] theorem by159 : byOf Try.prog 159 = some 48 := by kernel_rfl
@[simp] theorem fo159_0 : fieldOf Try.prog 159 0 = some (0, 22) := by kernel_rfl
@[simp] theorem fo159_1 : fieldOf Try.prog 159 1 = some (1, 22) := by kernel_rfl
attribute [simp] Try.underlying159
@[simp] theorem sz160 : szOf Try.prog 160 = some 7 := by kernel_rfl
@[simp] theorem ag160 : aggOf Try.prog 160 = some true := by kernel_rfl
@[simp] theorem zv160 : zeroOf Try.prog 160 = some (.agg #[.int .i64 0, .slice none 0 0, .int .u32 0, .int .i32 0, .int .u32 0, .slice none 0 0, .slice none 0 0]) := by kernel_rfl
@[simp low] theorem zn160 (n : Nat) : zerosOf Try.prog 160 n = some (List.replicate n [.int .i64 0, .slice none 0 0, .int .u32 0, .int .i32 0, .int .u32 0, .slice none 0 0, .slice none 0 0]).flatten := by kernel_rfl
@[simp] theorem ze160 : zerosOf Try.prog 160 1 = some [.int .i64 0, .slice none 0 0, .int .u32 0, .int .i32 0, .int .u32 0, .slice none 0 0, .slice none 0 0] := by kernel_rfl
@[simp] theorem pl160 : placesOf Try.prog 160 = some [(0, 1), (1, 1), (2, 3), (5, 2)] := by kernel_rfl
@[simp] theorem bu160 (ps : Array (Nat × Value)) : buildV Try.prog 160 ps = if (ps.all fun (_, x) => !junkB x) = true then (Instr.fill (fun x => [(0, 1), (1, 1), (2, 3), (5, 2)].toArray[x]?) #[.int .i64 0, .slice none 0 0, .int .u32 0, .int .i32 0, .int .u32 0, .slice none 0 0, .slice none 0 0] ps.toList).map fun cs => .agg cs else none := buildV_struct zv160 (by kernel_rfl) pl160
@[simp] theorem by160 : byOf Try.prog 160 = some 96 := by kernel_rfl
@[simp] theorem fo160_0 : fieldOf Try.prog 160 0 = some (0, 3) := by kernel_rfl
@[simp] theorem fo160_1 : fieldOf Try.prog 160 1 = some (1, 146) := by kernel_rfl
@[simp] theorem fo160_2 : fieldOf Try.prog 160 2 = some (2, 157) := by kernel_rfl
@[simp] theorem fo160_3 : fieldOf Try.prog 160 3 = some (5, 159) := by kernel_rfl
attribute [simp] Try.underlying160
@[simp] theorem sz161 : szOf Try.prog 161 = some 7 := by kernel_rfl
@[simp] theorem ag161 : aggOf Try.prog 161 = some true := by kernel_rfl
@[simp] theorem zv161 : zeroOf Try.prog 161 = some (.agg #[.int .i64 0, .slice none 0 0, .int .u32 0, .int .i32 0, .int .u32 0, .slice none 0 0, .slice none 0 0]) := by kernel_rfl
@[simp low] theorem zn161 (n : Nat) : zerosOf Try.prog 161 n = some (List.replicate n [.int .i64 0, .slice none 0 0, .int .u32 0, .int .i32 0, .int .u32 0, .slice none 0 0, .slice none 0 0]).flatten := by kernel_rfl
@[simp] theorem ze161 : zerosOf Try.prog 161 1 = some [.int .i64 0, .slice none 0 0, .int .u32 0, .int .i32 0, .int .u32 0, .slice none 0 0, .slice none 0 0] := by kernel_rfl
@[simp] theorem pl161 : placesOf Try.prog 161 = some [(0, 1), (1, 1), (2, 3), (5, 2)] := by kernel_rfl
@[simp] theorem bu161 (ps : Array (Nat × Value)) : buildV Try.prog 161 ps = if (ps.all fun (_, x) => !junkB x) = true then (Instr.fill (fun x => [(0, 1), (1, 1), (2, 3), (5, 2)].toArray[x]?) #[.int .i64 0, .slice none 0 0, .int .u32 0, .int .i32 0, .int .u32 0, .slice none 0 0, .slice none 0 0] ps.toList).map fun cs => .agg cs else none := buildV_struct zv161 (by kernel_rfl) pl161
@[simp] theorem by161 : byOf Try.prog 161 = some 96 := by kernel_rfl
@[simp] theorem fo161_0 : fieldOf Try.prog 161 0 = some (0, 3) := by kernel_rfl
@[simp] theorem fo161_1 : fieldOf Try.prog 161 1 = some (1, 146) := by kernel_rfl
@[simp] theorem fo161_2 : fieldOf Try.prog 161 2 = some (2, 157) := by kernel_rfl
@[simp] theorem fo161_3 : fieldOf Try.prog 161 3 = some (5, 159) := by kernel_rfl
attribute [simp] Try.underlying161
@[simp] theorem sz163 : szOf Try.prog 163 = some 3 := by kernel_rfl
@[simp] theorem ag163 : aggOf Try.prog 163 = some true := by kernel_rfl
@[simp] theorem zv163 : zeroOf Try.prog 163 = some (.agg #[.int .i64 0, .int .i64 0, .slice none 0 0]) := by kernel_rfl
@[simp low] theorem zn163 (n : Nat) : zerosOf Try.prog 163 n = some (List.replicate n [.int .i64 0, .int .i64 0, .slice none 0 0]).flatten := by kernel_rfl
@[simp] theorem ze163 : zerosOf Try.prog 163 1 = some [.int .i64 0, .int .i64 0, .slice none 0 0] := by kernel_rfl
@[simp] theorem pl163 : placesOf Try.prog 163 = some [(0, 1), (1, 1), (2, 1)] := by kernel_rfl
@[simp] theorem bu163 (ps : Array (Nat × Value)) : buildV Try.prog 163 ps = if (ps.all fun (_, x) => !junkB x) = true then (Instr.fill (fun x => [(0, 1), (1, 1), (2, 1)].toArray[x]?) #[.int .i64 0, .int .i64 0, .slice none 0 0] ps.toList).map fun cs => .agg cs else none := buildV_struct zv163 (by kernel_rfl) pl163
@[simp] theorem by163 : byOf Try.prog 163 = some 40 := by kernel_rfl
@[simp] theorem fo163_0 : fieldOf Try.prog 163 0 = some (0, 3) := by kernel_rfl
@[simp] theorem fo163_1 : fieldOf Try.prog 163 1 = some (1, 3) := by kernel_rfl
@[simp] theorem fo163_2 : fieldOf Try.prog 163 2 = some (2, 146) := by kernel_rfl
attribute [simp] Try.underlying163
@[simp] theorem sz164 : szOf Try.prog 164 = some 3 := by kernel_rfl
@[simp] theorem ag164 : aggOf Try.prog 164 = some true := by kernel_rfl
@[simp] theorem zv164 : zeroOf Try.prog 164 = some (.agg #[.int .i64 0, .int .i64 0, .slice none 0 0]) := by kernel_rfl
@[simp low] theorem zn164 (n : Nat) : zerosOf Try.prog 164 n = some (List.replicate n [.int .i64 0, .int .i64 0, .slice none 0 0]).flatten := by kernel_rfl
@[simp] theorem ze164 : zerosOf Try.prog 164 1 = some [.int .i64 0, .int .i64 0, .slice none 0 0] := by kernel_rfl
@[simp] theorem pl164 : placesOf Try.prog 164 = some [(0, 1), (1, 1), (2, 1)] := by kernel_rfl
@[simp] theorem bu164 (ps : Array (Nat × Value)) : buildV Try.prog 164 ps = if (ps.all fun (_, x) => !junkB x) = true then (Instr.fill (fun x => [(0, 1), (1, 1), (2, 1)].toArray[x]?) #[.int .i64 0, .int .i64 0, .slice none 0 0] ps.toList).map fun cs => .agg cs else none := buildV_struct zv164 (by kernel_rfl) pl164
@[simp] theorem by164 : byOf Try.prog 164 = some 40 := by kernel_rfl
@[simp] theorem fo164_0 : fieldOf Try.prog 164 0 = some (0, 3) := by kernel_rfl
@[simp] theorem fo164_1 : fieldOf Try.prog 164 1 = some (1, 3) := by kernel_rfl
@[simp] theorem fo164_2 : fieldOf Try.prog 164 2 = some (2, 146) := by kernel_rfl
attribute [simp] Try.underlying164
@[simp] theorem sz176 : szOf Try.prog 176 = some 1 := by kernel_rfl
@[simp] theorem ag176 : aggOf Try.prog 176 = some false := by kernel_rfl
@[simp] theorem zv176 : zeroOf Try.prog 176 = some (.int .u64 0) := by kernel_rfl
@[simp low] theorem zn176 (n : Nat) : zerosOf Try.prog 176 n = some (List.replicate n [.int .u64 0]).flatten := by kernel_rfl
@[simp] theorem ze176 : zerosOf Try.prog 176 1 = some [.int .u64 0] := by kernel_rfl
@[simp] theorem by176 : byOf Try.prog 176 = some 8 := by kernel_rfl
attribute [simp] Try.underlying176
@[simp] theorem sz181 : szOf Try.prog 181 = some 1 := by kernel_rfl
@[simp] theorem ag181 : aggOf Try.prog 181 = some false := by kernel_rfl
@[simp] theorem zv181 : zeroOf Try.prog 181 = some (.pointer none) := by kernel_rfl
@[simp low] theorem zn181 (n : Nat) : zerosOf Try.prog 181 n = some (List.replicate n [.pointer none]).flatten := by kernel_rfl
@[simp] theorem ze181 : zerosOf Try.prog 181 1 = some [.pointer none] := by kernel_rfl
@[simp] theorem by181 : byOf Try.prog 181 = some 8 := by kernel_rfl
attribute [simp] Try.underlying181
@[simp] theorem sz182 : szOf Try.prog 182 = some 1 := by kernel_rfl
@[simp] theorem ag182 : aggOf Try.prog 182 = some false := by kernel_rfl
@[simp] theorem zv182 : zeroOf Try.prog 182 = some (.int .u32 0) := by kernel_rfl
@[simp low] theorem zn182 (n : Nat) : zerosOf Try.prog 182 n = some (List.replicate n [.int .u32 0]).flatten := by kernel_rfl
@[simp] theorem ze182 : zerosOf Try.prog 182 1 = some [.int .u32 0] := by kernel_rfl
@[simp] theorem by182 : byOf Try.prog 182 = some 4 := by kernel_rfl
attribute [simp] Try.underlying182
@[simp] theorem sz183 : szOf Try.prog 183 = some 2 := by kernel_rfl
@[simp] theorem ag183 : aggOf Try.prog 183 = some true := by kernel_rfl
@[simp] theorem zv183 : zeroOf Try.prog 183 = some (.agg #[.int .u32 0, .int .i64 0]) := by kernel_rfl
@[simp low] theorem zn183 (n : Nat) : zerosOf Try.prog 183 n = some (List.replicate n [.int .u32 0, .int .i64 0]).flatten := by kernel_rfl
@[simp] theorem ze183 : zerosOf Try.prog 183 1 = some [.int .u32 0, .int .i64 0] := by kernel_rfl
@[simp] theorem pl183 : placesOf Try.prog 183 = some [(0, 1), (1, 1)] := by kernel_rfl
@[simp] theorem bu183 (ps : Array (Nat × Value)) : buildV Try.prog 183 ps = if (ps.all fun (_, x) => !junkB x) = true then (Instr.fill (fun x => [(0, 1), (1, 1)].toArray[x]?) #[.int .u32 0, .int .i64 0] ps.toList).map fun cs => .agg cs else none := buildV_struct zv183 (by kernel_rfl) pl183
@[simp] theorem by183 : byOf Try.prog 183 = some 16 := by kernel_rfl
@[simp] theorem fo183_0 : fieldOf Try.prog 183 0 = some (0, 182) := by kernel_rfl
@[simp] theorem fo183_1 : fieldOf Try.prog 183 1 = some (1, 3) := by kernel_rfl
attribute [simp] Try.underlying183
@[simp] theorem sz184 : szOf Try.prog 184 = some 2 := by kernel_rfl
@[simp] theorem ag184 : aggOf Try.prog 184 = some true := by kernel_rfl
@[simp] theorem zv184 : zeroOf Try.prog 184 = some (.agg #[.int .u32 0, .int .i64 0]) := by kernel_rfl
@[simp low] theorem zn184 (n : Nat) : zerosOf Try.prog 184 n = some (List.replicate n [.int .u32 0, .int .i64 0]).flatten := by kernel_rfl
@[simp] theorem ze184 : zerosOf Try.prog 184 1 = some [.int .u32 0, .int .i64 0] := by kernel_rfl
@[simp] theorem pl184 : placesOf Try.prog 184 = some [(0, 1), (1, 1)] := by kernel_rfl
@[simp] theorem bu184 (ps : Array (Nat × Value)) : buildV Try.prog 184 ps = if (ps.all fun (_, x) => !junkB x) = true then (Instr.fill (fun x => [(0, 1), (1, 1)].toArray[x]?) #[.int .u32 0, .int .i64 0] ps.toList).map fun cs => .agg cs else none := buildV_struct zv184 (by kernel_rfl) pl184
@[simp] theorem by184 : byOf Try.prog 184 = some 16 := by kernel_rfl
@[simp] theorem fo184_0 : fieldOf Try.prog 184 0 = some (0, 182) := by kernel_rfl
@[simp] theorem fo184_1 : fieldOf Try.prog 184 1 = some (1, 3) := by kernel_rfl
attribute [simp] Try.underlying184
@[simp] theorem sz187 : szOf Try.prog 187 = some 1 := by kernel_rfl
@[simp] theorem ag187 : aggOf Try.prog 187 = some false := by kernel_rfl
@[simp] theorem zv187 : zeroOf Try.prog 187 = some (.pointer none) := by kernel_rfl
@[simp low] theorem zn187 (n : Nat) : zerosOf Try.prog 187 n = some (List.replicate n [.pointer none]).flatten := by kernel_rfl
@[simp] theorem ze187 : zerosOf Try.prog 187 1 = some [.pointer none] := by kernel_rfl
@[simp] theorem by187 : byOf Try.prog 187 = some 8 := by kernel_rfl
attribute [simp] Try.underlying187
@[simp] theorem sz188 : szOf Try.prog 188 = some 1 := by kernel_rfl
@[simp] theorem ag188 : aggOf Try.prog 188 = some true := by kernel_rfl
@[simp] theorem zv188 : zeroOf Try.prog 188 = some (.agg #[.slice none 0 0]) := by kernel_rfl
@[simp low] theorem zn188 (n : Nat) : zerosOf Try.prog 188 n = some (List.replicate n [.slice none 0 0]).flatten := by kernel_rfl
@[simp] theorem ze188 : zerosOf Try.prog 188 1 = some [.slice none 0 0] := by kernel_rfl
@[simp] theorem pl188 : placesOf Try.prog 188 = some [(0, 1)] := by kernel_rfl
@[simp] theorem bu188 (ps : Array (Nat × Value)) : buildV Try.prog 188 ps = if (ps.all fun (_, x) => !junkB x) = true then (Instr.fill (fun x => [(0, 1)].toArray[x]?) #[.slice none 0 0] ps.toList).map fun cs => .agg cs else none := buildV_struct zv188 (by kernel_rfl) pl188
@[simp] theorem by188 : byOf Try.prog 188 = some 24 := by kernel_rfl
@[simp] theorem fo188_0 : fieldOf Try.prog 188 0 = some (0, 48) := by kernel_rfl
attribute [simp] Try.underlying188
@[simp] theorem sz189 : szOf Try.prog 189 = some 1 := by kernel_rfl
@[simp] theorem ag189 : aggOf Try.prog 189 = some true := by kernel_rfl
@[simp] theorem zv189 : zeroOf Try.prog 189 = some (.agg #[.slice none 0 0]) := by kernel_rfl
@[simp low] theorem zn189 (n : Nat) : zerosOf Try.prog 189 n = some (List.replicate n [.slice none 0 0]).flatten := by kernel_rfl
@[simp] theorem ze189 : zerosOf Try.prog 189 1 = some [.slice none 0 0] := by kernel_rfl
@[simp] theorem pl189 : placesOf Try.prog 189 = some [(0, 1)] := by kernel_rfl
@[simp] theorem bu189 (ps : Array (Nat × Value)) : buildV Try.prog 189 ps = if (ps.all fun (_, x) => !junkB x) = true then (Instr.fill (fun x => [(0, 1)].toArray[x]?) #[.slice none 0 0] ps.toList).map fun cs => .agg cs else none := buildV_struct zv189 (by kernel_rfl) pl189
@[simp] theorem by189 : byOf Try.prog 189 = some 24 := by kernel_rfl
@[simp] theorem fo189_0 : fieldOf Try.prog 189 0 = some (0, 48) := by kernel_rfl
attribute [simp] Try.underlying189
@[simp] theorem sz190 : szOf Try.prog 190 = some 2 := by kernel_rfl
@[simp] theorem ag190 : aggOf Try.prog 190 = some true := by kernel_rfl
@[simp] theorem zv190 : zeroOf Try.prog 190 = some (.agg #[.slice none 0 0, .int .i64 0]) := by kernel_rfl
@[simp low] theorem zn190 (n : Nat) : zerosOf Try.prog 190 n = some (List.replicate n [.slice none 0 0, .int .i64 0]).flatten := by kernel_rfl
@[simp] theorem ze190 : zerosOf Try.prog 190 1 = some [.slice none 0 0, .int .i64 0] := by kernel_rfl
@[simp] theorem pl190 : placesOf Try.prog 190 = some [(0, 1), (1, 1)] := by kernel_rfl
@[simp] theorem bu190 (ps : Array (Nat × Value)) : buildV Try.prog 190 ps = if (ps.all fun (_, x) => !junkB x) = true then (Instr.fill (fun x => [(0, 1), (1, 1)].toArray[x]?) #[.slice none 0 0, .int .i64 0] ps.toList).map fun cs => .agg cs else none := buildV_struct zv190 (by kernel_rfl) pl190
@[simp] theorem by190 : byOf Try.prog 190 = some 32 := by kernel_rfl
@[simp] theorem fo190_0 : fieldOf Try.prog 190 0 = some (0, 189) := by kernel_rfl
@[simp] theorem fo190_1 : fieldOf Try.prog 190 1 = some (1, 26) := by kernel_rfl
attribute [simp] Try.underlying190
@[simp] theorem sz191 : szOf Try.prog 191 = some 2 := by kernel_rfl
@[simp] theorem ag191 : aggOf Try.prog 191 = some true := by kernel_rfl
@[simp] theorem zv191 : zeroOf Try.prog 191 = some (.agg #[.slice none 0 0, .int .i64 0]) := by kernel_rfl
@[simp low] theorem zn191 (n : Nat) : zerosOf Try.prog 191 n = some (List.replicate n [.slice none 0 0, .int .i64 0]).flatten := by kernel_rfl
@[simp] theorem ze191 : zerosOf Try.prog 191 1 = some [.slice none 0 0, .int .i64 0] := by kernel_rfl
@[simp] theorem pl191 : placesOf Try.prog 191 = some [(0, 1), (1, 1)] := by kernel_rfl
@[simp] theorem bu191 (ps : Array (Nat × Value)) : buildV Try.prog 191 ps = if (ps.all fun (_, x) => !junkB x) = true then (Instr.fill (fun x => [(0, 1), (1, 1)].toArray[x]?) #[.slice none 0 0, .int .i64 0] ps.toList).map fun cs => .agg cs else none := buildV_struct zv191 (by kernel_rfl) pl191
@[simp] theorem by191 : byOf Try.prog 191 = some 32 := by kernel_rfl
@[simp] theorem fo191_0 : fieldOf Try.prog 191 0 = some (0, 189) := by kernel_rfl
@[simp] theorem fo191_1 : fieldOf Try.prog 191 1 = some (1, 26) := by kernel_rfl
attribute [simp] Try.underlying191
@[simp] theorem sz198 : szOf Try.prog 198 = some 256 := by kernel_rfl
@[simp] theorem ag198 : aggOf Try.prog 198 = some true := by kernel_rfl
@[simp] theorem by198 : byOf Try.prog 198 = some 1024 := by kernel_rfl
attribute [simp] Try.underlying198
@[simp] theorem sz201 : szOf Try.prog 201 = some 1 := by kernel_rfl
@[simp] theorem ag201 : aggOf Try.prog 201 = some false := by kernel_rfl
@[simp] theorem zv201 : zeroOf Try.prog 201 = some (.pointer none) := by kernel_rfl
@[simp low] theorem zn201 (n : Nat) : zerosOf Try.prog 201 n = some (List.replicate n [.pointer none]).flatten := by kernel_rfl
@[simp] theorem ze201 : zerosOf Try.prog 201 1 = some [.pointer none] := by kernel_rfl
@[simp] theorem by201 : byOf Try.prog 201 = some 8 := by kernel_rfl
attribute [simp] Try.underlying201
@[simp] theorem sz202 : szOf Try.prog 202 = some 1 := by kernel_rfl
@[simp] theorem ag202 : aggOf Try.prog 202 = some false := by kernel_rfl
@[simp] theorem zv202 : zeroOf Try.prog 202 = some (.pointer none) := by kernel_rfl
@[simp low] theorem zn202 (n : Nat) : zerosOf Try.prog 202 n = some (List.replicate n [.pointer none]).flatten := by kernel_rfl
@[simp] theorem ze202 : zerosOf Try.prog 202 1 = some [.pointer none] := by kernel_rfl
@[simp] theorem by202 : byOf Try.prog 202 = some 8 := by kernel_rfl
attribute [simp] Try.underlying202
@[simp] theorem sz203 : szOf Try.prog 203 = some 1 := by kernel_rfl
@[simp] theorem ag203 : aggOf Try.prog 203 = some false := by kernel_rfl
@[simp] theorem zv203 : zeroOf Try.prog 203 = some (.pointer none) := by kernel_rfl
@[simp low] theorem zn203 (n : Nat) : zerosOf Try.prog 203 n = some (List.replicate n [.pointer none]).flatten := by kernel_rfl
@[simp] theorem ze203 : zerosOf Try.prog 203 1 = some [.pointer none] := by kernel_rfl
@[simp] theorem by203 : byOf Try.prog 203 = some 8 := by kernel_rfl
attribute [simp] Try.underlying203
@[simp] theorem sz204 : szOf Try.prog 204 = some 1 := by kernel_rfl
@[simp] theorem ag204 : aggOf Try.prog 204 = some false := by kernel_rfl
@[simp] theorem zv204 : zeroOf Try.prog 204 = some (.pointer none) := by kernel_rfl
@[simp low] theorem zn204 (n : Nat) : zerosOf Try.prog 204 n = some (List.replicate n [.pointer none]).flatten := by kernel_rfl
@[simp] theorem ze204 : zerosOf Try.prog 204 1 = some [.pointer none] := by kernel_rfl
@[simp] theorem by204 : byOf Try.prog 204 = some 8 := by kernel_rfl
attribute [simp] Try.underlying204
@[simp] theorem sz206 : szOf Try.prog 206 = some 1 := by kernel_rfl
@[simp] theorem ag206 : aggOf Try.prog 206 = some false := by kernel_rfl
@[simp] theorem zv206 : zeroOf Try.prog 206 = some (.pointer none) := by kernel_rfl
@[simp low] theorem zn206 (n : Nat) : zerosOf Try.prog 206 n = some (List.replicate n [.pointer none]).flatten := by kernel_rfl
@[simp] theorem ze206 : zerosOf Try.prog 206 1 = some [.pointer none] := by kernel_rfl
@[simp] theorem by206 : byOf Try.prog 206 = some 8 := by kernel_rfl
attribute [simp] Try.underlying206
@[simp] theorem sz209 : szOf Try.prog 209 = some 1 := by kernel_rfl
@[simp] theorem ag209 : aggOf Try.prog 209 = some false := by kernel_rfl
@[simp] theorem zv209 : zeroOf Try.prog 209 = some (.pointer none) := by kernel_rfl
@[simp low] theorem zn209 (n : Nat) : zerosOf Try.prog 209 n = some (List.replicate n [.pointer none]).flatten := by kernel_rfl
@[simp] theorem ze209 : zerosOf Try.prog 209 1 = some [.pointer none] := by kernel_rfl
@[simp] theorem by209 : byOf Try.prog 209 = some 8 := by kernel_rfl
attribute [simp] Try.underlying209
@[simp] theorem sz212 : szOf Try.prog 212 = some 1 := by kernel_rfl
@[simp] theorem ag212 : aggOf Try.prog 212 = some false := by kernel_rfl
@[simp] theorem zv212 : zeroOf Try.prog 212 = some (.pointer none) := by kernel_rfl
@[simp low] theorem zn212 (n : Nat) : zerosOf Try.prog 212 n = some (List.replicate n [.pointer none]).flatten := by kernel_rfl
@[simp] theorem ze212 : zerosOf Try.prog 212 1 = some [.pointer none] := by kernel_rfl
@[simp] theorem by212 : byOf Try.prog 212 = some 8 := by kernel_rfl
attribute [simp] Try.underlying212
@[simp] theorem sz214 : szOf Try.prog 214 = some 1 := by kernel_rfl
@[simp] theorem ag214 : aggOf Try.prog 214 = some false := by kernel_rfl
@[simp] theorem zv214 : zeroOf Try.prog 214 = some (.pointer none) := by kernel_rfl
@[simp low] theorem zn214 (n : Nat) : zerosOf Try.prog 214 n = some (List.replicate n [.pointer none]).flatten := by kernel_rfl
@[simp] theorem ze214 : zerosOf Try.prog 214 1 = some [.pointer none] := by kernel_rfl
@[simp] theorem by214 : byOf Try.prog 214 = some 8 := by kernel_rfl
attribute [simp] Try.underlying214
@[simp] theorem sz216 : szOf Try.prog 216 = some 1 := by kernel_rfl
@[simp] theorem ag216 : aggOf Try.prog 216 = some false := by kernel_rfl
attribute [simp] Try.underlying216
@[simp] theorem sz223 : szOf Try.prog 223 = some 4 := by kernel_rfl
@[simp] theorem ag223 : aggOf Try.prog 223 = some true := by kernel_rfl
@[simp] theorem zv223 : zeroOf Try.prog 223 = some (.agg #[.pointer none, .pointer none, .pointer none, .string ⟨#[]⟩]) := by kernel_rfl
@[simp low] theorem zn223 (n : Nat) : zerosOf Try.prog 223 n = some (List.replicate n [.pointer none, .pointer none, .pointer none, .string ⟨#[]⟩]).flatten := by kernel_rfl
@[simp] theorem ze223 : zerosOf Try.prog 223 1 = some [.pointer none, .pointer none, .pointer none, .string ⟨#[]⟩] := by kernel_rfl
@[simp] theorem pl223 : placesOf Try.prog 223 = some [(0, 1), (1, 1), (2, 1), (3, 1)] := by kernel_rfl
@[simp] theorem bu223 (ps : Array (Nat × Value)) : buildV Try.prog 223 ps = if (ps.all fun (_, x) => !junkB x) = true then (Instr.fill (fun x => [(0, 1), (1, 1), (2, 1), (3, 1)].toArray[x]?) #[.pointer none, .pointer none, .pointer none, .string ⟨#[]⟩] ps.toList).map fun cs => .agg cs else none := buildV_struct zv223 (by kernel_rfl) pl223
@[simp] theorem by223 : byOf Try.prog 223 = some 40 := by kernel_rfl
@[simp] theorem fo223_0 : fieldOf Try.prog 223 0 = some (0, 17) := by kernel_rfl
@[simp] theorem fo223_1 : fieldOf Try.prog 223 1 = some (1, 17) := by kernel_rfl
@[simp] theorem fo223_2 : fieldOf Try.prog 223 2 = some (2, 17) := by kernel_rfl
@[simp] theorem fo223_3 : fieldOf Try.prog 223 3 = some (3, 9) := by kernel_rfl
attribute [simp] Try.underlying223
@[simp] theorem sz224 : szOf Try.prog 224 = some 4 := by kernel_rfl
@[simp] theorem ag224 : aggOf Try.prog 224 = some true := by kernel_rfl
@[simp] theorem zv224 : zeroOf Try.prog 224 = some (.agg #[.pointer none, .pointer none, .pointer none, .string ⟨#[]⟩]) := by kernel_rfl
@[simp low] theorem zn224 (n : Nat) : zerosOf Try.prog 224 n = some (List.replicate n [.pointer none, .pointer none, .pointer none, .string ⟨#[]⟩]).flatten := by kernel_rfl
@[simp] theorem ze224 : zerosOf Try.prog 224 1 = some [.pointer none, .pointer none, .pointer none, .string ⟨#[]⟩] := by kernel_rfl
@[simp] theorem pl224 : placesOf Try.prog 224 = some [(0, 1), (1, 1), (2, 1), (3, 1)] := by kernel_rfl
@[simp] theorem bu224 (ps : Array (Nat × Value)) : buildV Try.prog 224 ps = if (ps.all fun (_, x) => !junkB x) = true then (Instr.fill (fun x => [(0, 1), (1, 1), (2, 1), (3, 1)].toArray[x]?) #[.pointer none, .pointer none, .pointer none, .string ⟨#[]⟩] ps.toList).map fun cs => .agg cs else none := buildV_struct zv224 (by kernel_rfl) pl224
@[simp] theorem by224 : byOf Try.prog 224 = some 40 := by kernel_rfl
@[simp] theorem fo224_0 : fieldOf Try.prog 224 0 = some (0, 17) := by kernel_rfl
@[simp] theorem fo224_1 : fieldOf Try.prog 224 1 = some (1, 17) := by kernel_rfl
@[simp] theorem fo224_2 : fieldOf Try.prog 224 2 = some (2, 17) := by kernel_rfl
@[simp] theorem fo224_3 : fieldOf Try.prog 224 3 = some (3, 9) := by kernel_rfl
attribute [simp] Try.underlying224
@[simp] theorem sz225 : szOf Try.prog 225 = some 0 := by kernel_rfl
@[simp] theorem ag225 : aggOf Try.prog 225 = some true := by kernel_rfl
@[simp] theorem by225 : byOf Try.prog 225 = some 0 := by kernel_rfl
attribute [simp] Try.underlying225
@[simp] theorem sz226 : szOf Try.prog 226 = some 0 := by kernel_rfl
@[simp] theorem ag226 : aggOf Try.prog 226 = some true := by kernel_rfl
@[simp] theorem by226 : byOf Try.prog 226 = some 0 := by kernel_rfl
@[simp] theorem fo226_0 : fieldOf Try.prog 226 0 = some (0, 225) := by kernel_rfl
attribute [simp] Try.underlying226
@[simp] theorem sz227 : szOf Try.prog 227 = some 0 := by kernel_rfl
@[simp] theorem ag227 : aggOf Try.prog 227 = some true := by kernel_rfl
@[simp] theorem by227 : byOf Try.prog 227 = some 0 := by kernel_rfl
@[simp] theorem fo227_0 : fieldOf Try.prog 227 0 = some (0, 225) := by kernel_rfl
attribute [simp] Try.underlying227
@[simp] theorem sz228 : szOf Try.prog 228 = some 1 := by kernel_rfl
@[simp] theorem ag228 : aggOf Try.prog 228 = some false := by kernel_rfl
@[simp] theorem zv228 : zeroOf Try.prog 228 = some (.int .u8 0) := by kernel_rfl
@[simp low] theorem zn228 (n : Nat) : zerosOf Try.prog 228 n = some (List.replicate n [.int .u8 0]).flatten := by kernel_rfl
@[simp] theorem ze228 : zerosOf Try.prog 228 1 = some [.int .u8 0] := by kernel_rfl
@[simp] theorem by228 : byOf Try.prog 228 = some 1 := by kernel_rfl
attribute [simp] Try.underlying228
@[simp] theorem sz229 : szOf Try.prog 229 = some 1 := by kernel_rfl
@[simp] theorem ag229 : aggOf Try.prog 229 = some false := by kernel_rfl
@[simp] theorem zv229 : zeroOf Try.prog 229 = some (.int .u8 0) := by kernel_rfl
@[simp low] theorem zn229 (n : Nat) : zerosOf Try.prog 229 n = some (List.replicate n [.int .u8 0]).flatten := by kernel_rfl
@[simp] theorem ze229 : zerosOf Try.prog 229 1 = some [.int .u8 0] := by kernel_rfl
@[simp] theorem by229 : byOf Try.prog 229 = some 1 := by kernel_rfl
attribute [simp] Try.underlying229
@[simp] theorem sz231 : szOf Try.prog 231 = some 1 := by kernel_rfl
@[simp] theorem ag231 : aggOf Try.prog 231 = some false := by kernel_rfl
@[simp] theorem zv231 : zeroOf Try.prog 231 = some (.pointer none) := by kernel_rfl
@[simp low] theorem zn231 (n : Nat) : zerosOf Try.prog 231 n = some (List.replicate n [.pointer none]).flatten := by kernel_rfl
@[simp] theorem ze231 : zerosOf Try.prog 231 1 = some [.pointer none] := by kernel_rfl
@[simp] theorem by231 : byOf Try.prog 231 = some 8 := by kernel_rfl
attribute [simp] Try.underlying231
@[simp] theorem sz232 : szOf Try.prog 232 = some 1 := by kernel_rfl
@[simp] theorem ag232 : aggOf Try.prog 232 = some false := by kernel_rfl
@[simp] theorem zv232 : zeroOf Try.prog 232 = some (.int .i32 0) := by kernel_rfl
@[simp low] theorem zn232 (n : Nat) : zerosOf Try.prog 232 n = some (List.replicate n [.int .i32 0]).flatten := by kernel_rfl
@[simp] theorem ze232 : zerosOf Try.prog 232 1 = some [.int .i32 0] := by kernel_rfl
@[simp] theorem by232 : byOf Try.prog 232 = some 4 := by kernel_rfl
attribute [simp] Try.underlying232
@[simp] theorem sz233 : szOf Try.prog 233 = some 1 := by kernel_rfl
@[simp] theorem ag233 : aggOf Try.prog 233 = some false := by kernel_rfl
@[simp] theorem zv233 : zeroOf Try.prog 233 = some (.int .i32 0) := by kernel_rfl
@[simp low] theorem zn233 (n : Nat) : zerosOf Try.prog 233 n = some (List.replicate n [.int .i32 0]).flatten := by kernel_rfl
@[simp] theorem ze233 : zerosOf Try.prog 233 1 = some [.int .i32 0] := by kernel_rfl
@[simp] theorem by233 : byOf Try.prog 233 = some 4 := by kernel_rfl
attribute [simp] Try.underlying233
@[simp] theorem sz234 : szOf Try.prog 234 = some 11 := by kernel_rfl
@[simp] theorem ag234 : aggOf Try.prog 234 = some true := by kernel_rfl
@[simp] theorem fo234_0 : fieldOf Try.prog 234 0 = some (0, 12) := by kernel_rfl
@[simp] theorem fo234_1 : fieldOf Try.prog 234 1 = some (1, 12) := by kernel_rfl
@[simp] theorem fo234_2 : fieldOf Try.prog 234 2 = some (2, 139) := by kernel_rfl
@[simp] theorem fo234_3 : fieldOf Try.prog 234 3 = some (3, 228) := by kernel_rfl
@[simp] theorem fo234_4 : fieldOf Try.prog 234 4 = some (4, 5) := by kernel_rfl
@[simp] theorem fo234_5 : fieldOf Try.prog 234 5 = some (5, 5) := by kernel_rfl
@[simp] theorem fo234_6 : fieldOf Try.prog 234 6 = some (6, 229) := by kernel_rfl
@[simp] theorem fo234_7 : fieldOf Try.prog 234 7 = some (7, 230) := by kernel_rfl
@[simp] theorem fo234_8 : fieldOf Try.prog 234 8 = some (8, 231) := by kernel_rfl
@[simp] theorem fo234_9 : fieldOf Try.prog 234 9 = some (9, 232) := by kernel_rfl
@[simp] theorem fo234_10 : fieldOf Try.prog 234 10 = some (10, 233) := by kernel_rfl
attribute [simp] Try.underlying234
@[simp] theorem sz235 : szOf Try.prog 235 = some 11 := by kernel_rfl
@[simp] theorem ag235 : aggOf Try.prog 235 = some true := by kernel_rfl
@[simp] theorem fo235_0 : fieldOf Try.prog 235 0 = some (0, 12) := by kernel_rfl
@[simp] theorem fo235_1 : fieldOf Try.prog 235 1 = some (1, 12) := by kernel_rfl
@[simp] theorem fo235_2 : fieldOf Try.prog 235 2 = some (2, 139) := by kernel_rfl
@[simp] theorem fo235_3 : fieldOf Try.prog 235 3 = some (3, 228) := by kernel_rfl
@[simp] theorem fo235_4 : fieldOf Try.prog 235 4 = some (4, 5) := by kernel_rfl
@[simp] theorem fo235_5 : fieldOf Try.prog 235 5 = some (5, 5) := by kernel_rfl
@[simp] theorem fo235_6 : fieldOf Try.prog 235 6 = some (6, 229) := by kernel_rfl
@[simp] theorem fo235_7 : fieldOf Try.prog 235 7 = some (7, 230) := by kernel_rfl
@[simp] theorem fo235_8 : fieldOf Try.prog 235 8 = some (8, 231) := by kernel_rfl
@[simp] theorem fo235_9 : fieldOf Try.prog 235 9 = some (9, 232) := by kernel_rfl
@[simp] theorem fo235_10 : fieldOf Try.prog 235 10 = some (10, 233) := by kernel_rfl
attribute [simp] Try.underlying235
theorem ok5 : okFn Try.f5 = true := by kernel_rfl
theorem ok13 : okFn Try.f13 = true := by kernel_rfl
theorem ok14 : okFn Try.f14 = true := by kernel_rfl
theorem ok15 : okFn Try.f15 = true := by kernel_rfl
theorem ok16 : okFn Try.f16 = true := by kernel_rfl
theorem ok17 : okFn Try.f17 = true := by kernel_rfl
theorem ok18 : okFn Try.f18 = true := by kernel_rfl
theorem ok19 : okFn Try.f19 = true := by kernel_rfl
theorem ok20 : okFn Try.f20 = true := by kernel_rfl
theorem ok21 : okFn Try.f21 = true := by kernel_rfl
theorem ok22 : okFn Try.f22 = true := by kernel_rfl
theorem ok23 : okFn Try.f23 = true := by kernel_rfl
theorem ok24 : okFn Try.f24 = true := by kernel_rfl
theorem ok25 : okFn Try.f25 = true := by kernel_rfl
theorem ok26 : okFn Try.f26 = true := by kernel_rfl
theorem ok27 : okFn Try.f27 = true := by kernel_rfl
theorem ok28 : okFn Try.f28 = true := by kernel_rfl
theorem ok29 : okFn Try.f29 = true := by kernel_rfl
theorem ok40 : okFn Try.f40 = true := by kernel_rfl
theorem ok41 : okFn Try.f41 = true := by kernel_rfl
theorem ok42 : okFn Try.f42 = true := by kernel_rfl
theorem ok43 : okFn Try.f43 = true := by kernel_rfl
theorem ok44 : okFn Try.f44 = true := by kernel_rfl
theorem ok45 : okFn Try.f45 = true := by kernel_rfl
theorem ok46 : okFn Try.f46 = true := by kernel_rfl
theorem ok47 : okFn Try.f47 = true := by kernel_rfl
theorem ok48 : okFn Try.f48 = true := by kernel_rfl
theorem ok49 : okFn Try.f49 = true := by kernel_rfl
theorem ok50 : okFn Try.f50 = true := by kernel_rfl
theorem ok51 : okFn Try.f51 = true := by kernel_rfl
theorem ok52 : okFn Try.f52 = true := by kernel_rfl
theorem ok53 : okFn Try.f53 = true := by kernel_rfl
theorem ok54 : okFn Try.f54 = true := by kernel_rfl
theorem ok55 : okFn Try.f55 = true := by kernel_rfl
theorem ok56 : okFn Try.f56 = true := by kernel_rfl
theorem ok57 : okFn Try.f57 = true := by kernel_rfl
theorem ok69 : okFn Try.f69 = true := by kernel_rfl
theorem ok70 : okFn Try.f70 = true := by kernel_rfl
theorem ok74 : okFn Try.f74 = true := by kernel_rfl
theorem ok78 : okFn Try.f78 = true := by kernel_rfl
theorem ok79 : okFn Try.f79 = true := by kernel_rfl
theorem ok80 : okFn Try.f80 = true := by kernel_rfl
theorem ok81 : okFn Try.f81 = true := by kernel_rfl
theorem ok82 : okFn Try.f82 = true := by kernel_rfl
theorem ok83 : okFn Try.f83 = true := by kernel_rfl
theorem ok84 : okFn Try.f84 = true := by kernel_rfl
theorem ok85 : okFn Try.f85 = true := by kernel_rfl
theorem ok86 : okFn Try.f86 = true := by kernel_rfl
theorem ok87 : okFn Try.f87 = true := by kernel_rfl
theorem ok88 : okFn Try.f88 = true := by kernel_rfl
theorem ok89 : okFn Try.f89 = true := by kernel_rfl
theorem ok90 : okFn Try.f90 = true := by kernel_rfl
theorem ok91 : okFn Try.f91 = true := by kernel_rfl
theorem ok92 : okFn Try.f92 = true := by kernel_rfl
theorem ok93 : okFn Try.f93 = true := by kernel_rfl
theorem ok94 : okFn Try.f94 = true := by kernel_rfl
theorem ok95 : okFn Try.f95 = true := by kernel_rfl
theorem ok96 : okFn Try.f96 = true := by kernel_rfl
theorem ok97 : okFn Try.f97 = true := by kernel_rfl
theorem ok105 : okFn Try.f105 = true := by kernel_rfl
theorem ok106 : okFn Try.f106 = true := by kernel_rfl
theorem ok110 : okFn Try.f110 = true := by kernel_rfl
theorem ok111 : okFn Try.f111 = true := by kernel_rfl
theorem ok112 : okFn Try.f112 = true := by kernel_rfl
theorem ok113 : okFn Try.f113 = true := by kernel_rfl
theorem ok114 : okFn Try.f114 = true := by kernel_rfl
theorem ok115 : okFn Try.f115 = true := by kernel_rfl
theorem ok116 : okFn Try.f116 = true := by kernel_rfl
theorem ok117 : okFn Try.f117 = true := by kernel_rfl
theorem ok121 : okFn Try.f121 = true := by kernel_rfl
theorem ok122 : okFn Try.f122 = true := by kernel_rfl
theorem ok123 : okFn Try.f123 = true := by kernel_rfl
theorem ok124 : okFn Try.f124 = true := by kernel_rfl
theorem ok125 : okFn Try.f125 = true := by kernel_rfl
theorem ok126 : okFn Try.f126 = true := by kernel_rfl
theorem ok127 : okFn Try.f127 = true := by kernel_rfl
theorem ok128 : okFn Try.f128 = true := by kernel_rfl
theorem ok129 : okFn Try.f129 = true := by kernel_rfl
theorem ok130 : okFn Try.f130 = true := by kernel_rfl
theorem ok134 : okFn Try.f134 = true := by kernel_rfl
theorem ok135 : okFn Try.f135 = true := by kernel_rfl
theorem ok136 : okFn Try.f136 = true := by kernel_rfl
theorem ok137 : okFn Try.f137 = true := by kernel_rfl
theorem ok140 : okFn Try.f140 = true := by kernel_rfl
theorem ok145 : okFn Try.f145 = true := by kernel_rfl
end Go.Proofs.Ytldhfdagmaklaaa.AM
end
section
set_option maxHeartbeats 8000000
set_option linter.unusedVariables false
set_option linter.unusedSimpArgs false

/- slices.Insert over the abstract machine: the walks. -/
namespace Go.Proofs.Ytldhfdagmaklaaa.AM
open Go Go.Proofs
set_option maxRecDepth 100000
theorem w64i {n : Int} (h : -9223372036854775808 ≤ n ∧ n ≤ 9223372036854775807) : IntKind.i64.wrap n = n := IntWalk.i64_in n h
theorem insRun_doc : InsRun Try.prog (ovA Try.prog [133]) 122 2 := by
  intro σ l lx ox n m i C cx cells xs y hl hy hyd hy0 hne hxs hxc hcc hi hm hnm hnC hCm hCc hcx
  refine ac_enter rfl Try.func122 rfl ok122 (Nat.le_of_ble_eq_true rfl) ?_
  have ht := Try.underlying125
  have hv := Try.underlying85
  have hs : szOf Try.prog 129 = some 2 := by kernel_rfl
  have hCt := maxLen_top hCm
  obtain ⟨c1, -, s1⟩ := sl_lo (l := l) (o := 0) ht hs hCt hi hnC
  simp [s1]
  refine CondR.dec (fun h => by omega) (fun _ => ?_)
  simp
  have hby : byOf Try.prog 129 = some 32 := by kernel_rfl
  obtain ⟨z, hz⟩ : ∃ z, zeroOf Try.prog 129 = some z := by
    exact ⟨_, (by kernel_rfl : zeroOf Try.prog 129 = some (.agg #[.int .i64 0, .slice none 0 0]))⟩
  have hzs : z.cells.size = 2 := by
    have := (by kernel_rfl : zeroOf Try.prog 129 = some (.agg #[.int .i64 0, .slice none 0 0]))
    rw [this] at hz; cases hz; rfl
  have hll := get_lt hl
  have hxl : xs.length = m * 2 := by
    unfold readN at hxs
    rw [hy] at hxs
    simp only at hxs
    split at hxs
    · rename_i hq; cases hxs; simp; omega
    · cases hxs
  refine CondR.dec (fun hin => ?_) (fun hin => ?_)
  · have hin : i = n := by omega
    subst hin
    have hC0 : insC 2 i i cells xs = cells.take (i * 2) ++ xs := by unfold insC; simp
    by_cases hfit : i + m ≤ C
    · have ha := app_room (cx := cx) ht hv hs hby hz hzs (by omega) (by omega) (by omega) hnm (by omega) hCt hfit hxs hxc hl (by rw [hxl]; omega)
      simp [ha, Try.results122]
      refine ⟨l, C, cells.drop (i * 2 + xs.length), rfl, ?_, fun j hj hne => List.getElem?_set_ne (Ne.symm hne), .inl ⟨rfl, by simp, rfl, hfit⟩⟩
      rw [List.getElem?_set_self hll, hC0, List.append_assoc]
    · have ha := app_grow (cx := cx) (l := l) (o := 0) ht hv hs hby hz hzs (by omega) (by omega) (by omega) hnm hCt hfit hxs hxc (olds := cells.take (i * 2)) (by rw [readN_eq, hl, readB_full, if_pos (by omega)]; rfl) hcc
      simp [ha, Try.results122]
      refine ⟨σ.length, _, [], rfl, ?_, fun j hj hne => List.getElem?_append_left hj, .inr ⟨rfl, by simp, rfl⟩⟩
      rw [hC0]
      simp
  · have hin : i < n := by omega
    have wnm : IntKind.i64.wrap ((n : Int) + m) = ((n + m : Nat) : Int) := by rw [w64i (by omega)]; omega
    have wim : IntKind.i64.wrap ((i : Int) + m) = ((i + m : Nat) : Int) := by rw [w64i (by omega)]; omega
    simp [hCt, wnm]
    refine CondR.dec (fun hg => ?_) (fun hg => ?_)
    · have hg : C < n + m := by omega
      have wk : IntKind.i64.wrap (((n + m : Nat) : Int) - i) = ((n + m - i : Nat) : Int) := by rw [w64i (by omega)]; omega
      have wk2 : IntKind.i64.wrap ((n : Int) + m - i) = ((n + m - i : Nat) : Int) := by rw [w64i (by omega)]; omega
      have hh := sl_hi (l := l) (o := 0) (n := n) ht hs hCt (show i ≤ C by omega)
      obtain ⟨zs, hzz, hzl, hzc⟩ : ∃ zs, zerosOf Try.prog 129 (n + m - i) = some zs ∧ zs.length = (n + m - i) * 2 ∧ zs.all cellB = true := by
        refine ⟨(List.replicate (n + m - i) [.int .i64 0, .slice none 0 0]).flatten, (by kernel_rfl), by simp, ?_⟩
        rw [List.all_eq_true]
        intro q hq
        obtain ⟨r, hr, hq⟩ := List.mem_flatten.1 hq
        rw [(List.mem_replicate.1 hr).2] at hq
        simp at hq
        first | (subst hq; rfl) | (rcases hq with rfl | rfl <;> rfl)
      have hrl : readN σ ⟨l, 0, none⟩ (i * 2) = some (cells.take (i * 2)) := by rw [readN_eq, hl, readB_full, if_pos (by omega)]; rfl
      have hA : (cells.take (i * 2)).all cellB = true := by
        rw [List.all_eq_true] at hcc ⊢
        intro q hq
        exact hcc q (by
          rw [show cells.take (i * 2) = (cells.take (n * 2)).take (i * 2) by rw [List.take_take]; congr 1; omega] at hq
          exact List.mem_of_mem_take hq)
      have hap := zeros_grow (kk := .i64) ht hs hby hzz hzc (by omega) (by omega) (by omega) (show 0 < n + m - i by omega) (show i + (n + m - i) ≤ 17179869184 by omega) (show C < i + (n + m - i) by omega) hrl hA
      rw [show i + (n + m - i) = n + m by omega] at hap
      obtain ⟨c2, h2⟩ := sl_unk (l := σ.length) (n := n + m) (i := i) ht hs (by simp only [top]; omega) (by omega) (by omega)
      obtain ⟨c3, h3⟩ := sl_unk (l := σ.length) (n := n + m) (i := i + m) ht hs (by simp only [top]; omega) (by omega) (by omega)
      rw [show n + m - (i + m) = n - i by omega] at h3
      rw [if_neg (by omega), Nat.zero_add] at s1
      have hAl : (cells.take (i * 2)).length = i * 2 := by simp; omega
      have e2 : splice (cells.take (i * 2) ++ zs) (i * 2) xs = cells.take (i * 2) ++ xs ++ zs.drop (m * 2) := by
        unfold splice
        rw [List.take_left' hAl, List.drop_append, hAl, List.drop_of_length_le (by rw [hAl]; omega), List.nil_append, show i * 2 + xs.length - i * 2 = m * 2 by omega]
      have x1 : readN (σ ++ [(⟨cells.take (i * 2) ++ zs, .full⟩ : Blk)]) ⟨lx, ox, none⟩ (m * 2) = some xs := by
        rw [readN_eq, List.getElem?_append_left (get_lt hy), ← readN_eq]; exact hxs
      have cp1 := copy_eq (c := c2) (cx := cx) ht hv hs x1 (l := σ.length) (o := i * 2) (n := n + m - i) (r := m) (cells := cells.take (i * 2) ++ zs) (by simp) (Nat.min_eq_left (by omega)) hm (by simp; omega) (by rw [List.take_of_length_le (by omega)]; exact hxc)
      rw [List.take_of_length_le (show xs.length ≤ m * 2 by omega), e2] at cp1
      have b1 : readN (σ ++ [(⟨cells.take (i * 2) ++ xs ++ zs.drop (m * 2), .full⟩ : Blk)]) ⟨l, i * 2, none⟩ ((n - i) * 2) = some ((cells.take (n * 2)).drop (i * 2)) := by
        rw [readN_eq, List.getElem?_append_left hll, hl, readB_full, if_pos (by omega), List.drop_take]
        congr 2; omega
      have hBl : ((cells.take (n * 2)).drop (i * 2)).length = (n - i) * 2 := by simp; omega
      have hBc : ((cells.take (n * 2)).drop (i * 2)).all cellB = true := by
        rw [List.all_eq_true] at hcc ⊢
        exact fun q hq => hcc q (List.mem_of_mem_drop hq)
      have cp2 := copy_eq (c := c3) (cx := c1) ht ht hs b1 (l := σ.length) (o := (i + m) * 2) (n := n - i) (r := n - i) (cells := cells.take (i * 2) ++ xs ++ zs.drop (m * 2)) (by simp) (Nat.min_self _) (by omega) (by simp; omega) (by rw [List.take_of_length_le (by omega)]; exact hBc)
      have e3 : splice (cells.take (i * 2) ++ xs ++ zs.drop (m * 2)) ((i + m) * 2) ((cells.take (n * 2)).drop (i * 2)) = insC 2 i n cells xs := by
        have hAx : (cells.take (i * 2) ++ xs).length = (i + m) * 2 := by rw [List.length_append, hAl, hxl]; omega
        have hd0 : (cells.take (i * 2) ++ xs ++ zs.drop (m * 2)).drop ((i + m) * 2 + ((cells.take (n * 2)).drop (i * 2)).length) = [] := List.drop_of_length_le (by rw [List.length_append, hAx, hBl, List.length_drop]; omega)
        unfold splice insC
        rw [List.take_left' hAx, hd0, List.append_nil]
      rw [List.take_of_length_le (show ((cells.take (n * 2)).drop (i * 2)).length ≤ (n - i) * 2 by omega), e3] at cp2
      have hset : ∀ b b' : Blk, (σ ++ [b]).set σ.length b' = σ ++ [b'] := fun b b' => by simp
      rw [hset] at cp1 cp2
      simp [hh, wnm, wk, wk2, hap, h2]
      rw [cp1]
      simp
      refine w_draw (ord := [0, 1, 2, 3, 4, 5, 6, 7, 8]) (q := 0) (by decide +kernel) (by decide +kernel) ?_
      have h3' := h3
      rw [Int.natCast_add] at h3'
      have wim' := wim
      rw [Int.natCast_add] at wim'
      simp only [List.append_assoc] at cp2
      simp [wim', h3', s1]
      rw [cp2]
      simp [Try.results122]
      exact ⟨σ.length, _, [], rfl, by simp, fun j hj hne => List.getElem?_append_left hj, .inr ⟨rfl, by simp, rfl⟩⟩
    · have hg : n + m ≤ C := by omega
      have hh := sl_hi (l := l) (o := 0) (n := n) ht hs hCt hg
      rw [Int.natCast_add] at hh
      obtain ⟨c2, hc2, s2⟩ := sl_lo (l := l) (o := 0) (n := n + m) (i := i + m) ht hs hCt (by omega) hg
      rw [if_neg (by omega), Nat.zero_add, Int.natCast_add] at s2
      rw [Int.natCast_add] at wim wnm
      obtain ⟨c4, -, s4⟩ := sl_lo (l := l) (o := 0) (n := n + m) (i := i) ht hs hCt (by omega) hg
      rw [if_neg (by omega), Nat.zero_add] at s4
      have htd : top < dng := by decide +kernel
      have hov : ovA Try.prog [133] 133 #[.slice (some ⟨lx, ox, none⟩) m cx, .slice (some ⟨l, (i + m) * 2, none⟩) (n + m - (i + m)) c2] σ = some (.bool false, σ) := by
        unfold ovA
        simp only [hy, hl]
        rw [if_pos (by simp), if_pos ⟨hyd, trivial, hne, by omega, hy0, hcx, by omega⟩]
      have b1 : readN σ ⟨l, i * 2, none⟩ ((n + m - i) * 2) = some ((cells.drop (i * 2)).take ((n + m - i) * 2)) := by
        rw [readN_eq, hl, readB_full, if_pos (by omega)]
      have hB : ((cells.drop (i * 2)).take ((n + m - i) * 2)).take ((n - i) * 2) = (cells.take (n * 2)).drop (i * 2) := by
        rw [List.take_take, List.drop_take]; congr 1; omega
      have hBl : ((cells.take (n * 2)).drop (i * 2)).length = (n - i) * 2 := by simp; omega
      have hBc : ((cells.take (n * 2)).drop (i * 2)).all cellB = true := by
        rw [List.all_eq_true] at hcc ⊢
        exact fun q hq => hcc q (List.mem_of_mem_drop hq)
      have cp1 := copy_eq (c := c2) (cx := c4) ht ht hs b1 (l := l) (o := (i + m) * 2) (n := n + m - (i + m)) (r := n - i) hl ((Nat.min_eq_right (by omega)).trans (by omega)) (by omega) (by omega) (by rw [hB]; exact hBc)
      rw [hB] at cp1
      obtain ⟨D, hD⟩ : ∃ D, splice cells ((i + m) * 2) ((cells.take (n * 2)).drop (i * 2)) = D := ⟨_, rfl⟩
      have hDl : D.length = cells.length := by rw [← hD]; unfold splice; simp; omega
      rw [hD] at cp1
      have hl1 : (σ.set l ⟨D, .full⟩)[l]? = some ⟨D, .full⟩ := List.getElem?_set_self hll
      have x1 : readN (σ.set l ⟨D, .full⟩) ⟨lx, ox, none⟩ (m * 2) = some xs := by
        rw [readN_eq, List.getElem?_set_ne (Ne.symm hne), ← readN_eq]; exact hxs
      have cp2 := copy_eq (c := c4) (cx := cx) ht hv hs x1 (l := l) (o := i * 2) (n := n + m - i) (r := m) hl1 (Nat.min_eq_left (by omega)) hm (by omega) (by rw [List.take_of_length_le (by omega)]; exact hxc)
      rw [List.take_of_length_le (show xs.length ≤ m * 2 by omega), List.set_set] at cp2
      have hF : splice D (i * 2) xs = insC 2 i n cells xs ++ cells.drop ((n + m) * 2) := by
        rw [← hD]
        unfold splice insC
        have hAl : (cells.take (i * 2)).length = i * 2 := by simp; omega
        have t1 : (cells.take ((i + m) * 2) ++ (cells.take (n * 2)).drop (i * 2) ++ cells.drop ((i + m) * 2 + ((cells.take (n * 2)).drop (i * 2)).length)).take (i * 2) = cells.take (i * 2) := by
          rw [List.append_assoc, List.take_append_of_le_length (by simp; omega), List.take_take]
          congr 1; omega
        have t2 : (cells.take ((i + m) * 2) ++ (cells.take (n * 2)).drop (i * 2) ++ cells.drop ((i + m) * 2 + ((cells.take (n * 2)).drop (i * 2)).length)).drop (i * 2 + xs.length) = (cells.take (n * 2)).drop (i * 2) ++ cells.drop ((n + m) * 2) := by
          rw [List.append_assoc, List.drop_left' (by simp; omega), hBl]
          congr 2; omega
        rw [t1, t2]
        simp
      rw [hF] at cp2
      simp [wnm, wim, hh, s2]
      refine CALL.of (R := fun u τ => u = .bool false ∧ τ = σ) (ac_prim hov ⟨rfl, rfl⟩) fun u τ ⟨e1, e2⟩ => ?_
      subst e1; subst e2
      simp
      refine w_draw (ord := [0, 1, 2, 3, 4, 5, 6, 7, 8]) (q := 0) (by decide +kernel) (by decide +kernel) ?_
      simp [wim, s2, s4]
      rw [cp1]
      simp [s4]
      rw [cp2]
      simp [Try.results122]
      exact ⟨l, C, _, rfl, by rw [List.getElem?_set_self hll], fun j hj hne => List.getElem?_set_ne (Ne.symm hne), .inl ⟨rfl, by simp, rfl, hg⟩⟩
theorem insRun0_doc : InsRun0 Try.prog (ovA Try.prog [133]) 122 2 := by
  intro σ A lx ox m cx xs hA hxs hxc hm hnm
  refine ac_enter rfl Try.func122 rfl ok122 (Nat.le_of_ble_eq_true rfl) ?_
  have ht := Try.underlying125
  have hv := Try.underlying85
  have hs : szOf Try.prog 129 = some 2 := by kernel_rfl
  have hby : byOf Try.prog 129 = some 32 := by kernel_rfl
  have hz : zeroOf Try.prog 129 = some (.agg #[.int .i64 0, .slice none 0 0]) := by kernel_rfl
  rcases hA with rfl | ⟨l, o, rfl, hr⟩
  · have h1 : aSlice Try.prog 125 (.slice none 0 0) (some (.int .i64 0)) none none = some (.slice none 0 0) := by
      unfold aSlice; simp [ht, hs, intOpt, bounds]
    have ha : aAppend Try.prog false 125 85 (.slice none 0 0) (.slice (some ⟨lx, ox, none⟩) m cx) σ = some (.slice (some ⟨σ.length, 0, none⟩) m (unk 2 m), σ ++ [⟨xs, .full⟩]) := by
      unfold aAppend
      simp only [ht, hv, hs, hby, hz, srcOf, hxs, Option.map_some]
      rw [if_neg (by simp only [Decidable.not_not]; exact ⟨by omega, rfl, by omega, by omega, by omega, hxc⟩), if_pos ⟨trivial, trivial⟩, if_neg (by omega)]
      simp only [newBlk]
      rw [if_pos hxc]
      rfl
    simp [h1]
    refine CondR.dec (fun h => by omega) (fun _ => ?_)
    simp [ha, Try.results122]
  · obtain ⟨c1, -, h1⟩ := sl_lo (l := l) (o := o) (n := 0) (C := 0) (i := 0) ht hs (by decide +kernel) (Nat.le_refl _) (Nat.le_refl _)
    have ha := app_grow (n := 0) (C := 0) (cx := cx) ht hv hs hby hz rfl (by omega) (by omega) (by omega) (show 0 + m ≤ 17179869184 by omega) (by decide +kernel) (by omega) hxs hxc (olds := []) (by simpa using hr) (by simp)
    simp only [Nat.zero_add, List.nil_append] at ha
    simp at h1
    simp [h1]
    refine CondR.dec (fun h => by omega) (fun _ => ?_)
    simp [ha, Try.results122]
end Go.Proofs.Ytldhfdagmaklaaa.AM
end
section
set_option maxHeartbeats 8000000
set_option linter.unusedVariables false
set_option linter.unusedSimpArgs false

/- slices.Delete over the abstract machine: the walks. -/
namespace Go.Proofs.Ytldhfdagmaklaaa.AM
open Go Go.Proofs
set_option maxRecDepth 100000
theorem delRun_doc {prim : CallF} (hpn : ∀ xs σ, prim 112 xs σ = none) : DelRun Try.prog prim 112 2 := by
  intro σ l n i j c C cells hl hcc hij hj hn hnC hC hCc
  refine ac_enter (hpn _ _) Try.func112 rfl ok112 (Nat.le_of_ble_eq_true rfl) ?_
  have ht := Try.underlying125
  have hs : szOf Try.prog 129 = some 2 := by kernel_rfl
  have hby : byOf Try.prog 129 = some 32 := by kernel_rfl
  obtain ⟨z, hz⟩ : ∃ z, zeroOf Try.prog 129 = some z := ⟨_, (by kernel_rfl : zeroOf Try.prog 129 = some (.agg #[.int .i64 0, .slice none 0 0]))⟩
  have hzs : z.cells.size = 2 := by
    have := (by kernel_rfl : zeroOf Try.prog 129 = some (.agg #[.int .i64 0, .slice none 0 0]))
    rw [this] at hz; cases hz; rfl
  have hll := get_lt hl
  obtain ⟨u3, h3⟩ := slG_3 (l := l) (i := i) (j := j) ht hs hC (by omega) hj hnC
  have hhi := slG_hi (l := l) (n := n) ht hs hC (show i ≤ C by omega)
  simp [h3]
  refine CondR.dec (fun h => by omega) (fun _ => ?_)
  simp
  refine w_draw (ord := [0, 1, 2, 3, 4, 5, 6, 7]) (q := 0) (by decide +kernel) (by decide +kernel) ?_
  -- what is cleared
  have hzz : ∀ k, zerosOf Try.prog 129 k = some (List.replicate k [.int .i64 0, .slice none 0 0]).flatten := fun k => by kernel_rfl
  have hzl : ∀ k, ((List.replicate k ([.int .i64 0, .slice none 0 0] : List Value)).flatten).length = k * 2 := fun k => by simp
  have hzc : ∀ k, ((List.replicate k ([.int .i64 0, .slice none 0 0] : List Value)).flatten).all cellB = true := fun k => by
    rw [List.all_eq_true]
    intro q hq
    obtain ⟨r, hr, hq⟩ := List.mem_flatten.1 hq
    rw [(List.mem_replicate.1 hr).2] at hq
    simp at hq
    first | (subst hq; rfl) | (rcases hq with rfl | rfl <;> rfl)
  obtain ⟨c5, h5⟩ := slG_lohi (l := l) (n := n - (j - i)) (i := n - (j - i)) (h := n) ht hs hC (by omega) hnC
  have hBl : ((cells.take (n * 2)).drop (j * 2)).length = (n - j) * 2 := by simp; omega
  have fin : ∀ D : List Value, D.length = cells.length → D.take ((n - (j - i)) * 2) = cells.take (i * 2) ++ (cells.take (n * 2)).drop (j * 2) →
      splice D ((n - (j - i)) * 2) (List.replicate (n - (n - (j - i))) [.int .i64 0, .slice none 0 0]).flatten = cells.take (i * 2) ++ (cells.take (n * 2)).drop (j * 2) ++ ((List.replicate (n - (n - (j - i))) [.int .i64 0, .slice none 0 0]).flatten ++ D.drop (n * 2)) := fun D hD h => by
    unfold splice
    rw [h, hzl, List.append_assoc]
    congr 3; omega
  by_cases hjn : j = n
  · subst hjn
    obtain ⟨o4, c4, h4, ho4⟩ := slG_end (l := l) ht hs hC hnC
    have hx : srcOf Try.prog σ 2 125 (.slice (some ⟨l, o4, none⟩) 0 c4) = some (0, []) := by
      unfold srcOf
      simp only [ht]
      rw [readN_eq, hl, readB_full, if_pos (by rcases ho4 with rfl | rfl <;> omega)]
      simp
    have ha := appG_none (l := l) (A := none) (cx := 0) ht ht hs hby hz hzs (by omega) (by omega) (by omega) (show i ≤ 17179869184 by omega) hC (by omega) hx
    have e1 : j - (j - i) = i := by omega
    rw [e1] at h5 fin
    have cl := clear_eq (c := c5) ht (hzz (j - i)) (by omega) hl (o := i * 2) (by rw [hzl]; omega) (hzc _)
    rw [fin cells rfl (by simp)] at cl
    simp [hhi, h4, ha, h5]
    rw [cl]
    simp [Try.results112]
    refine ⟨by omega, (List.replicate (j - i) [.int .i64 0, .slice none 0 0]).flatten ++ cells.drop (j * 2), ?_, ?_⟩
    · have := hzl (j - i)
      simp at this ⊢; omega
    · simp
  · obtain ⟨c4, h4⟩ := slG_lo (l := l) (i := j) ht hs hC (by omega) hnC
    have hr : readN σ ⟨l, j * 2, none⟩ ((n - j) * 2) = some ((cells.take (n * 2)).drop (j * 2)) := by
      rw [readN_eq, hl, readB_full, if_pos (by omega), List.drop_take]
      congr 2; omega
    have hBc : ((cells.take (n * 2)).drop (j * 2)).all cellB = true := by
      rw [List.all_eq_true] at hcc ⊢
      exact fun q hq => hcc q (List.mem_of_mem_drop hq)
    have ha := appG_room (cx := c4) ht ht hs hby hz hzs (by omega) (by omega) (by omega) (show i + (n - j) ≤ 17179869184 by omega) (by omega) hC (by omega) hr hBc hl (by rw [hBl]; omega)
    rw [show i + (n - j) = n - (j - i) by omega] at ha
    obtain ⟨D, hD⟩ : ∃ D, splice cells (i * 2) ((cells.take (n * 2)).drop (j * 2)) = D := ⟨_, rfl⟩
    have hDl : D.length = cells.length := by rw [← hD]; unfold splice; simp; omega
    have hDt : D.take ((n - (j - i)) * 2) = cells.take (i * 2) ++ (cells.take (n * 2)).drop (j * 2) := by
      rw [← hD]
      unfold splice
      rw [List.take_left' (by rw [List.length_append, hBl]; simp; omega)]
    rw [hD] at ha
    have cl := clear_eq (σ := σ.set l ⟨D, .full⟩) (c := c5) ht (hzz (n - (n - (j - i)))) (by omega) (l := l) (List.getElem?_set_self hll) (o := (n - (j - i)) * 2) (by rw [hzl, hDl]; omega) (hzc _)
    rw [fin D hDl hDt, List.set_set] at cl
    simp [hhi, h4, ha, h5]
    rw [cl]
    simp [Try.results112]
    refine ⟨(List.replicate (n - (n - (j - i))) [.int .i64 0, .slice none 0 0]).flatten ++ D.drop (n * 2), ?_, ?_⟩
    · have := hzl (n - (n - (j - i)))
      simp at this ⊢; omega
    · simp
end Go.Proofs.Ytldhfdagmaklaaa.AM
end
section
set_option maxHeartbeats 8000000
set_option linter.unusedVariables false
set_option linter.unusedSimpArgs false

/- Words of the walks over the abstract machine: this seat's calls whose answer is known. -/
namespace Go.Proofs.Ytldhfdagmaklaaa.AM
open Go Go.Proofs
theorem mixed : Try.prog.follows .mixedOrders = true := by kernel_rfl
def prims : CallF := insA 122 2
theorem ov_doc : OvF Try.prog 133 := ⟨Try.f133, 85, 4, 129, 2, Try.func133, by kernel_rfl, by kernel_rfl, by kernel_rfl, by kernel_rfl, Try.underlying85, by kernel_rfl⟩
theorem prims_ok : CallOk Try.prog prims := by
  refine ins_ok mixed (ov_ok fun f hf => ?_) ⟨_, _, Try.func122, rfl, by decide +kernel⟩ insRun_doc insRun0_doc
  simp at hf; subst hf; exact ov_doc
/-- A call that leaves what stands, and answers v. -/
def Ans (f : FuncId) (args : Array Value) (σ : Heap) (v : Value) : Prop := AC Try.prog prims f args σ fun u σ' => u = v ∧ ∃ τ, σ' = σ ++ τ
theorem Ans.mk {f : FuncId} {args : Array Value} {σ : Heap} {v : Value} (h : AC Try.prog prims f args σ fun u σ' => u = v ∧ ∃ τ, σ' = σ ++ τ) : Ans f args σ v := h
/-- At a call. -/
theorem Ans.call {f : FuncId} {args : Array Value} {σ : Heap} {v : Value} {R : Value → Heap → Prop} (h : Ans f args σ v) (hr : ∀ τ, R v (σ ++ τ)) : @CALL Try.prog prims f args σ ⟨R⟩ :=
  CALL.of h fun _ _ ⟨e, τ, e2⟩ => by subst e; subst e2; exact hr τ
theorem ex_app (σ : Heap) (τ : Heap) : ∃ ρ, σ ++ τ = σ ++ ρ := ⟨τ, rfl⟩
theorem ex_nil (σ : Heap) : ∃ ρ : Heap, σ = σ ++ ρ := ⟨[], by simp⟩
@[simp] theorem ex_self (σ : Heap) : (∃ ρ : Heap, σ = σ ++ ρ) ↔ True := ⟨fun _ => trivial, fun _ => ex_nil σ⟩
@[simp] theorem ex_same (σ τ : Heap) : (∃ ρ : Heap, τ = ρ) ↔ True := ⟨fun _ => trivial, fun _ => ⟨τ, rfl⟩⟩
end Go.Proofs.Ytldhfdagmaklaaa.AM
end
section
set_option maxHeartbeats 8000000
set_option linter.unusedVariables false
set_option linter.unusedSimpArgs false

/- Words of the walks over the machine of values. -/
namespace Go.Proofs.Ytldhfdagmaklaaa.VM
open Go Go.Proofs AM
theorem hC (n : Nat) : CallOk Try.prog (acall Try.prog prims n) := acall_sound mixed prims_ok n
def noP (f : FuncId) : Bool := f != 122
theorem kn_none {f : FuncId} {xs : Array Value} {σ : Heap} (h : noP f = true) : prims f xs σ = none := by
  unfold noP at h
  simp only [bne_iff_ne, ne_eq] at h
  unfold prims insA
  rw [if_neg h]
theorem prims_doc (us : Array Value) (σ : Heap) : prims 122 us σ = insA 122 2 122 us σ := rfl
theorem w64 {n : Int} (h : -9223372036854775808 ≤ n ∧ n ≤ 9223372036854775807) : IntKind.i64.wrap n = n := IntWalk.i64_in n h
abbrev A (f : FuncId) (args : List V) (v : V) : Prop := Ans Try.prog prims f args v
abbrev AO (f : FuncId) (args : List V) (s : Nat) (rows : List (List V)) : Prop := AnsO Try.prog prims f args s rows
abbrev AK (f : FuncId) (args : List V) (v : Nat → V) (y : Ob) : Prop := AnsK Try.prog prims f args v y
def bo (b : Bool) : V := .lit (.bool b)
def i6 (n : Int) : V := .lit (.int .i64 n)
@[simp] theorem take_map_len {α β : Type} {f : α → β} {l : List α} : (l.map f).take l.length = l.map f := List.take_of_length_le (by simp)
attribute [simp] bo i6
end Go.Proofs.Ytldhfdagmaklaaa.VM
end
section
set_option maxHeartbeats 8000000
set_option linter.unusedVariables false
set_option linter.unusedSimpArgs false

/- crc: plain words. -/
namespace Go.Proofs.Ytldhfdagmaklaaa.VM
open Go Go.Proofs AM
theorem wrap32 {n : Nat} (h : n < 4294967296) : IntKind.u32.wrap (n : Int) = n := by
  simp [IntKind.wrap, IntKind.bits, IntKind.signed]; omega
theorem bv32 (n : Nat) : BitVec.ofInt 32 (n : Int) = BitVec.ofNat 32 n := by rw [BitVec.ofInt_natCast]
theorem u32_and {a b : Nat} (ha : a < 4294967296) (hb : b < 4294967296) : bits BinOp.and IntKind.u32 (a : Int) (b : Int) = ((a &&& b : Nat) : Int) := by
  show IntKind.u32.wrap (((BitVec.ofInt 32 (a : Int) &&& BitVec.ofInt 32 (b : Int)).toNat : Nat) : Int) = _
  rw [bv32, bv32, BitVec.toNat_and, BitVec.toNat_ofNat, BitVec.toNat_ofNat, Nat.mod_eq_of_lt ha, Nat.mod_eq_of_lt hb]
  exact wrap32 (Nat.lt_of_le_of_lt Nat.and_le_left ha)
theorem u32_xor {a b : Nat} (ha : a < 4294967296) (hb : b < 4294967296) : bits BinOp.xor IntKind.u32 (a : Int) (b : Int) = ((a ^^^ b : Nat) : Int) := by
  show IntKind.u32.wrap (((BitVec.ofInt 32 (a : Int) ^^^ BitVec.ofInt 32 (b : Int)).toNat : Nat) : Int) = _
  rw [bv32, bv32, BitVec.toNat_xor, BitVec.toNat_ofNat, BitVec.toNat_ofNat, Nat.mod_eq_of_lt ha, Nat.mod_eq_of_lt hb]
  exact wrap32 (Nat.xor_lt_two_pow (n := 32) ha hb)
theorem u32_low {a : Nat} (ha : a < 4294967296) : bits BinOp.and IntKind.u32 (a : Int) 1 = ((a % 2 : Nat) : Int) := by
  have := u32_and ha (b := 1) (by decide)
  rw [Nat.and_one_is_mod] at this
  exact this
theorem u32_pol {a : Nat} (ha : a < 4294967296) : bits BinOp.xor IntKind.u32 (a : Int) 2197175160 = ((a ^^^ 2197175160 : Nat) : Int) := u32_xor ha (b := 2197175160) (by decide)
theorem u8_xor {a b : Nat} (ha : a < 256) (hb : b < 256) : bits BinOp.xor IntKind.u8 (a : Int) (b : Int) = ((a ^^^ b : Nat) : Int) := by
  show IntKind.u8.wrap (((BitVec.ofInt 8 (a : Int) ^^^ BitVec.ofInt 8 (b : Int)).toNat : Nat) : Int) = _
  rw [BitVec.ofInt_natCast, BitVec.ofInt_natCast, BitVec.toNat_xor, BitVec.toNat_ofNat, BitVec.toNat_ofNat, Nat.mod_eq_of_lt (show a < 2 ^ 8 from ha), Nat.mod_eq_of_lt (show b < 2 ^ 8 from hb)]
  have := Nat.xor_lt_two_pow (n := 8) ha hb
  simp [IntKind.wrap, IntKind.bits, IntKind.signed]; omega
theorem u32_sh (a k : Nat) : Int.fdiv (a : Int) (2 ^ k) = ((a / 2 ^ k : Nat) : Int) := by
  rw [Int.fdiv_eq_ediv_of_nonneg _ (by exact Int.pow_nonneg (by decide))]
  simp
/-- A step of the register; some; of a byte. -/
def cr1 (r : Nat) : Nat := if r % 2 = 1 then r / 2 ^^^ 2197175160 else r / 2
theorem cr1_lt {r : Nat} (h : r < 4294967296) : cr1 r < 4294967296 := by
  unfold cr1
  split
  · exact Nat.xor_lt_two_pow (n := 32) (by omega) (by decide)
  · omega
def crI : Nat → Nat → Nat
  | 0, r => r
  | k + 1, r => cr1 (crI k r)
theorem crI_lt {r : Nat} (h : r < 4294967296) : ∀ k, crI k r < 4294967296
  | 0 => h
  | k + 1 => cr1_lt (crI_lt h k)
def crB (r : Nat) (c : Int) : Nat := crI 8 (r % 256 ^^^ c.toNat) ^^^ (r / 256)
theorem xor8 {a b : Nat} (ha : a < 256) (hb : b < 256) : a ^^^ b < 256 := Nat.xor_lt_two_pow (n := 8) ha hb
theorem crB_lt {r : Nat} {c : Int} (h : r < 4294967296) (hc : 0 ≤ c ∧ c ≤ 255) : crB r c < 4294967296 := by
  unfold crB
  have := xor8 (a := r % 256) (b := c.toNat) (by omega) (by omega)
  exact Nat.xor_lt_two_pow (n := 32) (crI_lt (by omega) 8) (by omega)
def crF (r : Nat) (l : List Int) : Nat := l.foldl crB r
theorem crF_lt : ∀ {l : List Int} {r : Nat}, r < 4294967296 → (∀ x ∈ l, 0 ≤ x ∧ x ≤ 255) → crF r l < 4294967296
  | [], _, h, _ => h
  | c :: l, _, h, hl => crF_lt (l := l) (crB_lt h (hl c (by simp))) fun x hx => hl x (by simp [hx])
theorem crF_snoc (r : Nat) (l : List Int) (c : Int) : crF r (l ++ [c]) = crB (crF r l) c := by simp [crF]
/-- The check sum; its bytes. -/
def crcS (l : List Int) : Nat := 4294967295 - crF 4294967295 l
theorem crcS_lt (l : List Int) : crcS l < 4294967296 := by unfold crcS; omega
def low4 (n : Nat) : List Int := [((n % 256 : Nat) : Int), ((n / 256 % 256 : Nat) : Int), ((n / 65536 % 256 : Nat) : Int), ((n / 16777216 % 256 : Nat) : Int)]
theorem low4_byte {n : Nat} : ∀ x ∈ low4 n, 0 ≤ x ∧ x ≤ 255 := by
  intro x hx
  simp [low4] at hx
  omega
def markB (l : List Int) : List Int := l ++ low4 (crcS l)
/-- The table. -/
def crT : List Nat := (List.range 256).map (crI 8)
theorem crT_len : crT.length = 256 := by simp [crT]
theorem crT_at {i : Nat} (h : i < 256) : crT[i]? = some (crI 8 i) := by simp [crT, h]
end Go.Proofs.Ytldhfdagmaklaaa.VM
end
section
set_option maxHeartbeats 8000000
set_option linter.unusedVariables false
set_option linter.unusedSimpArgs false

/- crc: the table's steps and the bits' steps are the same. -/
namespace Go.Proofs.Ytldhfdagmaklaaa.VM
open Go Go.Proofs AM
theorem xor_mul2 (x y : Nat) : (x ^^^ 2 * y) % 2 = x % 2 ∧ (x ^^^ 2 * y) / 2 = x / 2 ^^^ y := by
  constructor
  · have := Nat.xor_mod_two_eq_one (a := x) (b := 2 * y)
    omega
  · have h := Nat.shiftRight_xor_distrib (a := x) (b := 2 * y) (i := 1)
    simp only [Nat.shiftRight_eq_div_pow, Nat.pow_one] at h
    rw [h, Nat.mul_div_cancel_left _ (by decide)]
theorem cr1_xor (x y : Nat) : cr1 (x ^^^ 2 * y) = cr1 x ^^^ y := by
  obtain ⟨h1, h2⟩ := xor_mul2 x y
  unfold cr1
  rw [h1, h2]
  split
  · rw [Nat.xor_assoc, Nat.xor_comm y, ← Nat.xor_assoc]
  · rfl
theorem crI_xor (x : Nat) : ∀ k y, crI k (x ^^^ 2 ^ k * y) = crI k x ^^^ y
  | 0, y => by simp [crI]
  | k + 1, y => by
    have h := crI_xor x k (2 * y)
    rw [show 2 ^ (k + 1) * y = 2 ^ k * (2 * y) by rw [Nat.pow_succ, Nat.mul_assoc]]
    simp only [crI]
    rw [h, cr1_xor]
theorem crB_eq {r : Nat} {c : Int} (hc : 0 ≤ c ∧ c ≤ 255) : crB r c = crI 8 (r ^^^ c.toNat) := by
  unfold crB
  have h := crI_xor (r % 256 ^^^ c.toNat) 8 (r / 256)
  rw [← h]
  congr 1
  have h2 := xor8 (a := r % 256) (b := c.toNat) (by omega) (by omega)
  apply Nat.eq_of_testBit_eq
  intro i
  rw [Nat.testBit_xor, Nat.testBit_xor, Nat.testBit_xor, show (256 : Nat) = 2 ^ 8 from rfl, Nat.testBit_mod_two_pow, Nat.testBit_two_pow_mul, Nat.testBit_div_two_pow]
  by_cases hi : i < 8
  · simp [hi, show ¬ 8 ≤ i by omega]
  · simp [hi, show 8 ≤ i by omega, Bool.xor_comm, show i - 8 + 8 = i by omega]
/-- The document's step, with a bit of a byte. -/
def rBit (r b : Nat) : Nat := if r % 2 ≠ b then r / 2 ^^^ 2197175160 else r / 2
theorem rBit_eq {r b : Nat} (hb : b < 2) : rBit r b = cr1 (r ^^^ b) := by
  have h : (r ^^^ b) % 2 = (r % 2 + b) % 2 ∧ (r ^^^ b) / 2 = r / 2 := by
    rcases (show b = 0 ∨ b = 1 by omega) with rfl | rfl
    · simp
    · have h1 := Nat.xor_mod_two_eq_one (a := r) (b := 1)
      have h := Nat.shiftRight_xor_distrib (a := r) (b := 1) (i := 1)
      simp only [Nat.shiftRight_eq_div_pow, Nat.pow_one] at h
      refine ⟨by omega, by rw [h]; simp⟩
  unfold rBit cr1
  rw [h.1, h.2]
  by_cases h1 : r % 2 = b
  · rw [if_neg (by simpa using h1), if_neg (by omega)]
  · rw [if_pos h1, if_pos (by omega)]
/-- Behind some bits of a byte. -/
def rBits (r c : Nat) : Nat → Nat
  | 0 => r
  | k + 1 => rBit (rBits r c k) (c / 2 ^ k % 2)
theorem rBits_eq (r c : Nat) : ∀ k, rBits r c k = crI k (r ^^^ c) ^^^ (c / 2 ^ k)
  | 0 => by simp [rBits, crI, Nat.xor_assoc]
  | k + 1 => by
    rw [rBits, rBit_eq (by omega), rBits_eq r c k, crI, ← cr1_xor]
    congr 1
    rw [Nat.xor_assoc]
    congr 1
    rw [Nat.pow_succ, ← Nat.div_div_eq_div_mul]
    generalize c / 2 ^ k = z
    apply Nat.eq_of_testBit_eq
    intro i
    rw [Nat.testBit_xor, show (2 : Nat) * (z / 2) = 2 ^ 1 * (z / 2 ^ 1) from rfl, Nat.testBit_two_pow_mul, Nat.testBit_div_two_pow, show z % 2 = z % 2 ^ 1 from rfl, Nat.testBit_mod_two_pow]
    by_cases hi : i < 1
    · simp [hi, show ¬ 1 ≤ i by omega]
    · simp [hi, show 1 ≤ i by omega, show i - 1 + 1 = i by omega]
theorem rByte_eq {r : Nat} {c : Int} (hc : 0 ≤ c ∧ c ≤ 255) : rBits r c.toNat 8 = crB r c := by
  rw [rBits_eq, crB_eq hc, Nat.div_eq_of_lt (show c.toNat < 2 ^ 8 by omega), Nat.xor_zero]
end Go.Proofs.Ytldhfdagmaklaaa.VM
end
section
set_option maxHeartbeats 8000000
set_option linter.unusedVariables false
set_option linter.unusedSimpArgs false

/- sort.Search. -/
namespace Go.Proofs.Ytldhfdagmaklaaa.VM
open Go Go.Proofs AM
set_option maxRecDepth 100000
theorem v_Search {H : Hp} {F : FuncId} {fi cp : List V} {n : Nat} {p : Nat → Bool} (hn : n < 2 ^ 60) {k : Nat} (hk : k ≤ n) (hF : ∀ j, j < n → VC Try.prog prims F (fi ++ [i6 j] ++ cp) H fun u T => u = bo (p j) ∧ T = H)
    (h0 : ∀ j, j < k → p j = false) (h1 : ∀ j, k ≤ j → j < n → p j = true) : VC Try.prog prims 123 [i6 n, .fn F fi cp] H fun u T => u = i6 k ∧ T = H := by
  refine v_enter hC [] (fun _ _ => kn_none rfl) Try.func123 rfl ok123 (Nat.le_of_ble_eq_true rfl) fun hcl hbl => ?_
  simp
  refine v_loopX hC (fun (X : Nat × Nat) e T => T = H ∧ e 1 = .fn F fi cp ∧ e 5 = i6 X.1 ∧ e 6 = i6 X.2 ∧ X.1 ≤ k ∧ k ≤ X.2 ∧ X.2 ≤ n) (fun X => X.2 - X.1) (0, n) (G.refl ?_) ?_
  · simp [hk]
  · rintro ⟨i, j⟩ e T ⟨rfl, g1, g5, g6, hi, hj, hjn⟩
    simp only at g5 g6 hi hj hjn
    simp [g5, g6]
    refine CondV.dec (fun hlt => ?_) (fun hge => ?_)
    · obtain ⟨h, hh⟩ : ∃ h : Nat, (i + j) / 2 = h := ⟨_, rfl⟩
      have w1 : IntKind.i64.wrap ((i : Int) + j) = ((i + j : Nat) : Int) := by rw [w64 (by omega)]; omega
      have w2 : IntKind.u64.wrap (((i + j : Nat) : Int)) = ((i + j : Nat) : Int) := by simp [IntKind.wrap, IntKind.bits, IntKind.signed]; omega
      have w3 : (((i + j : Nat) : Int)).fdiv (2 ^ min 1 IntKind.u64.bits) = ((h : Nat) : Int) := by
        rw [show min 1 IntKind.u64.bits = 1 from rfl, Int.fdiv_eq_ediv_of_nonneg _ (by decide)]; omega
      rw [Int.natCast_add] at w1 w2 w3
      simp [g1, g5, g6, w1, w2, w3, w64 (n := (h : Int)) (by omega)]
      have hFh := hF h (by omega)
      simp only [List.append_assoc, List.cons_append, List.nil_append, i6] at hFh
      refine CALLv.at hFh fun u T' hu => ?_
      obtain ⟨rfl, rfl⟩ := hu
      simp
      refine CondV.on (fun hp => ?_) (fun hp => ?_)
      · have hp : p h = false := by simpa using hp
        have hhk : h < k := Nat.lt_of_not_le fun hle => by rw [h1 h hle (by omega)] at hp; cases hp
        simp [g1, g5, g6, w64 (n := (h : Int) + 1) (by omega)]
        refine GH.refl ⟨(h + 1, j), ⟨rfl, ?_, ?_, ?_, hhk, hj, hjn⟩, by simp only; omega⟩ <;> simp [g1, g6]
      · have hp : p h = true := by simpa using hp
        have hhk : k ≤ h := Nat.le_of_not_lt fun hlt => by rw [h0 h hlt] at hp; cases hp
        simp [g1, g5, g6]
        refine GH.refl ⟨(i, h), ⟨rfl, ?_, ?_, ?_, hi, hhk, by omega⟩, by simp only; omega⟩ <;> simp [g1, g5]
    · have hki : i = k := by omega
      simp [g5, Try.results123]
      exact GV.refl ⟨by simp [hki], rfl⟩
end Go.Proofs.Ytldhfdagmaklaaa.VM
end
