/- What the proof of LeafTurns rests on, part 5 of 7. -/
import Derived.Test.YtenbclcfhjdcaaaLeafTurnsP4
import Derived.KernelRfl
import Derived.Test.YtenbclcfhjdcaaaProg
section
set_option maxHeartbeats 8000000
set_option linter.unusedVariables false
set_option linter.unusedSimpArgs false
/- What is asked of the seat's types and functions. -/
namespace Go.Proofs.Ytenbclcfhjdcaaa.AM
open Go Go.Proofs
attribute [simp] Instr.fill
@[simp] theorem sz2 : szOf Try.prog 2 = some 1 := by kernel_rfl
@[simp] theorem ag2 : aggOf Try.prog 2 = some false := by kernel_rfl
@[simp] theorem zv2 : zeroOf Try.prog 2 = some (.int .i64 0) := by kernel_rfl
@[simp low] theorem zn2 (n : Nat) : zerosOf Try.prog 2 n = some (List.replicate n [.int .i64 0]).flatten := by kernel_rfl
@[simp] theorem ze2 : zerosOf Try.prog 2 1 = some [.int .i64 0] := by kernel_rfl
@[simp] theorem by2 : byOf Try.prog 2 = some 8 := by kernel_rfl
attribute [simp] Try.underlying2
@[simp] theorem sz3 : szOf Try.prog 3 = some 1 := by kernel_rfl
@[simp] theorem ag3 : aggOf Try.prog 3 = some false := by kernel_rfl
@[simp] theorem zv3 : zeroOf Try.prog 3 = some (.int .i64 0) := by kernel_rfl
@[simp low] theorem zn3 (n : Nat) : zerosOf Try.prog 3 n = some (List.replicate n [.int .i64 0]).flatten := by kernel_rfl
@[simp] theorem ze3 : zerosOf Try.prog 3 1 = some [.int .i64 0] := by kernel_rfl
@[simp] theorem by3 : byOf Try.prog 3 = some 8 := by kernel_rfl
attribute [simp] Try.underlying3
@[simp] theorem sz4 : szOf Try.prog 4 = some 1 := by kernel_rfl
@[simp] theorem ag4 : aggOf Try.prog 4 = some false := by kernel_rfl
@[simp] theorem zv4 : zeroOf Try.prog 4 = some (.bool false) := by kernel_rfl
@[simp low] theorem zn4 (n : Nat) : zerosOf Try.prog 4 n = some (List.replicate n [.bool false]).flatten := by kernel_rfl
@[simp] theorem ze4 : zerosOf Try.prog 4 1 = some [.bool false] := by kernel_rfl
@[simp] theorem by4 : byOf Try.prog 4 = some 1 := by kernel_rfl
attribute [simp] Try.underlying4
@[simp] theorem sz5 : szOf Try.prog 5 = some 1 := by kernel_rfl
@[simp] theorem ag5 : aggOf Try.prog 5 = some false := by kernel_rfl
@[simp] theorem zv5 : zeroOf Try.prog 5 = some (.int .u8 0) := by kernel_rfl
@[simp low] theorem zn5 (n : Nat) : zerosOf Try.prog 5 n = some (List.replicate n [.int .u8 0]).flatten := by kernel_rfl
@[simp] theorem ze5 : zerosOf Try.prog 5 1 = some [.int .u8 0] := by kernel_rfl
@[simp] theorem by5 : byOf Try.prog 5 = some 1 := by kernel_rfl
attribute [simp] Try.underlying5
@[simp] theorem sz6 : szOf Try.prog 6 = some 1 := by kernel_rfl
@[simp] theorem ag6 : aggOf Try.prog 6 = some false := by kernel_rfl
@[simp] theorem zv6 : zeroOf Try.prog 6 = some (.int .u8 0) := by kernel_rfl
@[simp low] theorem zn6 (n : Nat) : zerosOf Try.prog 6 n = some (List.replicate n [.int .u8 0]).flatten := by kernel_rfl
@[simp] theorem ze6 : zerosOf Try.prog 6 1 = some [.int .u8 0] := by kernel_rfl
@[simp] theorem by6 : byOf Try.prog 6 = some 1 := by kernel_rfl
attribute [simp] Try.underlying6
@[simp] theorem sz7 : szOf Try.prog 7 = some 4 := by kernel_rfl
@[simp] theorem ag7 : aggOf Try.prog 7 = some true := by kernel_rfl
@[simp] theorem zv7 : zeroOf Try.prog 7 = some (.agg #[.int .i64 0, .int .i64 0, .bool false, .int .u8 0]) := by kernel_rfl
@[simp low] theorem zn7 (n : Nat) : zerosOf Try.prog 7 n = some (List.replicate n [.int .i64 0, .int .i64 0, .bool false, .int .u8 0]).flatten := by kernel_rfl
@[simp] theorem ze7 : zerosOf Try.prog 7 1 = some [.int .i64 0, .int .i64 0, .bool false, .int .u8 0] := by kernel_rfl
@[simp] theorem pl7 : placesOf Try.prog 7 = some [(0, 1), (1, 1), (2, 1), (3, 1)] := by kernel_rfl
@[simp] theorem bu7 (ps : Array (Nat × Value)) : buildV Try.prog 7 ps = if (ps.all fun (_, x) => !junkB x) = true then (Instr.fill (fun x => [(0, 1), (1, 1), (2, 1), (3, 1)].toArray[x]?) #[.int .i64 0, .int .i64 0, .bool false, .int .u8 0] ps.toList).map fun cs => .agg cs else none := buildV_struct zv7 (by kernel_rfl) pl7
@[simp] theorem by7 : byOf Try.prog 7 = some 24 := by kernel_rfl
@[simp] theorem fo7_0 : fieldOf Try.prog 7 0 = some (0, 2) := by kernel_rfl
@[simp] theorem fo7_1 : fieldOf Try.prog 7 1 = some (1, 3) := by kernel_rfl
@[simp] theorem fo7_2 : fieldOf Try.prog 7 2 = some (2, 4) := by kernel_rfl
@[simp] theorem fo7_3 : fieldOf Try.prog 7 3 = some (3, 6) := by kernel_rfl
attribute [simp] Try.underlying7
@[simp] theorem sz8 : szOf Try.prog 8 = some 4 := by kernel_rfl
@[simp] theorem ag8 : aggOf Try.prog 8 = some true := by kernel_rfl
@[simp] theorem zv8 : zeroOf Try.prog 8 = some (.agg #[.int .i64 0, .int .i64 0, .bool false, .int .u8 0]) := by kernel_rfl
@[simp low] theorem zn8 (n : Nat) : zerosOf Try.prog 8 n = some (List.replicate n [.int .i64 0, .int .i64 0, .bool false, .int .u8 0]).flatten := by kernel_rfl
@[simp] theorem ze8 : zerosOf Try.prog 8 1 = some [.int .i64 0, .int .i64 0, .bool false, .int .u8 0] := by kernel_rfl
@[simp] theorem pl8 : placesOf Try.prog 8 = some [(0, 1), (1, 1), (2, 1), (3, 1)] := by kernel_rfl
@[simp] theorem bu8 (ps : Array (Nat × Value)) : buildV Try.prog 8 ps = if (ps.all fun (_, x) => !junkB x) = true then (Instr.fill (fun x => [(0, 1), (1, 1), (2, 1), (3, 1)].toArray[x]?) #[.int .i64 0, .int .i64 0, .bool false, .int .u8 0] ps.toList).map fun cs => .agg cs else none := buildV_struct zv8 (by kernel_rfl) pl8
@[simp] theorem by8 : byOf Try.prog 8 = some 24 := by kernel_rfl
@[simp] theorem fo8_0 : fieldOf Try.prog 8 0 = some (0, 2) := by kernel_rfl
@[simp] theorem fo8_1 : fieldOf Try.prog 8 1 = some (1, 3) := by kernel_rfl
@[simp] theorem fo8_2 : fieldOf Try.prog 8 2 = some (2, 4) := by kernel_rfl
@[simp] theorem fo8_3 : fieldOf Try.prog 8 3 = some (3, 6) := by kernel_rfl
attribute [simp] Try.underlying8
@[simp] theorem sz9 : szOf Try.prog 9 = some 1 := by kernel_rfl
@[simp] theorem ag9 : aggOf Try.prog 9 = some false := by kernel_rfl
@[simp] theorem zv9 : zeroOf Try.prog 9 = some (.string ⟨#[]⟩) := by kernel_rfl
@[simp low] theorem zn9 (n : Nat) : zerosOf Try.prog 9 n = some (List.replicate n [.string ⟨#[]⟩]).flatten := by kernel_rfl
@[simp] theorem ze9 : zerosOf Try.prog 9 1 = some [.string ⟨#[]⟩] := by kernel_rfl
@[simp] theorem by9 : byOf Try.prog 9 = some 16 := by kernel_rfl
attribute [simp] Try.underlying9
@[simp] theorem sz10 : szOf Try.prog 10 = some 1 := by kernel_rfl
@[simp] theorem ag10 : aggOf Try.prog 10 = some false := by kernel_rfl
@[simp] theorem zv10 : zeroOf Try.prog 10 = some (.string ⟨#[]⟩) := by kernel_rfl
@[simp low] theorem zn10 (n : Nat) : zerosOf Try.prog 10 n = some (List.replicate n [.string ⟨#[]⟩]).flatten := by kernel_rfl
@[simp] theorem ze10 : zerosOf Try.prog 10 1 = some [.string ⟨#[]⟩] := by kernel_rfl
@[simp] theorem by10 : byOf Try.prog 10 = some 16 := by kernel_rfl
attribute [simp] Try.underlying10
@[simp] theorem sz11 : szOf Try.prog 11 = some 1 := by kernel_rfl
@[simp] theorem ag11 : aggOf Try.prog 11 = some false := by kernel_rfl
@[simp] theorem zv11 : zeroOf Try.prog 11 = some (.string ⟨#[]⟩) := by kernel_rfl
@[simp low] theorem zn11 (n : Nat) : zerosOf Try.prog 11 n = some (List.replicate n [.string ⟨#[]⟩]).flatten := by kernel_rfl
@[simp] theorem ze11 : zerosOf Try.prog 11 1 = some [.string ⟨#[]⟩] := by kernel_rfl
@[simp] theorem by11 : byOf Try.prog 11 = some 16 := by kernel_rfl
attribute [simp] Try.underlying11
@[simp] theorem sz12 : szOf Try.prog 12 = some 1 := by kernel_rfl
@[simp] theorem ag12 : aggOf Try.prog 12 = some false := by kernel_rfl
@[simp] theorem zv12 : zeroOf Try.prog 12 = some (.int .u64 0) := by kernel_rfl
@[simp low] theorem zn12 (n : Nat) : zerosOf Try.prog 12 n = some (List.replicate n [.int .u64 0]).flatten := by kernel_rfl
@[simp] theorem ze12 : zerosOf Try.prog 12 1 = some [.int .u64 0] := by kernel_rfl
@[simp] theorem by12 : byOf Try.prog 12 = some 8 := by kernel_rfl
attribute [simp] Try.underlying12
@[simp] theorem sz13 : szOf Try.prog 13 = some 2 := by kernel_rfl
@[simp] theorem ag13 : aggOf Try.prog 13 = some true := by kernel_rfl
@[simp] theorem zv13 : zeroOf Try.prog 13 = some (.agg #[.string ⟨#[]⟩, .int .u64 0]) := by kernel_rfl
@[simp low] theorem zn13 (n : Nat) : zerosOf Try.prog 13 n = some (List.replicate n [.string ⟨#[]⟩, .int .u64 0]).flatten := by kernel_rfl
@[simp] theorem ze13 : zerosOf Try.prog 13 1 = some [.string ⟨#[]⟩, .int .u64 0] := by kernel_rfl
@[simp] theorem pl13 : placesOf Try.prog 13 = some [(0, 1), (1, 1)] := by kernel_rfl
@[simp] theorem bu13 (ps : Array (Nat × Value)) : buildV Try.prog 13 ps = if (ps.all fun (_, x) => !junkB x) = true then (Instr.fill (fun x => [(0, 1), (1, 1)].toArray[x]?) #[.string ⟨#[]⟩, .int .u64 0] ps.toList).map fun cs => .agg cs else none := buildV_struct zv13 (by kernel_rfl) pl13
@[simp] theorem by13 : byOf Try.prog 13 = some 24 := by kernel_rfl
@[simp] theorem fo13_0 : fieldOf Try.prog 13 0 = some (0, 9) := by kernel_rfl
@[simp] theorem fo13_1 : fieldOf Try.prog 13 1 = some (1, 12) := by kernel_rfl
attribute [simp] Try.underlying13
@[simp] theorem sz14 : szOf Try.prog 14 = some 2 := by kernel_rfl
@[simp] theorem ag14 : aggOf Try.prog 14 = some true := by kernel_rfl
@[simp] theorem zv14 : zeroOf Try.prog 14 = some (.agg #[.string ⟨#[]⟩, .int .u64 0]) := by kernel_rfl
@[simp low] theorem zn14 (n : Nat) : zerosOf Try.prog 14 n = some (List.replicate n [.string ⟨#[]⟩, .int .u64 0]).flatten := by kernel_rfl
@[simp] theorem ze14 : zerosOf Try.prog 14 1 = some [.string ⟨#[]⟩, .int .u64 0] := by kernel_rfl
@[simp] theorem pl14 : placesOf Try.prog 14 = some [(0, 1), (1, 1)] := by kernel_rfl
@[simp] theorem bu14 (ps : Array (Nat × Value)) : buildV Try.prog 14 ps = if (ps.all fun (_, x) => !junkB x) = true then (Instr.fill (fun x => [(0, 1), (1, 1)].toArray[x]?) #[.string ⟨#[]⟩, .int .u64 0] ps.toList).map fun cs => .agg cs else none := buildV_struct zv14 (by kernel_rfl) pl14
@[simp] theorem by14 : byOf Try.prog 14 = some 24 := by kernel_rfl
@[simp] theorem fo14_0 : fieldOf Try.prog 14 0 = some (0, 9) := by kernel_rfl
@[simp] theorem fo14_1 : fieldOf Try.prog 14 1 = some (1, 12) := by kernel_rfl
attribute [simp] Try.underlying14
@[simp] theorem sz15 : szOf Try.prog 15 = some 1 := by kernel_rfl
@[simp] theorem ag15 : aggOf Try.prog 15 = some false := by kernel_rfl
@[simp] theorem zv15 : zeroOf Try.prog 15 = some (.pointer none) := by kernel_rfl
@[simp low] theorem zn15 (n : Nat) : zerosOf Try.prog 15 n = some (List.replicate n [.pointer none]).flatten := by kernel_rfl
@[simp] theorem ze15 : zerosOf Try.prog 15 1 = some [.pointer none] := by kernel_rfl
@[simp] theorem by15 : byOf Try.prog 15 = some 8 := by kernel_rfl
attribute [simp] Try.underlying15
@[simp] theorem sz16 : szOf Try.prog 16 = some 1 := by kernel_rfl
@[simp] theorem ag16 : aggOf Try.prog 16 = some false := by kernel_rfl
@[simp] theorem zv16 : zeroOf Try.prog 16 = some (.pointer none) := by kernel_rfl
@[simp low] theorem zn16 (n : Nat) : zerosOf Try.prog 16 n = some (List.replicate n [.pointer none]).flatten := by kernel_rfl
@[simp] theorem ze16 : zerosOf Try.prog 16 1 = some [.pointer none] := by kernel_rfl
@[simp] theorem by16 : byOf Try.prog 16 = some 8 := by kernel_rfl
attribute [simp] Try.underlying16
@[simp] theorem sz17 : szOf Try.prog 17 = some 1 := by kernel_rfl
@[simp] theorem ag17 : aggOf Try.prog 17 = some false := by kernel_rfl
@[simp] theorem zv17 : zeroOf Try.prog 17 = some (.pointer none) := by kernel_rfl
@[simp low] theorem zn17 (n : Nat) : zerosOf Try.prog 17 n = some (List.replicate n [.pointer none]).flatten := by kernel_rfl
@[simp] theorem ze17 : zerosOf Try.prog 17 1 = some [.pointer none] := by kernel_rfl
@[simp] theorem by17 : byOf Try.prog 17 = some 8 := by kernel_rfl
attribute [simp] Try.underlying17
@[simp] theorem sz18 : szOf Try.prog 18 = some 1 := by kernel_rfl
@[simp] theorem ag18 : aggOf Try.prog 18 = some true := by kernel_rfl
@[simp] theorem zv18 : zeroOf Try.prog 18 = some (.agg #[.pointer none]) := by kernel_rfl
@[simp low] theorem zn18 (n : Nat) : zerosOf Try.prog 18 n = some (List.replicate n [.pointer none]).flatten := by kernel_rfl
@[simp] theorem ze18 : zerosOf Try.prog 18 1 = some [.pointer none] := by kernel_rfl
@[simp] theorem pl18 : placesOf Try.prog 18 = some [(0, 1)] := by kernel_rfl
@[simp] theorem bu18 (ps : Array (Nat × Value)) : buildV Try.prog 18 ps = if (ps.all fun (_, x) => !junkB x) = true then (Instr.fill (fun x => [(0, 1)].toArray[x]?) #[.pointer none] ps.toList).map fun cs => .agg cs else none := buildV_struct zv18 (by kernel_rfl) pl18
@[simp] theorem by18 : byOf Try.prog 18 = some 8 := by kernel_rfl
@[simp] theorem fo18_0 : fieldOf Try.prog 18 0 = some (0, 17) := by kernel_rfl
attribute [simp] Try.underlying18
@[simp] theorem sz19 : szOf Try.prog 19 = some 1 := by kernel_rfl
@[simp] theorem ag19 : aggOf Try.prog 19 = some true := by kernel_rfl
@[simp] theorem zv19 : zeroOf Try.prog 19 = some (.agg #[.pointer none]) := by kernel_rfl
@[simp low] theorem zn19 (n : Nat) : zerosOf Try.prog 19 n = some (List.replicate n [.pointer none]).flatten := by kernel_rfl
@[simp] theorem ze19 : zerosOf Try.prog 19 1 = some [.pointer none] := by kernel_rfl
@[simp] theorem pl19 : placesOf Try.prog 19 = some [(0, 1)] := by kernel_rfl
@[simp] theorem bu19 (ps : Array (Nat × Value)) : buildV Try.prog 19 ps = if (ps.all fun (_, x) => !junkB x) = true then (Instr.fill (fun x => [(0, 1)].toArray[x]?) #[.pointer none] ps.toList).map fun cs => .agg cs else none := buildV_struct zv19 (by kernel_rfl) pl19
@[simp] theorem by19 : byOf Try.prog 19 = some 8 := by kernel_rfl
@[simp] theorem fo19_0 : fieldOf Try.prog 19 0 = some (0, 17) := by kernel_rfl
attribute [simp] Try.underlying19
@[simp] theorem sz21 : szOf Try.prog 21 = some 1 := by kernel_rfl
@[simp] theorem ag21 : aggOf Try.prog 21 = some false := by kernel_rfl
@[simp] theorem zv21 : zeroOf Try.prog 21 = some (.int .i32 0) := by kernel_rfl
@[simp low] theorem zn21 (n : Nat) : zerosOf Try.prog 21 n = some (List.replicate n [.int .i32 0]).flatten := by kernel_rfl
@[simp] theorem ze21 : zerosOf Try.prog 21 1 = some [.int .i32 0] := by kernel_rfl
@[simp] theorem by21 : byOf Try.prog 21 = some 4 := by kernel_rfl
attribute [simp] Try.underlying21
@[simp] theorem sz22 : szOf Try.prog 22 = some 1 := by kernel_rfl
@[simp] theorem ag22 : aggOf Try.prog 22 = some false := by kernel_rfl
@[simp] theorem zv22 : zeroOf Try.prog 22 = some (.slice none 0 0) := by kernel_rfl
@[simp low] theorem zn22 (n : Nat) : zerosOf Try.prog 22 n = some (List.replicate n [.slice none 0 0]).flatten := by kernel_rfl
@[simp] theorem ze22 : zerosOf Try.prog 22 1 = some [.slice none 0 0] := by kernel_rfl
@[simp] theorem by22 : byOf Try.prog 22 = some 24 := by kernel_rfl
attribute [simp] Try.underlying22
@[simp] theorem sz23 : szOf Try.prog 23 = some 1 := by kernel_rfl
@[simp] theorem ag23 : aggOf Try.prog 23 = some false := by kernel_rfl
@[simp] theorem zv23 : zeroOf Try.prog 23 = some (.slice none 0 0) := by kernel_rfl
@[simp low] theorem zn23 (n : Nat) : zerosOf Try.prog 23 n = some (List.replicate n [.slice none 0 0]).flatten := by kernel_rfl
@[simp] theorem ze23 : zerosOf Try.prog 23 1 = some [.slice none 0 0] := by kernel_rfl
@[simp] theorem by23 : byOf Try.prog 23 = some 24 := by kernel_rfl
attribute [simp] Try.underlying23
@[simp] theorem sz24 : szOf Try.prog 24 = some 1 := by kernel_rfl
@[simp] theorem ag24 : aggOf Try.prog 24 = some false := by kernel_rfl
@[simp] theorem zv24 : zeroOf Try.prog 24 = some (.pointer none) := by kernel_rfl
@[simp low] theorem zn24 (n : Nat) : zerosOf Try.prog 24 n = some (List.replicate n [.pointer none]).flatten := by kernel_rfl
@[simp] theorem ze24 : zerosOf Try.prog 24 1 = some [.pointer none] := by kernel_rfl
@[simp] theorem by24 : byOf Try.prog 24 = some 8 := by kernel_rfl
attribute [simp] Try.underlying24
@[simp] theorem sz25 : szOf Try.prog 25 = some 1 := by kernel_rfl
@[simp] theorem ag25 : aggOf Try.prog 25 = some false := by kernel_rfl
@[simp] theorem zv25 : zeroOf Try.prog 25 = some (.int .i64 0) := by kernel_rfl
@[simp low] theorem zn25 (n : Nat) : zerosOf Try.prog 25 n = some (List.replicate n [.int .i64 0]).flatten := by kernel_rfl
@[simp] theorem ze25 : zerosOf Try.prog 25 1 = some [.int .i64 0] := by kernel_rfl
@[simp] theorem by25 : byOf Try.prog 25 = some 8 := by kernel_rfl
attribute [simp] Try.underlying25
@[simp] theorem sz35 : szOf Try.prog 35 = some 1 := by kernel_rfl
@[simp] theorem ag35 : aggOf Try.prog 35 = some false := by kernel_rfl
@[simp] theorem zv35 : zeroOf Try.prog 35 = some (.slice none 0 0) := by kernel_rfl
@[simp low] theorem zn35 (n : Nat) : zerosOf Try.prog 35 n = some (List.replicate n [.slice none 0 0]).flatten := by kernel_rfl
@[simp] theorem ze35 : zerosOf Try.prog 35 1 = some [.slice none 0 0] := by kernel_rfl
@[simp] theorem by35 : byOf Try.prog 35 = some 24 := by kernel_rfl
attribute [simp] Try.underlying35
@[simp] theorem sz36 : szOf Try.prog 36 = some 2 := by kernel_rfl
@[simp] theorem ag36 : aggOf Try.prog 36 = some true := by kernel_rfl
@[simp] theorem zv36 : zeroOf Try.prog 36 = some (.agg #[.bool false, .slice none 0 0]) := by kernel_rfl
@[simp low] theorem zn36 (n : Nat) : zerosOf Try.prog 36 n = some (List.replicate n [.bool false, .slice none 0 0]).flatten := by kernel_rfl
@[simp] theorem ze36 : zerosOf Try.prog 36 1 = some [.bool false, .slice none 0 0] := by kernel_rfl
@[simp] theorem pl36 : placesOf Try.prog 36 = some [(0, 1), (1, 1)] := by kernel_rfl
@[simp] theorem bu36 (ps : Array (Nat × Value)) : buildV Try.prog 36 ps = if (ps.all fun (_, x) => !junkB x) = true then (Instr.fill (fun x => [(0, 1), (1, 1)].toArray[x]?) #[.bool false, .slice none 0 0] ps.toList).map fun cs => .agg cs else none := buildV_struct zv36 (by kernel_rfl) pl36
@[simp] theorem by36 : byOf Try.prog 36 = some 32 := by kernel_rfl
@[simp] theorem fo36_0 : fieldOf Try.prog 36 0 = some (0, 4) := by kernel_rfl
@[simp] theorem fo36_1 : fieldOf Try.prog 36 1 = some (1, 35) := by kernel_rfl
attribute [simp] Try.underlying36
@[simp] theorem sz37 : szOf Try.prog 37 = some 2 := by kernel_rfl
@[simp] theorem ag37 : aggOf Try.prog 37 = some true := by kernel_rfl
@[simp] theorem zv37 : zeroOf Try.prog 37 = some (.agg #[.bool false, .slice none 0 0]) := by kernel_rfl
@[simp low] theorem zn37 (n : Nat) : zerosOf Try.prog 37 n = some (List.replicate n [.bool false, .slice none 0 0]).flatten := by kernel_rfl
@[simp] theorem ze37 : zerosOf Try.prog 37 1 = some [.bool false, .slice none 0 0] := by kernel_rfl
@[simp] theorem pl37 : placesOf Try.prog 37 = some [(0, 1), (1, 1)] := by kernel_rfl
@[simp] theorem bu37 (ps : Array (Nat × Value)) : buildV Try.prog 37 ps = if (ps.all fun (_, x) => !junkB x) = true then (Instr.fill (fun x => [(0, 1), (1, 1)].toArray[x]?) #[.bool false, .slice none 0 0] ps.toList).map fun cs => .agg cs else none := buildV_struct zv37 (by kernel_rfl) pl37
@[simp] theorem by37 : byOf Try.prog 37 = some 32 := by kernel_rfl
@[simp] theorem fo37_0 : fieldOf Try.prog 37 0 = some (0, 4) := by kernel_rfl
@[simp] theorem fo37_1 : fieldOf Try.prog 37 1 = some (1, 35) := by kernel_rfl
attribute [simp] Try.underlying37
@[simp] theorem sz38 : szOf Try.prog 38 = some 2 := by kernel_rfl
@[simp] theorem ag38 : aggOf Try.prog 38 = some true := by kernel_rfl
@[simp] theorem zv38 : zeroOf Try.prog 38 = some (.agg #[.int .i64 0, .int .i64 0]) := by kernel_rfl
@[simp low] theorem zn38 (n : Nat) : zerosOf Try.prog 38 n = some (List.replicate n [.int .i64 0, .int .i64 0]).flatten := by kernel_rfl
@[simp] theorem ze38 : zerosOf Try.prog 38 1 = some [.int .i64 0, .int .i64 0] := by kernel_rfl
@[simp] theorem pl38 : placesOf Try.prog 38 = some [(0, 1), (1, 1)] := by kernel_rfl
@[simp] theorem bu38 (ps : Array (Nat × Value)) : buildV Try.prog 38 ps = if (ps.all fun (_, x) => !junkB x) = true then (Instr.fill (fun x => [(0, 1), (1, 1)].toArray[x]?) #[.int .i64 0, .int .i64 0] ps.toList).map fun cs => .agg cs else none := buildV_struct zv38 (by kernel_rfl) pl38
@[simp] theorem by38 : byOf Try.prog 38 = some 16 := by kernel_rfl
@[simp] theorem fo38_0 : fieldOf Try.prog 38 0 = some (0, 3) := by kernel_rfl
@[simp] theorem fo38_1 : fieldOf Try.prog 38 1 = some (1, 3) := by kernel_rfl
attribute [simp] Try.underlying38
@[simp] theorem sz39 : szOf Try.prog 39 = some 2 := by kernel_rfl
@[simp] theorem ag39 : aggOf Try.prog 39 = some true := by kernel_rfl
@[simp] theorem zv39 : zeroOf Try.prog 39 = some (.agg #[.int .i64 0, .int .i64 0]) := by kernel_rfl
@[simp low] theorem zn39 (n : Nat) : zerosOf Try.prog 39 n = some (List.replicate n [.int .i64 0, .int .i64 0]).flatten := by kernel_rfl
@[simp] theorem ze39 : zerosOf Try.prog 39 1 = some [.int .i64 0, .int .i64 0] := by kernel_rfl
@[simp] theorem pl39 : placesOf Try.prog 39 = some [(0, 1), (1, 1)] := by kernel_rfl
@[simp] theorem bu39 (ps : Array (Nat × Value)) : buildV Try.prog 39 ps = if (ps.all fun (_, x) => !junkB x) = true then (Instr.fill (fun x => [(0, 1), (1, 1)].toArray[x]?) #[.int .i64 0, .int .i64 0] ps.toList).map fun cs => .agg cs else none := buildV_struct zv39 (by kernel_rfl) pl39
@[simp] theorem by39 : byOf Try.prog 39 = some 16 := by kernel_rfl
@[simp] theorem fo39_0 : fieldOf Try.prog 39 0 = some (0, 3) := by kernel_rfl
@[simp] theorem fo39_1 : fieldOf Try.prog 39 1 = some (1, 3) := by kernel_rfl
attribute [simp] Try.underlying39
@[simp] theorem sz40 : szOf Try.prog 40 = some 1 := by kernel_rfl
@[simp] theorem ag40 : aggOf Try.prog 40 = some false := by kernel_rfl
@[simp] theorem zv40 : zeroOf Try.prog 40 = some (.slice none 0 0) := by kernel_rfl
@[simp low] theorem zn40 (n : Nat) : zerosOf Try.prog 40 n = some (List.replicate n [.slice none 0 0]).flatten := by kernel_rfl
@[simp] theorem ze40 : zerosOf Try.prog 40 1 = some [.slice none 0 0] := by kernel_rfl
@[simp] theorem by40 : byOf Try.prog 40 = some 24 := by kernel_rfl
attribute [simp] Try.underlying40
@[simp] theorem sz41 : szOf Try.prog 41 = some 2 := by kernel_rfl
@[simp] theorem ag41 : aggOf Try.prog 41 = some true := by kernel_rfl
@[simp] theorem zv41 : zeroOf Try.prog 41 = some (.agg #[.bool false, .slice none 0 0]) := by kernel_rfl
@[simp low] theorem zn41 (n : Nat) : zerosOf Try.prog 41 n = some (List.replicate n [.bool false, .slice none 0 0]).flatten := by kernel_rfl
@[simp] theorem ze41 : zerosOf Try.prog 41 1 = some [.bool false, .slice none 0 0] := by kernel_rfl
@[simp] theorem pl41 : placesOf Try.prog 41 = some [(0, 1), (1, 1)] := by kernel_rfl
@[simp] theorem bu41 (ps : Array (Nat × Value)) : buildV Try.prog 41 ps = if (ps.all fun (_, x) => !junkB x) = true then (Instr.fill (fun x => [(0, 1), (1, 1)].toArray[x]?) #[.bool false, .slice none 0 0] ps.toList).map fun cs => .agg cs else none := buildV_struct zv41 (by kernel_rfl) pl41
@[simp] theorem by41 : byOf Try.prog 41 = some 32 := by kernel_rfl
@[simp] theorem fo41_0 : fieldOf Try.prog 41 0 = some (0, 4) := by kernel_rfl
@[simp] theorem fo41_1 : fieldOf Try.prog 41 1 = some (1, 40) := by kernel_rfl
attribute [simp] Try.underlying41
@[simp] theorem sz42 : szOf Try.prog 42 = some 2 := by kernel_rfl
@[simp] theorem ag42 : aggOf Try.prog 42 = some true := by kernel_rfl
@[simp] theorem zv42 : zeroOf Try.prog 42 = some (.agg #[.bool false, .slice none 0 0]) := by kernel_rfl
@[simp low] theorem zn42 (n : Nat) : zerosOf Try.prog 42 n = some (List.replicate n [.bool false, .slice none 0 0]).flatten := by kernel_rfl
@[simp] theorem ze42 : zerosOf Try.prog 42 1 = some [.bool false, .slice none 0 0] := by kernel_rfl
@[simp] theorem pl42 : placesOf Try.prog 42 = some [(0, 1), (1, 1)] := by kernel_rfl
@[simp] theorem bu42 (ps : Array (Nat × Value)) : buildV Try.prog 42 ps = if (ps.all fun (_, x) => !junkB x) = true then (Instr.fill (fun x => [(0, 1), (1, 1)].toArray[x]?) #[.bool false, .slice none 0 0] ps.toList).map fun cs => .agg cs else none := buildV_struct zv42 (by kernel_rfl) pl42
@[simp] theorem by42 : byOf Try.prog 42 = some 32 := by kernel_rfl
@[simp] theorem fo42_0 : fieldOf Try.prog 42 0 = some (0, 4) := by kernel_rfl
@[simp] theorem fo42_1 : fieldOf Try.prog 42 1 = some (1, 40) := by kernel_rfl
attribute [simp] Try.underlying42
@[simp] theorem sz46 : szOf Try.prog 46 = some 2 := by kernel_rfl
@[simp] theorem ag46 : aggOf Try.prog 46 = some true := by kernel_rfl
@[simp] theorem zv46 : zeroOf Try.prog 46 = some (.agg #[.int .i64 0, .int .i64 0]) := by kernel_rfl
@[simp low] theorem zn46 (n : Nat) : zerosOf Try.prog 46 n = some (List.replicate n [.int .i64 0, .int .i64 0]).flatten := by kernel_rfl
@[simp] theorem ze46 : zerosOf Try.prog 46 1 = some [.int .i64 0, .int .i64 0] := by kernel_rfl
@[simp] theorem pl46 : placesOf Try.prog 46 = some [(0, 1), (1, 1)] := by kernel_rfl
@[simp] theorem bu46 (ps : Array (Nat × Value)) : buildV Try.prog 46 ps = if (ps.all fun (_, x) => !junkB x) = true then (Instr.fill (fun x => [(0, 1), (1, 1)].toArray[x]?) #[.int .i64 0, .int .i64 0] ps.toList).map fun cs => .agg cs else none := buildV_struct zv46 (by kernel_rfl) pl46
@[simp] theorem by46 : byOf Try.prog 46 = some 16 := by kernel_rfl
@[simp] theorem fo46_0 : fieldOf Try.prog 46 0 = some (0, 3) := by kernel_rfl
@[simp] theorem fo46_1 : fieldOf Try.prog 46 1 = some (1, 3) := by kernel_rfl
attribute [simp] Try.underlying46
@[simp] theorem sz50 : szOf Try.prog 50 = some 3 := by kernel_rfl
@[simp] theorem ag50 : aggOf Try.prog 50 = some true := by kernel_rfl
@[simp] theorem zv50 : zeroOf Try.prog 50 = some (.agg #[.int .i64 0, .int .i64 0, .int .i64 0]) := by kernel_rfl
@[simp low] theorem zn50 (n : Nat) : zerosOf Try.prog 50 n = some (List.replicate n [.int .i64 0, .int .i64 0, .int .i64 0]).flatten := by kernel_rfl
@[simp] theorem ze50 : zerosOf Try.prog 50 1 = some [.int .i64 0, .int .i64 0, .int .i64 0] := by kernel_rfl
@[simp] theorem pl50 : placesOf Try.prog 50 = some [(0, 2), (2, 1)] := by kernel_rfl
@[simp] theorem bu50 (ps : Array (Nat × Value)) : buildV Try.prog 50 ps = if (ps.all fun (_, x) => !junkB x) = true then (Instr.fill (fun x => [(0, 2), (2, 1)].toArray[x]?) #[.int .i64 0, .int .i64 0, .int .i64 0] ps.toList).map fun cs => .agg cs else none := buildV_struct zv50 (by kernel_rfl) pl50
@[simp] theorem by50 : byOf Try.prog 50 = some 24 := by kernel_rfl
@[simp] theorem fo50_0 : fieldOf Try.prog 50 0 = some (0, 39) := by kernel_rfl
@[simp] theorem fo50_1 : fieldOf Try.prog 50 1 = some (2, 3) := by kernel_rfl
attribute [simp] Try.underlying50
@[simp] theorem sz51 : szOf Try.prog 51 = some 3 := by kernel_rfl
@[simp] theorem ag51 : aggOf Try.prog 51 = some true := by kernel_rfl
@[simp] theorem zv51 : zeroOf Try.prog 51 = some (.agg #[.int .i64 0, .int .i64 0, .int .i64 0]) := by kernel_rfl
@[simp low] theorem zn51 (n : Nat) : zerosOf Try.prog 51 n = some (List.replicate n [.int .i64 0, .int .i64 0, .int .i64 0]).flatten := by kernel_rfl
@[simp] theorem ze51 : zerosOf Try.prog 51 1 = some [.int .i64 0, .int .i64 0, .int .i64 0] := by kernel_rfl
@[simp] theorem pl51 : placesOf Try.prog 51 = some [(0, 2), (2, 1)] := by kernel_rfl
@[simp] theorem bu51 (ps : Array (Nat × Value)) : buildV Try.prog 51 ps = if (ps.all fun (_, x) => !junkB x) = true then (Instr.fill (fun x => [(0, 2), (2, 1)].toArray[x]?) #[.int .i64 0, .int .i64 0, .int .i64 0] ps.toList).map fun cs => .agg cs else none := buildV_struct zv51 (by kernel_rfl) pl51
@[simp] theorem by51 : byOf Try.prog 51 = some 24 := by kernel_rfl
@[simp] theorem fo51_0 : fieldOf Try.prog 51 0 = some (0, 39) := by kernel_rfl
@[simp] theorem fo51_1 : fieldOf Try.prog 51 1 = some (2, 3) := by kernel_rfl
attribute [simp] Try.underlying51
@[simp] theorem sz53 : szOf Try.prog 53 = some 3 := by kernel_rfl
@[simp] theorem ag53 : aggOf Try.prog 53 = some true := by kernel_rfl
@[simp] theorem zv53 : zeroOf Try.prog 53 = some (.agg #[.int .i64 0, .int .i64 0, .int .i64 0]) := by kernel_rfl
@[simp low] theorem zn53 (n : Nat) : zerosOf Try.prog 53 n = some (List.replicate n [.int .i64 0, .int .i64 0, .int .i64 0]).flatten := by kernel_rfl
@[simp] theorem ze53 : zerosOf Try.prog 53 1 = some [.int .i64 0, .int .i64 0, .int .i64 0] := by kernel_rfl
@[simp] theorem pl53 : placesOf Try.prog 53 = some [(0, 2), (2, 1)] := by kernel_rfl
@[simp] theorem bu53 (ps : Array (Nat × Value)) : buildV Try.prog 53 ps = if (ps.all fun (_, x) => !junkB x) = true then (Instr.fill (fun x => [(0, 2), (2, 1)].toArray[x]?) #[.int .i64 0, .int .i64 0, .int .i64 0] ps.toList).map fun cs => .agg cs else none := buildV_struct zv53 (by kernel_rfl) pl53
@[simp] theorem by53 : byOf Try.prog 53 = some 24 := by kernel_rfl
@[simp] theorem fo53_0 : fieldOf Try.prog 53 0 = some (0, 46) := by kernel_rfl
@[simp] theorem fo53_1 : fieldOf Try.prog 53 1 = some (2, 3) := by kernel_rfl
attribute [simp] Try.underlying53
@[simp] theorem sz54 : szOf Try.prog 54 = some 3 := by kernel_rfl
@[simp] theorem ag54 : aggOf Try.prog 54 = some true := by kernel_rfl
@[simp] theorem zv54 : zeroOf Try.prog 54 = some (.agg #[.int .i64 0, .int .i64 0, .int .i64 0]) := by kernel_rfl
@[simp low] theorem zn54 (n : Nat) : zerosOf Try.prog 54 n = some (List.replicate n [.int .i64 0, .int .i64 0, .int .i64 0]).flatten := by kernel_rfl
@[simp] theorem ze54 : zerosOf Try.prog 54 1 = some [.int .i64 0, .int .i64 0, .int .i64 0] := by kernel_rfl
@[simp] theorem pl54 : placesOf Try.prog 54 = some [(0, 2), (2, 1)] := by kernel_rfl
@[simp] theorem bu54 (ps : Array (Nat × Value)) : buildV Try.prog 54 ps = if (ps.all fun (_, x) => !junkB x) = true then (Instr.fill (fun x => [(0, 2), (2, 1)].toArray[x]?) #[.int .i64 0, .int .i64 0, .int .i64 0] ps.toList).map fun cs => .agg cs else none := buildV_struct zv54 (by kernel_rfl) pl54
@[simp] theorem by54 : byOf Try.prog 54 = some 24 := by kernel_rfl
@[simp] theorem fo54_0 : fieldOf Try.prog 54 0 = some (0, 46) := by kernel_rfl
@[simp] theorem fo54_1 : fieldOf Try.prog 54 1 = some (2, 3) := by kernel_rfl
attribute [simp] Try.underlying54
@[simp] theorem sz83 : szOf Try.prog 83 = some 1 := by kernel_rfl
@[simp] theorem ag83 : aggOf Try.prog 83 = some false := by kernel_rfl
@[simp] theorem zv83 : zeroOf Try.prog 83 = some (.slice none 0 0) := by kernel_rfl
@[simp low] theorem zn83 (n : Nat) : zerosOf Try.prog 83 n = some (List.replicate n [.slice none 0 0]).flatten := by kernel_rfl
@[simp] theorem ze83 : zerosOf Try.prog 83 1 = some [.slice none 0 0] := by kernel_rfl
@[simp] theorem by83 : byOf Try.prog 83 = some 24 := by kernel_rfl
attribute [simp] Try.underlying83
@[simp] theorem sz84 : szOf Try.prog 84 = some 1 := by kernel_rfl
@[simp] theorem ag84 : aggOf Try.prog 84 = some false := by kernel_rfl
@[simp] theorem zv84 : zeroOf Try.prog 84 = some (.pointer none) := by kernel_rfl
@[simp low] theorem zn84 (n : Nat) : zerosOf Try.prog 84 n = some (List.replicate n [.pointer none]).flatten := by kernel_rfl
@[simp] theorem ze84 : zerosOf Try.prog 84 1 = some [.pointer none] := by kernel_rfl
@[simp] theorem by84 : byOf Try.prog 84 = some 8 := by kernel_rfl
attribute [simp] Try.underlying84
@[simp] theorem sz87 : szOf Try.prog 87 = some 1 := by kernel_rfl
@[simp] theorem ag87 : aggOf Try.prog 87 = some false := by kernel_rfl
@[simp] theorem zv87 : zeroOf Try.prog 87 = some (.int .u64 0) := by kernel_rfl
@[simp low] theorem zn87 (n : Nat) : zerosOf Try.prog 87 n = some (List.replicate n [.int .u64 0]).flatten := by kernel_rfl
@[simp] theorem ze87 : zerosOf Try.prog 87 1 = some [.int .u64 0] := by kernel_rfl
@[simp] theorem by87 : byOf Try.prog 87 = some 8 := by kernel_rfl
attribute [simp] Try.underlying87
@[simp] theorem sz89 : szOf Try.prog 89 = some 2 := by kernel_rfl
@[simp] theorem ag89 : aggOf Try.prog 89 = some true := by kernel_rfl
@[simp] theorem zv89 : zeroOf Try.prog 89 = some (.agg #[.int .i64 0, .slice none 0 0]) := by kernel_rfl
@[simp low] theorem zn89 (n : Nat) : zerosOf Try.prog 89 n = some (List.replicate n [.int .i64 0, .slice none 0 0]).flatten := by kernel_rfl
@[simp] theorem ze89 : zerosOf Try.prog 89 1 = some [.int .i64 0, .slice none 0 0] := by kernel_rfl
@[simp] theorem pl89 : placesOf Try.prog 89 = some [(0, 1), (1, 1)] := by kernel_rfl
@[simp] theorem bu89 (ps : Array (Nat × Value)) : buildV Try.prog 89 ps = if (ps.all fun (_, x) => !junkB x) = true then (Instr.fill (fun x => [(0, 1), (1, 1)].toArray[x]?) #[.int .i64 0, .slice none 0 0] ps.toList).map fun cs => .agg cs else none := buildV_struct zv89 (by kernel_rfl) pl89
@[simp] theorem by89 : byOf Try.prog 89 = some 32 := by kernel_rfl
@[simp] theorem fo89_0 : fieldOf Try.prog 89 0 = some (0, 3) := by kernel_rfl
@[simp] theorem fo89_1 : fieldOf Try.prog 89 1 = some (1, 23) := by kernel_rfl
attribute [simp] Try.underlying89
@[simp] theorem sz90 : szOf Try.prog 90 = some 2 := by kernel_rfl
@[simp] theorem ag90 : aggOf Try.prog 90 = some true := by kernel_rfl
@[simp] theorem zv90 : zeroOf Try.prog 90 = some (.agg #[.int .i64 0, .slice none 0 0]) := by kernel_rfl
@[simp low] theorem zn90 (n : Nat) : zerosOf Try.prog 90 n = some (List.replicate n [.int .i64 0, .slice none 0 0]).flatten := by kernel_rfl
@[simp] theorem ze90 : zerosOf Try.prog 90 1 = some [.int .i64 0, .slice none 0 0] := by kernel_rfl
@[simp] theorem pl90 : placesOf Try.prog 90 = some [(0, 1), (1, 1)] := by kernel_rfl
@[simp] theorem bu90 (ps : Array (Nat × Value)) : buildV Try.prog 90 ps = if (ps.all fun (_, x) => !junkB x) = true then (Instr.fill (fun x => [(0, 1), (1, 1)].toArray[x]?) #[.int .i64 0, .slice none 0 0] ps.toList).map fun cs => .agg cs else none := buildV_struct zv90 (by kernel_rfl) pl90
@[simp] theorem by90 : byOf Try.prog 90 = some 32 := by kernel_rfl
@[simp] theorem fo90_0 : fieldOf Try.prog 90 0 = some (0, 3) := by kernel_rfl
@[simp] theorem fo90_1 : fieldOf Try.prog 90 1 = some (1, 23) := by kernel_rfl
attribute [simp] Try.underlying90
@[simp] theorem sz92 : szOf Try.prog 92 = some 1 := by kernel_rfl
@[simp] theorem ag92 : aggOf Try.prog 92 = some false := by kernel_rfl
@[simp] theorem zv92 : zeroOf Try.prog 92 = some (.slice none 0 0) := by kernel_rfl
@[simp low] theorem zn92 (n : Nat) : zerosOf Try.prog 92 n = some (List.replicate n [.slice none 0 0]).flatten := by kernel_rfl
@[simp] theorem ze92 : zerosOf Try.prog 92 1 = some [.slice none 0 0] := by kernel_rfl
@[simp] theorem by92 : byOf Try.prog 92 = some 24 := by kernel_rfl
attribute [simp] Try.underlying92
@[simp] theorem sz93 : szOf Try.prog 93 = some 1 := by kernel_rfl
@[simp] theorem ag93 : aggOf Try.prog 93 = some false := by kernel_rfl
@[simp] theorem zv93 : zeroOf Try.prog 93 = some (.slice none 0 0) := by kernel_rfl
@[simp low] theorem zn93 (n : Nat) : zerosOf Try.prog 93 n = some (List.replicate n [.slice none 0 0]).flatten := by kernel_rfl
@[simp] theorem ze93 : zerosOf Try.prog 93 1 = some [.slice none 0 0] := by kernel_rfl
@[simp] theorem by93 : byOf Try.prog 93 = some 24 := by kernel_rfl
attribute [simp] Try.underlying93
@[simp] theorem sz94 : szOf Try.prog 94 = some 2 := by kernel_rfl
@[simp] theorem ag94 : aggOf Try.prog 94 = some true := by kernel_rfl
@[simp] theorem zv94 : zeroOf Try.prog 94 = some (.agg #[.int .i64 0, .slice none 0 0]) := by kernel_rfl
@[simp low] theorem zn94 (n : Nat) : zerosOf Try.prog 94 n = some (List.replicate n [.int .i64 0, .slice none 0 0]).flatten := by kernel_rfl
@[simp] theorem ze94 : zerosOf Try.prog 94 1 = some [.int .i64 0, .slice none 0 0] := by kernel_rfl
@[simp] theorem pl94 : placesOf Try.prog 94 = some [(0, 1), (1, 1)] := by kernel_rfl
@[simp] theorem bu94 (ps : Array (Nat × Value)) : buildV Try.prog 94 ps = if (ps.all fun (_, x) => !junkB x) = true then (Instr.fill (fun x => [(0, 1), (1, 1)].toArray[x]?) #[.int .i64 0, .slice none 0 0] ps.toList).map fun cs => .agg cs else none := buildV_struct zv94 (by kernel_rfl) pl94
@[simp] theorem by94 : byOf Try.prog 94 = some 32 := by kernel_rfl
@[simp] theorem fo94_0 : fieldOf Try.prog 94 0 = some (0, 3) := by kernel_rfl
@[simp] theorem fo94_1 : fieldOf Try.prog 94 1 = some (1, 23) := by kernel_rfl
attribute [simp] Try.underlying94
@[simp] theorem sz98 : szOf Try.prog 98 = some 1 := by kernel_rfl
@[simp] theorem ag98 : aggOf Try.prog 98 = some false := by kernel_rfl
@[simp] theorem zv98 : zeroOf Try.prog 98 = some (.slice none 0 0) := by kernel_rfl
@[simp low] theorem zn98 (n : Nat) : zerosOf Try.prog 98 n = some (List.replicate n [.slice none 0 0]).flatten := by kernel_rfl
@[simp] theorem ze98 : zerosOf Try.prog 98 1 = some [.slice none 0 0] := by kernel_rfl
@[simp] theorem by98 : byOf Try.prog 98 = some 24 := by kernel_rfl
attribute [simp] Try.underlying98
@[simp] theorem sz100 : szOf Try.prog 100 = some 2 := by kernel_rfl
@[simp] theorem ag100 : aggOf Try.prog 100 = some true := by kernel_rfl
@[simp] theorem zv100 : zeroOf Try.prog 100 = some (.agg #[.int .i64 0, .slice none 0 0]) := by kernel_rfl
@[simp low] theorem zn100 (n : Nat) : zerosOf Try.prog 100 n = some (List.replicate n [.int .i64 0, .slice none 0 0]).flatten := by kernel_rfl
@[simp] theorem ze100 : zerosOf Try.prog 100 1 = some [.int .i64 0, .slice none 0 0] := by kernel_rfl
@[simp] theorem pl100 : placesOf Try.prog 100 = some [(0, 1), (1, 1)] := by kernel_rfl
@[simp] theorem bu100 (ps : Array (Nat × Value)) : buildV Try.prog 100 ps = if (ps.all fun (_, x) => !junkB x) = true then (Instr.fill (fun x => [(0, 1), (1, 1)].toArray[x]?) #[.int .i64 0, .slice none 0 0] ps.toList).map fun cs => .agg cs else none := buildV_struct zv100 (by kernel_rfl) pl100
@[simp] theorem by100 : byOf Try.prog 100 = some 32 := by kernel_rfl
@[simp] theorem fo100_0 : fieldOf Try.prog 100 0 = some (0, 3) := by kernel_rfl
@[simp] theorem fo100_1 : fieldOf Try.prog 100 1 = some (1, 92) := by kernel_rfl
attribute [simp] Try.underlying100
@[simp] theorem sz101 : szOf Try.prog 101 = some 2 := by kernel_rfl
@[simp] theorem ag101 : aggOf Try.prog 101 = some true := by kernel_rfl
@[simp] theorem zv101 : zeroOf Try.prog 101 = some (.agg #[.int .i64 0, .slice none 0 0]) := by kernel_rfl
@[simp low] theorem zn101 (n : Nat) : zerosOf Try.prog 101 n = some (List.replicate n [.int .i64 0, .slice none 0 0]).flatten := by kernel_rfl
@[simp] theorem ze101 : zerosOf Try.prog 101 1 = some [.int .i64 0, .slice none 0 0] := by kernel_rfl
@[simp] theorem pl101 : placesOf Try.prog 101 = some [(0, 1), (1, 1)] := by kernel_rfl
@[simp] theorem bu101 (ps : Array (Nat × Value)) : buildV Try.prog 101 ps = if (ps.all fun (_, x) => !junkB x) = true then (Instr.fill (fun x => [(0, 1), (1, 1)].toArray[x]?) #[.int .i64 0, .slice none 0 0] ps.toList).map fun cs => .agg cs else none := buildV_struct zv101 (by kernel_rfl) pl101
@[simp] theorem by101 : byOf Try.prog 101 = some 32 := by kernel_rfl
@[simp] theorem fo101_0 : fieldOf Try.prog 101 0 = some (0, 3) := by kernel_rfl
@[simp] theorem fo101_1 : fieldOf Try.prog 101 1 = some (1, 92) := by kernel_rfl
attribute [simp] Try.underlying101
@[simp] theorem sz120 : szOf Try.prog 120 = some 1 := by kernel_rfl
@[simp] theorem ag120 : aggOf Try.prog 120 = some false := by kernel_rfl
@[simp] theorem zv120 : zeroOf Try.prog 120 = some (.slice none 0 0) := by kernel_rfl
@[simp low] theorem zn120 (n : Nat) : zerosOf Try.prog 120 n = some (List.replicate n [.slice none 0 0]).flatten := by kernel_rfl
@[simp] theorem ze120 : zerosOf Try.prog 120 1 = some [.slice none 0 0] := by kernel_rfl
@[simp] theorem by120 : byOf Try.prog 120 = some 24 := by kernel_rfl
attribute [simp] Try.underlying120
@[simp] theorem sz121 : szOf Try.prog 121 = some 2 := by kernel_rfl
@[simp] theorem ag121 : aggOf Try.prog 121 = some true := by kernel_rfl
@[simp] theorem zv121 : zeroOf Try.prog 121 = some (.agg #[.slice none 0 0, .slice none 0 0]) := by kernel_rfl
@[simp low] theorem zn121 (n : Nat) : zerosOf Try.prog 121 n = some (List.replicate n [.slice none 0 0, .slice none 0 0]).flatten := by kernel_rfl
@[simp] theorem ze121 : zerosOf Try.prog 121 1 = some [.slice none 0 0, .slice none 0 0] := by kernel_rfl
@[simp] theorem pl121 : placesOf Try.prog 121 = some [(0, 1), (1, 1)] := by kernel_rfl
@[simp] theorem bu121 (ps : Array (Nat × Value)) : buildV Try.prog 121 ps = if (ps.all fun (_, x) => !junkB x) = true then (Instr.fill (fun x => [(0, 1), (1, 1)].toArray[x]?) #[.slice none 0 0, .slice none 0 0] ps.toList).map fun cs => .agg cs else none := buildV_struct zv121 (by kernel_rfl) pl121
@[simp] theorem by121 : byOf Try.prog 121 = some 48 := by kernel_rfl
@[simp] theorem fo121_0 : fieldOf Try.prog 121 0 = some (0, 120) := by kernel_rfl
@[simp] theorem fo121_1 : fieldOf Try.prog 121 1 = some (1, 83) := by kernel_rfl
attribute [simp] Try.underlying121
@[simp] theorem sz122 : szOf Try.prog 122 = some 2 := by kernel_rfl
@[simp] theorem ag122 : aggOf Try.prog 122 = some true := by kernel_rfl
@[simp] theorem zv122 : zeroOf Try.prog 122 = some (.agg #[.slice none 0 0, .slice none 0 0]) := by kernel_rfl
@[simp low] theorem zn122 (n : Nat) : zerosOf Try.prog 122 n = some (List.replicate n [.slice none 0 0, .slice none 0 0]).flatten := by kernel_rfl
@[simp] theorem ze122 : zerosOf Try.prog 122 1 = some [.slice none 0 0, .slice none 0 0] := by kernel_rfl
@[simp] theorem pl122 : placesOf Try.prog 122 = some [(0, 1), (1, 1)] := by kernel_rfl
@[simp] theorem bu122 (ps : Array (Nat × Value)) : buildV Try.prog 122 ps = if (ps.all fun (_, x) => !junkB x) = true then (Instr.fill (fun x => [(0, 1), (1, 1)].toArray[x]?) #[.slice none 0 0, .slice none 0 0] ps.toList).map fun cs => .agg cs else none := buildV_struct zv122 (by kernel_rfl) pl122
@[simp] theorem by122 : byOf Try.prog 122 = some 48 := by kernel_rfl
@[simp] theorem fo122_0 : fieldOf Try.prog 122 0 = some (0, 120) := by kernel_rfl
@[simp] theorem fo122_1 : fieldOf Try.prog 122 1 = some (1, 83) := by kernel_rfl
attribute [simp] Try.underlying122
@[simp] theorem sz128 : szOf Try.prog 128 = some 1 := by kernel_rfl
@[simp] theorem ag128 : aggOf Try.prog 128 = some false := by kernel_rfl
@[simp] theorem zv128 : zeroOf Try.prog 128 = some (.slice none 0 0) := by kernel_rfl
@[simp low] theorem zn128 (n : Nat) : zerosOf Try.prog 128 n = some (List.replicate n [.slice none 0 0]).flatten := by kernel_rfl
@[simp] theorem ze128 : zerosOf Try.prog 128 1 = some [.slice none 0 0] := by kernel_rfl
@[simp] theorem by128 : byOf Try.prog 128 = some 24 := by kernel_rfl
attribute [simp] Try.underlying128
@[simp] theorem sz132 : szOf Try.prog 132 = some 3 := by kernel_rfl
@[simp] theorem ag132 : aggOf Try.prog 132 = some true := by kernel_rfl
@[simp] theorem zv132 : zeroOf Try.prog 132 = some (.agg #[.int .i64 0, .int .i64 0, .int .i64 0]) := by kernel_rfl
@[simp low] theorem zn132 (n : Nat) : zerosOf Try.prog 132 n = some (List.replicate n [.int .i64 0, .int .i64 0, .int .i64 0]).flatten := by kernel_rfl
@[simp] theorem ze132 : zerosOf Try.prog 132 1 = some [.int .i64 0, .int .i64 0, .int .i64 0] := by kernel_rfl
@[simp] theorem by132 : byOf Try.prog 132 = some 24 := by kernel_rfl
attribute [simp] Try.underlying132
@[simp] theorem sz141 : szOf Try.prog 141 = some 1 := by kernel_rfl
@[simp] theorem ag141 : aggOf Try.prog 141 = some false := by kernel_rfl
@[simp] theorem zv141 : zeroOf Try.prog 141 = some (.slice none 0 0) := by kernel_rfl
@[simp low] theorem zn141 (n : Nat) : zerosOf Try.prog 141 n = some (List.replicate n [.slice none 0 0]).flatten := by kernel_rfl
@[simp] theorem ze141 : zerosOf Try.prog 141 1 = some [.slice none 0 0] := by kernel_rfl
@[simp] theorem by141 : byOf Try.prog 141 = some 24 := by kernel_rfl
attribute [simp] Try.underlying141
@[simp] theorem sz142 : szOf Try.prog 142 = some 1 := by kernel_rfl
@[simp] theorem ag142 : aggOf Try.prog 142 = some true := by kernel_rfl
@[simp] theorem zv142 : zeroOf Try.prog 142 = some (.agg #[.slice none 0 0]) := by kernel_rfl
@[simp low] theorem zn142 (n : Nat) : zerosOf Try.prog 142 n = some (List.replicate n [.slice none 0 0]).flatten := by kernel_rfl
@[simp] theorem ze142 : zerosOf Try.prog 142 1 = some [.slice none 0 0] := by kernel_rfl
@[simp] theorem pl142 : placesOf Try.prog 142 = some [(0, 1)] := by kernel_rfl
@[simp] theorem bu142 (ps : Array (Nat × Value)) : buildV Try.prog 142 ps = if (ps.all fun (_, x) => !junkB x) = true then (Instr.fill (fun x => [(0, 1)].toArray[x]?) #[.slice none 0 0] ps.toList).map fun cs => .agg cs else none := buildV_struct zv142 (by kernel_rfl) pl142
@[simp] theorem by142 : byOf Try.prog 142 = some 24 := by kernel_rfl
@[simp] theorem fo142_0 : fieldOf Try.prog 142 0 = some (0, 141) := by kernel_rfl
attribute [simp] Try.underlying142
@[simp] theorem sz143 : szOf Try.prog 143 = some 1 := by kernel_rfl
@[simp] theorem ag143 : aggOf Try.prog 143 = some true := by kernel_rfl
@[simp] theorem zv143 : zeroOf Try.prog 143 = some (.agg #[.slice none 0 0]) := by kernel_rfl
@[simp low] theorem zn143 (n : Nat) : zerosOf Try.prog 143 n = some (List.replicate n [.slice none 0 0]).flatten := by kernel_rfl
@[simp] theorem ze143 : zerosOf Try.prog 143 1 = some [.slice none 0 0] := by kernel_rfl
@[simp] theorem pl143 : placesOf Try.prog 143 = some [(0, 1)] := by kernel_rfl
@[simp] theorem bu143 (ps : Array (Nat × Value)) : buildV Try.prog 143 ps = if (ps.all fun (_, x) => !junkB x) = true then (Instr.fill (fun x => [(0, 1)].toArray[x]?) #[.slice none 0 0] ps.toList).map fun cs => .agg cs else none := buildV_struct zv143 (by kernel_rfl) pl143
@[simp] theorem by143 : byOf Try.prog 143 = some 24 := by kernel_rfl
@[simp] theorem fo143_0 : fieldOf Try.prog 143 0 = some (0, 141) := by kernel_rfl
attribute [simp] Try.underlying143
@[simp] theorem sz153 : szOf Try.prog 153 = some 1 := by kernel_rfl
@[simp] theorem ag153 : aggOf Try.prog 153 = some false := by kernel_rfl
@[simp] theorem zv153 : zeroOf Try.prog 153 = some (.int .u64 0) := by kernel_rfl
@[simp low] theorem zn153 (n : Nat) : zerosOf Try.prog 153 n = some (List.replicate n [.int .u64 0]).flatten := by kernel_rfl
@[simp] theorem ze153 : zerosOf Try.prog 153 1 = some [.int .u64 0] := by kernel_rfl
@[simp] theorem by153 : byOf Try.prog 153 = some 8 := by kernel_rfl
attribute [simp] Try.underlying153
@[simp] theorem sz154 : szOf Try.prog 154 = some 1 := by kernel_rfl
@[simp] theorem ag154 : aggOf Try.prog 154 = some false := by kernel_rfl
@[simp] theorem zv154 : zeroOf Try.prog 154 = some (.slice none 0 0) := by kernel_rfl
@[simp low] theorem zn154 (n : Nat) : zerosOf Try.prog 154 n = some (List.replicate n [.slice none 0 0]).flatten := by kernel_rfl
@[simp] theorem ze154 : zerosOf Try.prog 154 1 = some [.slice none 0 0] := by kernel_rfl
@[simp] theorem by154 : byOf Try.prog 154 = some 24 := by kernel_rfl
attribute [simp] Try.underlying154
@[simp] theorem sz156 : szOf Try.prog 156 = some 1 := by kernel_rfl
@[simp] theorem ag156 : aggOf Try.prog 156 = some false := by kernel_rfl
@[simp] theorem zv156 : zeroOf Try.prog 156 = some (.pointer none) := by kernel_rfl
@[simp low] theorem zn156 (n : Nat) : zerosOf Try.prog 156 n = some (List.replicate n [.pointer none]).flatten := by kernel_rfl
@[simp] theorem ze156 : zerosOf Try.prog 156 1 = some [.pointer none] := by kernel_rfl
@[simp] theorem by156 : byOf Try.prog 156 = some 8 := by kernel_rfl
attribute [simp] Try.underlying156
@[simp] theorem sz157 : szOf Try.prog 157 = some 1 := by kernel_rfl
@[simp] theorem ag157 : aggOf Try.prog 157 = some true := by kernel_rfl
@[simp] theorem zv157 : zeroOf Try.prog 157 = some (.agg #[.slice none 0 0]) := by kernel_rfl
@[simp low] theorem zn157 (n : Nat) : zerosOf Try.prog 157 n = some (List.replicate n [.slice none 0 0]).flatten := by kernel_rfl
@[simp] theorem ze157 : zerosOf Try.prog 157 1 = some [.slice none 0 0] := by kernel_rfl
@[simp] theorem pl157 : placesOf Try.prog 157 = some [(0, 1)] := by kernel_rfl
@[simp] theorem bu157 (ps : Array (Nat × Value)) : buildV Try.prog 157 ps = if (ps.all fun (_, x) => !junkB x) = true then (Instr.fill (fun x => [(0, 1)].toArray[x]?) #[.slice none 0 0] ps.toList).map fun cs => .agg cs else none := buildV_struct zv157 (by kernel_rfl) pl157
@[simp] theorem by157 : byOf Try.prog 157 = some 24 := by kernel_rfl
@[simp] theorem fo157_0 : fieldOf Try.prog 157 0 = some (0, 23) := by kernel_rfl
attribute [simp] Try.underlying157
@[simp] theorem sz158 : szOf Try.prog 158 = some 1 := by kernel_rfl
@[simp] theorem ag158 : aggOf Try.prog 158 = some true := by kernel_rfl
@[simp] theorem zv158 : zeroOf Try.prog 158 = some (.agg #[.slice none 0 0]) := by kernel_rfl
@[simp low] theorem zn158 (n : Nat) : zerosOf Try.prog 158 n = some (List.replicate n [.slice none 0 0]).flatten := by kernel_rfl
@[simp] theorem ze158 : zerosOf Try.prog 158 1 = some [.slice none 0 0] := by kernel_rfl
@[simp] theorem pl158 : placesOf Try.prog 158 = some [(0, 1)] := by kernel_rfl
@[simp] theorem bu158 (ps : Array (Nat × Value)) : buildV Try.prog 158 ps = if (ps.all fun (_, x) => !junkB x) = true then (Instr.fill (fun x => [(0, 1)].toArray[x]?) #[.slice none 0 0] ps.toList).map fun cs => .agg cs else none := buildV_struct zv158 (by kernel_rfl) pl158
@[simp] theorem by158 : byOf Try.prog 158 = some 24 := by kernel_rfl
@[simp] theorem fo158_0 : fieldOf Try.prog 158 0 = some (0, 23) := by kernel_rfl
attribute [simp] Try.underlying158
@[simp] theorem sz159 : szOf Try.prog 159 = some 2 := by kernel_rfl
@[simp] theorem ag159 : aggOf Try.prog 159 = some true := by kernel_rfl
@[simp] theorem zv159 : zeroOf Try.prog 159 = some (.agg #[.slice none 0 0, .int .i64 0]) := by kernel_rfl
@[simp low] theorem zn159 (n : Nat) : zerosOf Try.prog 159 n = some (List.replicate n [.slice none 0 0, .int .i64 0]).flatten := by kernel_rfl
@[simp] theorem ze159 : zerosOf Try.prog 159 1 = some [.slice none 0 0, .int .i64 0] := by kernel_rfl
@[simp] theorem pl159 : placesOf Try.prog 159 = some [(0, 1), (1, 1)] := by kernel_rfl
@[simp] theorem bu159 (ps : Array (Nat × Value)) : buildV Try.prog 159 ps = if (ps.all fun (_, x) => !junkB x) = true then (Instr.fill (fun x => [(0, 1), (1, 1)].toArray[x]?) #[.slice none 0 0, .int .i64 0] ps.toList).map fun cs => .agg cs else none := buildV_struct zv159 (by kernel_rfl) pl159
@[simp] theorem by159 : byOf Try.prog 159 = some 32 := by kernel_rfl
@[simp] theorem fo159_0 : fieldOf Try.prog 159 0 = some (0, 158) := by kernel_rfl
@[simp] theorem fo159_1 : fieldOf Try.prog 159 1 = some (1, 25) := by kernel_rfl
attribute [simp] Try.underlying159
@[simp] theorem sz160 : szOf Try.prog 160 = some 2 := by kernel_rfl
@[simp] theorem ag160 : aggOf Try.prog 160 = some true := by kernel_rfl
@[simp] theorem zv160 : zeroOf Try.prog 160 = some (.agg #[.slice none 0 0, .int .i64 0]) := by kernel_rfl
@[simp low] theorem zn160 (n : Nat) : zerosOf Try.prog 160 n = some (List.replicate n [.slice none 0 0, .int .i64 0]).flatten := by kernel_rfl
@[simp] theorem ze160 : zerosOf Try.prog 160 1 = some [.slice none 0 0, .int .i64 0] := by kernel_rfl
@[simp] theorem pl160 : placesOf Try.prog 160 = some [(0, 1), (1, 1)] := by kernel_rfl
@[simp] theorem bu160 (ps : Array (Nat × Value)) : buildV Try.prog 160 ps = if (ps.all fun (_, x) => !junkB x) = true then (Instr.fill (fun x => [(0, 1), (1, 1)].toArray[x]?) #[.slice none 0 0, .int .i64 0] ps.toList).map fun cs => .agg cs else none := buildV_struct zv160 (by kernel_rfl) pl160
@[simp] theorem by160 : byOf Try.prog 160 = some 32 := by kernel_rfl
@[simp] theorem fo160_0 : fieldOf Try.prog 160 0 = some (0, 158) := by kernel_rfl
@[simp] theorem fo160_1 : fieldOf Try.prog 160 1 = some (1, 25) := by kernel_rfl
attribute [simp] Try.underlying160
@[simp] theorem sz173 : szOf Try.prog 173 = some 1 := by kernel_rfl
@[simp] theorem ag173 : aggOf Try.prog 173 = some false := by kernel_rfl
@[simp] theorem zv173 : zeroOf Try.prog 173 = some (.pointer none) := by kernel_rfl
@[simp low] theorem zn173 (n : Nat) : zerosOf Try.prog 173 n = some (List.replicate n [.pointer none]).flatten := by kernel_rfl
@[simp] theorem ze173 : zerosOf Try.prog 173 1 = some [.pointer none] := by kernel_rfl
@[simp] theorem by173 : byOf Try.prog 173 = some 8 := by kernel_rfl
attribute [simp] Try.underlying173
@[simp] theorem sz177 : szOf Try.prog 177 = some 4 := by kernel_rfl
@[simp] theorem ag177 : aggOf Try.prog 177 = some true := by kernel_rfl
@[simp] theorem zv177 : zeroOf Try.prog 177 = some (.agg #[.pointer none, .pointer none, .pointer none, .string ⟨#[]⟩]) := by kernel_rfl
@[simp low] theorem zn177 (n : Nat) : zerosOf Try.prog 177 n = some (List.replicate n [.pointer none, .pointer none, .pointer none, .string ⟨#[]⟩]).flatten := by kernel_rfl
@[simp] theorem ze177 : zerosOf Try.prog 177 1 = some [.pointer none, .pointer none, .pointer none, .string ⟨#[]⟩] := by kernel_rfl
@[simp] theorem pl177 : placesOf Try.prog 177 = some [(0, 1), (1, 1), (2, 1), (3, 1)] := by kernel_rfl
@[simp] theorem bu177 (ps : Array (Nat × Value)) : buildV Try.prog 177 ps = if (ps.all fun (_, x) => !junkB x) = true then (Instr.fill (fun x => [(0, 1), (1, 1), (2, 1), (3, 1)].toArray[x]?) #[.pointer none, .pointer none, .pointer none, .string ⟨#[]⟩] ps.toList).map fun cs => .agg cs else none := buildV_struct zv177 (by kernel_rfl) pl177
@[simp] theorem by177 : byOf Try.prog 177 = some 40 := by kernel_rfl
@[simp] theorem fo177_0 : fieldOf Try.prog 177 0 = some (0, 17) := by kernel_rfl
@[simp] theorem fo177_1 : fieldOf Try.prog 177 1 = some (1, 17) := by kernel_rfl
@[simp] theorem fo177_2 : fieldOf Try.prog 177 2 = some (2, 17) := by kernel_rfl
@[simp] theorem fo177_3 : fieldOf Try.prog 177 3 = some (3, 9) := by kernel_rfl
attribute [simp] Try.underlying177
@[simp] theorem sz178 : szOf Try.prog 178 = some 4 := by kernel_rfl
@[simp] theorem ag178 : aggOf Try.prog 178 = some true := by kernel_rfl
@[simp] theorem zv178 : zeroOf Try.prog 178 = some (.agg #[.pointer none, .pointer none, .pointer none, .string ⟨#[]⟩]) := by kernel_rfl
@[simp low] theorem zn178 (n : Nat) : zerosOf Try.prog 178 n = some (List.replicate n [.pointer none, .pointer none, .pointer none, .string ⟨#[]⟩]).flatten := by kernel_rfl
@[simp] theorem ze178 : zerosOf Try.prog 178 1 = some [.pointer none, .pointer none, .pointer none, .string ⟨#[]⟩] := by kernel_rfl
@[simp] theorem pl178 : placesOf Try.prog 178 = some [(0, 1), (1, 1), (2, 1), (3, 1)] := by kernel_rfl
@[simp] theorem bu178 (ps : Array (Nat × Value)) : buildV Try.prog 178 ps = if (ps.all fun (_, x) => !junkB x) = true then (Instr.fill (fun x => [(0, 1), (1, 1), (2, 1), (3, 1)].toArray[x]?) #[.pointer none, .pointer none, .pointer none, .string ⟨#[]⟩] ps.toList).map fun cs => .agg cs else none := buildV_struct zv178 (by kernel_rfl) pl178
@[simp] theorem by178 : byOf Try.prog 178 = some 40 := by kernel_rfl
@[simp] theorem fo178_0 : fieldOf Try.prog 178 0 = some (0, 17) := by kernel_rfl
@[simp] theorem fo178_1 : fieldOf Try.prog 178 1 = some (1, 17) := by kernel_rfl
@[simp] theorem fo178_2 : fieldOf Try.prog 178 2 = some (2, 17) := by kernel_rfl
@[simp] theorem fo178_3 : fieldOf Try.prog 178 3 = some (3, 9) := by kernel_rfl
attribute [simp] Try.underlying178
@[simp] theorem sz179 : szOf Try.prog 179 = some 0 := by kernel_rfl
@[simp] theorem ag179 : aggOf Try.prog 179 = some true := by kernel_rfl
@[simp] theorem by179 : byOf Try.prog 179 = some 0 := by kernel_rfl
attribute [simp] Try.underlying179
@[simp] theorem sz180 : szOf Try.prog 180 = some 0 := by kernel_rfl
@[simp] theorem ag180 : aggOf Try.prog 180 = some true := by kernel_rfl
@[simp] theorem by180 : byOf Try.prog 180 = some 0 := by kernel_rfl
@[simp] theorem fo180_0 : fieldOf Try.prog 180 0 = some (0, 179) := by kernel_rfl
attribute [simp] Try.underlying180
@[simp] theorem sz181 : szOf Try.prog 181 = some 0 := by kernel_rfl
@[simp] theorem ag181 : aggOf Try.prog 181 = some true := by kernel_rfl
@[simp] theorem by181 : byOf Try.prog 181 = some 0 := by kernel_rfl
@[simp] theorem fo181_0 : fieldOf Try.prog 181 0 = some (0, 179) := by kernel_rfl
attribute [simp] Try.underlying181
@[simp] theorem sz182 : szOf Try.prog 182 = some 1 := by kernel_rfl
@[simp] theorem ag182 : aggOf Try.prog 182 = some false := by kernel_rfl
@[simp] theorem zv182 : zeroOf Try.prog 182 = some (.int .u32 0) := by kernel_rfl
@[simp low] theorem zn182 (n : Nat) : zerosOf Try.prog 182 n = some (List.replicate n [.int .u32 0]).flatten := by kernel_rfl
@[simp] theorem ze182 : zerosOf Try.prog 182 1 = some [.int .u32 0] := by kernel_rfl
@[simp] theorem by182 : byOf Try.prog 182 = some 4 := by kernel_rfl
attribute [simp] Try.underlying182
@[simp] theorem sz183 : szOf Try.prog 183 = some 1 := by kernel_rfl
@[simp] theorem ag183 : aggOf Try.prog 183 = some false := by kernel_rfl
@[simp] theorem zv183 : zeroOf Try.prog 183 = some (.int .u8 0) := by kernel_rfl
@[simp low] theorem zn183 (n : Nat) : zerosOf Try.prog 183 n = some (List.replicate n [.int .u8 0]).flatten := by kernel_rfl
@[simp] theorem ze183 : zerosOf Try.prog 183 1 = some [.int .u8 0] := by kernel_rfl
@[simp] theorem by183 : byOf Try.prog 183 = some 1 := by kernel_rfl
attribute [simp] Try.underlying183
@[simp] theorem sz184 : szOf Try.prog 184 = some 1 := by kernel_rfl
@[simp] theorem ag184 : aggOf Try.prog 184 = some false := by kernel_rfl
@[simp] theorem zv184 : zeroOf Try.prog 184 = some (.int .u8 0) := by kernel_rfl
@[simp low] theorem zn184 (n : Nat) : zerosOf Try.prog 184 n = some (List.replicate n [.int .u8 0]).flatten := by kernel_rfl
@[simp] theorem ze184 : zerosOf Try.prog 184 1 = some [.int .u8 0] := by kernel_rfl
@[simp] theorem by184 : byOf Try.prog 184 = some 1 := by kernel_rfl
attribute [simp] Try.underlying184
@[simp] theorem sz186 : szOf Try.prog 186 = some 1 := by kernel_rfl
@[simp] theorem ag186 : aggOf Try.prog 186 = some false := by kernel_rfl
@[simp] theorem zv186 : zeroOf Try.prog 186 = some (.pointer none) := by kernel_rfl
@[simp low] theorem zn186 (n : Nat) : zerosOf Try.prog 186 n = some (List.replicate n [.pointer none]).flatten := by kernel_rfl
@[simp] theorem ze186 : zerosOf Try.prog 186 1 = some [.pointer none] := by kernel_rfl
@[simp] theorem by186 : byOf Try.prog 186 = some 8 := by kernel_rfl
attribute [simp] Try.underlying186
@[simp] theorem sz187 : szOf Try.prog 187 = some 1 := by kernel_rfl
@[simp] theorem ag187 : aggOf Try.prog 187 = some false := by kernel_rfl
@[simp] theorem zv187 : zeroOf Try.prog 187 = some (.int .i32 0) := by kernel_rfl
@[simp low] theorem zn187 (n : Nat) : zerosOf Try.prog 187 n = some (List.replicate n [.int .i32 0]).flatten := by kernel_rfl
@[simp] theorem ze187 : zerosOf Try.prog 187 1 = some [.int .i32 0] := by kernel_rfl
@[simp] theorem by187 : byOf Try.prog 187 = some 4 := by kernel_rfl
attribute [simp] Try.underlying187
@[simp] theorem sz188 : szOf Try.prog 188 = some 1 := by kernel_rfl
@[simp] theorem ag188 : aggOf Try.prog 188 = some false := by kernel_rfl
@[simp] theorem zv188 : zeroOf Try.prog 188 = some (.int .i32 0) := by kernel_rfl
@[simp low] theorem zn188 (n : Nat) : zerosOf Try.prog 188 n = some (List.replicate n [.int .i32 0]).flatten := by kernel_rfl
@[simp] theorem ze188 : zerosOf Try.prog 188 1 = some [.int .i32 0] := by kernel_rfl
@[simp] theorem by188 : byOf Try.prog 188 = some 4 := by kernel_rfl
attribute [simp] Try.underlying188
@[simp] theorem sz189 : szOf Try.prog 189 = some 11 := by kernel_rfl
@[simp] theorem ag189 : aggOf Try.prog 189 = some true := by kernel_rfl
@[simp] theorem fo189_0 : fieldOf Try.prog 189 0 = some (0, 12) := by kernel_rfl
@[simp] theorem fo189_1 : fieldOf Try.prog 189 1 = some (1, 12) := by kernel_rfl
@[simp] theorem fo189_2 : fieldOf Try.prog 189 2 = some (2, 182) := by kernel_rfl
@[simp] theorem fo189_3 : fieldOf Try.prog 189 3 = some (3, 183) := by kernel_rfl
@[simp] theorem fo189_4 : fieldOf Try.prog 189 4 = some (4, 5) := by kernel_rfl
@[simp] theorem fo189_5 : fieldOf Try.prog 189 5 = some (5, 5) := by kernel_rfl
@[simp] theorem fo189_6 : fieldOf Try.prog 189 6 = some (6, 184) := by kernel_rfl
@[simp] theorem fo189_7 : fieldOf Try.prog 189 7 = some (7, 185) := by kernel_rfl
@[simp] theorem fo189_8 : fieldOf Try.prog 189 8 = some (8, 186) := by kernel_rfl
@[simp] theorem fo189_9 : fieldOf Try.prog 189 9 = some (9, 187) := by kernel_rfl
@[simp] theorem fo189_10 : fieldOf Try.prog 189 10 = some (10, 188) := by kernel_rfl
attribute [simp] Try.underlying189
@[simp] theorem sz190 : szOf Try.prog 190 = some 11 := by kernel_rfl
@[simp] theorem ag190 : aggOf Try.prog 190 = some true := by kernel_rfl
@[simp] theorem fo190_0 : fieldOf Try.prog 190 0 = some (0, 12) := by kernel_rfl
@[simp] theorem fo190_1 : fieldOf Try.prog 190 1 = some (1, 12) := by kernel_rfl
@[simp] theorem fo190_2 : fieldOf Try.prog 190 2 = some (2, 182) := by kernel_rfl
@[simp] theorem fo190_3 : fieldOf Try.prog 190 3 = some (3, 183) := by kernel_rfl
@[simp] theorem fo190_4 : fieldOf Try.prog 190 4 = some (4, 5) := by kernel_rfl
@[simp] theorem fo190_5 : fieldOf Try.prog 190 5 = some (5, 5) := by kernel_rfl
@[simp] theorem fo190_6 : fieldOf Try.prog 190 6 = some (6, 184) := by kernel_rfl
@[simp] theorem fo190_7 : fieldOf Try.prog 190 7 = some (7, 185) := by kernel_rfl
@[simp] theorem fo190_8 : fieldOf Try.prog 190 8 = some (8, 186) := by kernel_rfl
@[simp] theorem fo190_9 : fieldOf Try.prog 190 9 = some (9, 187) := by kernel_rfl
@[simp] theorem fo190_10 : fieldOf Try.prog 190 10 = some (10, 188) := by kernel_rfl
attribute [simp] Try.underlying190
@[simp] theorem sz191 : szOf Try.prog 191 = some 1 := by kernel_rfl
@[simp] theorem ag191 : aggOf Try.prog 191 = some false := by kernel_rfl
attribute [simp] Try.underlying191
theorem ok3 : okFn Try.f3 = true := by kernel_rfl
theorem ok4 : okFn Try.f4 = true := by kernel_rfl
theorem ok5 : okFn Try.f5 = true := by kernel_rfl
theorem ok6 : okFn Try.f6 = true := by kernel_rfl
theorem ok7 : okFn Try.f7 = true := by kernel_rfl
theorem ok8 : okFn Try.f8 = true := by kernel_rfl
theorem ok9 : okFn Try.f9 = true := by kernel_rfl
theorem ok10 : okFn Try.f10 = true := by kernel_rfl
theorem ok11 : okFn Try.f11 = true := by kernel_rfl
theorem ok12 : okFn Try.f12 = true := by kernel_rfl
theorem ok13 : okFn Try.f13 = true := by kernel_rfl
theorem ok14 : okFn Try.f14 = true := by kernel_rfl
theorem ok15 : okFn Try.f15 = true := by kernel_rfl
theorem ok16 : okFn Try.f16 = true := by kernel_rfl
theorem ok17 : okFn Try.f17 = true := by kernel_rfl
theorem ok18 : okFn Try.f18 = true := by kernel_rfl
theorem ok19 : okFn Try.f19 = true := by kernel_rfl
theorem ok20 : okFn Try.f20 = true := by kernel_rfl
theorem ok21 : okFn Try.f21 = true := by kernel_rfl
theorem ok22 : okFn Try.f22 = true := by kernel_rfl
theorem ok23 : okFn Try.f23 = true := by kernel_rfl
theorem ok24 : okFn Try.f24 = true := by kernel_rfl
theorem ok25 : okFn Try.f25 = true := by kernel_rfl
theorem ok26 : okFn Try.f26 = true := by kernel_rfl
theorem ok27 : okFn Try.f27 = true := by kernel_rfl
theorem ok28 : okFn Try.f28 = true := by kernel_rfl
theorem ok29 : okFn Try.f29 = true := by kernel_rfl
theorem ok30 : okFn Try.f30 = true := by kernel_rfl
theorem ok31 : okFn Try.f31 = true := by kernel_rfl
theorem ok32 : okFn Try.f32 = true := by kernel_rfl
theorem ok33 : okFn Try.f33 = true := by kernel_rfl
theorem ok34 : okFn Try.f34 = true := by kernel_rfl
theorem ok35 : okFn Try.f35 = true := by kernel_rfl
theorem ok36 : okFn Try.f36 = true := by kernel_rfl
theorem ok37 : okFn Try.f37 = true := by kernel_rfl
theorem ok38 : okFn Try.f38 = true := by kernel_rfl
theorem ok39 : okFn Try.f39 = true := by kernel_rfl
theorem ok40 : okFn Try.f40 = true := by kernel_rfl
theorem ok41 : okFn Try.f41 = true := by kernel_rfl
theorem ok42 : okFn Try.f42 = true := by kernel_rfl
theorem ok43 : okFn Try.f43 = true := by kernel_rfl
theorem ok44 : okFn Try.f44 = true := by kernel_rfl
theorem ok45 : okFn Try.f45 = true := by kernel_rfl
theorem ok46 : okFn Try.f46 = true := by kernel_rfl
theorem ok47 : okFn Try.f47 = true := by kernel_rfl
theorem ok48 : okFn Try.f48 = true := by kernel_rfl
theorem ok49 : okFn Try.f49 = true := by kernel_rfl
theorem ok50 : okFn Try.f50 = true := by kernel_rfl
theorem ok51 : okFn Try.f51 = true := by kernel_rfl
theorem ok52 : okFn Try.f52 = true := by kernel_rfl
theorem ok53 : okFn Try.f53 = true := by kernel_rfl
theorem ok54 : okFn Try.f54 = true := by kernel_rfl
theorem ok55 : okFn Try.f55 = true := by kernel_rfl
theorem ok56 : okFn Try.f56 = true := by kernel_rfl
theorem ok57 : okFn Try.f57 = true := by kernel_rfl
theorem ok58 : okFn Try.f58 = true := by kernel_rfl
theorem ok59 : okFn Try.f59 = true := by kernel_rfl
theorem ok60 : okFn Try.f60 = true := by kernel_rfl
theorem ok61 : okFn Try.f61 = true := by kernel_rfl
theorem ok62 : okFn Try.f62 = true := by kernel_rfl
theorem ok63 : okFn Try.f63 = true := by kernel_rfl
theorem ok64 : okFn Try.f64 = true := by kernel_rfl
theorem ok65 : okFn Try.f65 = true := by kernel_rfl
theorem ok66 : okFn Try.f66 = true := by kernel_rfl
theorem ok67 : okFn Try.f67 = true := by kernel_rfl
theorem ok68 : okFn Try.f68 = true := by kernel_rfl
theorem ok69 : okFn Try.f69 = true := by kernel_rfl
theorem ok70 : okFn Try.f70 = true := by kernel_rfl
theorem ok71 : okFn Try.f71 = true := by kernel_rfl
theorem ok72 : okFn Try.f72 = true := by kernel_rfl
theorem ok73 : okFn Try.f73 = true := by kernel_rfl
theorem ok74 : okFn Try.f74 = true := by kernel_rfl
theorem ok75 : okFn Try.f75 = true := by kernel_rfl
theorem ok76 : okFn Try.f76 = true := by kernel_rfl
theorem ok77 : okFn Try.f77 = true := by kernel_rfl
theorem ok78 : okFn Try.f78 = true := by kernel_rfl
theorem ok79 : okFn Try.f79 = true := by kernel_rfl
theorem ok80 : okFn Try.f80 = true := by kernel_rfl
theorem ok81 : okFn Try.f81 = true := by kernel_rfl
theorem ok82 : okFn Try.f82 = true := by kernel_rfl
theorem ok83 : okFn Try.f83 = true := by kernel_rfl
theorem ok84 : okFn Try.f84 = true := by kernel_rfl
theorem ok85 : okFn Try.f85 = true := by kernel_rfl
theorem ok86 : okFn Try.f86 = true := by kernel_rfl
theorem ok87 : okFn Try.f87 = true := by kernel_rfl
theorem ok88 : okFn Try.f88 = true := by kernel_rfl
theorem ok89 : okFn Try.f89 = true := by kernel_rfl
theorem ok90 : okFn Try.f90 = true := by kernel_rfl
theorem ok91 : okFn Try.f91 = true := by kernel_rfl
theorem ok92 : okFn Try.f92 = true := by kernel_rfl
theorem ok93 : okFn Try.f93 = true := by kernel_rfl
theorem ok94 : okFn Try.f94 = true := by kernel_rfl
theorem ok95 : okFn Try.f95 = true := by kernel_rfl
theorem ok96 : okFn Try.f96 = true := by kernel_rfl
theorem ok97 : okFn Try.f97 = true := by kernel_rfl
theorem ok98 : okFn Try.f98 = true := by kernel_rfl
theorem ok99 : okFn Try.f99 = true := by kernel_rfl
theorem ok100 : okFn Try.f100 = true := by kernel_rfl
theorem ok101 : okFn Try.f101 = true := by kernel_rfl
theorem ok102 : okFn Try.f102 = true := by kernel_rfl
theorem ok103 : okFn Try.f103 = true := by kernel_rfl
theorem ok104 : okFn Try.f104 = true := by kernel_rfl
theorem ok105 : okFn Try.f105 = true := by kernel_rfl
theorem ok106 : okFn Try.f106 = true := by kernel_rfl
theorem ok107 : okFn Try.f107 = true := by kernel_rfl
theorem ok108 : okFn Try.f108 = true := by kernel_rfl
theorem ok110 : okFn Try.f110 = true := by kernel_rfl
theorem ok111 : okFn Try.f111 = true := by kernel_rfl
theorem ok112 : okFn Try.f112 = true := by kernel_rfl
theorem ok113 : okFn Try.f113 = true := by kernel_rfl
theorem ok114 : okFn Try.f114 = true := by kernel_rfl
theorem ok115 : okFn Try.f115 = true := by kernel_rfl
theorem ok116 : okFn Try.f116 = true := by kernel_rfl
theorem ok117 : okFn Try.f117 = true := by kernel_rfl
theorem ok119 : okFn Try.f119 = true := by kernel_rfl
theorem ok120 : okFn Try.f120 = true := by kernel_rfl
theorem ok121 : okFn Try.f121 = true := by kernel_rfl
theorem ok122 : okFn Try.f122 = true := by kernel_rfl
end Go.Proofs.Ytenbclcfhjdcaaa.AM
end
section
set_option maxHeartbeats 8000000
set_option linter.unusedVariables false
set_option linter.unusedSimpArgs false
/- slices.Insert over the abstract machine: the walks. -/
namespace Go.Proofs.Ytenbclcfhjdcaaa.AM
open Go Go.Proofs
set_option maxRecDepth 100000
theorem w64i {n : Int} (h : -9223372036854775808 ≤ n ∧ n ≤ 9223372036854775807) : IntKind.i64.wrap n = n := IntWalk.i64_in n h
theorem insRun_ent : InsRun Try.prog (ovA Try.prog [109]) 89 3 := by
  intro σ l lx ox n m i C cx cells xs y hl hy hyd hy0 hne hxs hxc hcc hi hm hnm hnC hCm hCc hcx
  refine ac_enter rfl Try.func89 rfl ok89 (Nat.le_of_ble_eq_true rfl) ?_
  have ht := Try.underlying40
  have hv := Try.underlying40
  have hs : szOf Try.prog 54 = some 3 := by kernel_rfl
  have hCt := maxLen_top hCm
  obtain ⟨c1, -, s1⟩ := sl_lo (l := l) (o := 0) ht hs hCt hi hnC
  simp [s1]
  refine CondR.dec (fun h => by omega) (fun _ => ?_)
  simp
  have hby : byOf Try.prog 54 = some 24 := by kernel_rfl
  obtain ⟨z, hz⟩ : ∃ z, zeroOf Try.prog 54 = some z := by
    exact ⟨_, (by kernel_rfl : zeroOf Try.prog 54 = some (.agg #[.int .i64 0, .int .i64 0, .int .i64 0]))⟩
  have hzs : z.cells.size = 3 := by
    have := (by kernel_rfl : zeroOf Try.prog 54 = some (.agg #[.int .i64 0, .int .i64 0, .int .i64 0]))
    rw [this] at hz; cases hz; rfl
  have hll := get_lt hl
  have hxl : xs.length = m * 3 := by
    unfold readN at hxs
    rw [hy] at hxs
    simp only at hxs
    split at hxs
    · rename_i hq; cases hxs; simp; omega
    · cases hxs
  refine CondR.dec (fun hin => ?_) (fun hin => ?_)
  · have hin : i = n := by omega
    subst hin
    have hC0 : insC 3 i i cells xs = cells.take (i * 3) ++ xs := by unfold insC; simp
    by_cases hfit : i + m ≤ C
    · have ha := app_room (cx := cx) ht hv hs hby hz hzs (by omega) (by omega) (by omega) hnm (by omega) hCt hfit hxs hxc hl (by rw [hxl]; omega)
      simp [ha, Try.results89]
      refine ⟨l, C, cells.drop (i * 3 + xs.length), rfl, ?_, fun j hj hne => List.getElem?_set_ne (Ne.symm hne), .inl ⟨rfl, by simp, rfl, hfit⟩⟩
      rw [List.getElem?_set_self hll, hC0, List.append_assoc]
    · have ha := app_grow (cx := cx) (l := l) (o := 0) ht hv hs hby hz hzs (by omega) (by omega) (by omega) hnm hCt hfit hxs hxc (olds := cells.take (i * 3)) (by rw [readN_eq, hl, readB_full, if_pos (by omega)]; rfl) hcc
      simp [ha, Try.results89]
      refine ⟨σ.length, _, [], rfl, ?_, fun j hj hne => List.getElem?_append_left hj, .inr ⟨rfl, by simp, rfl⟩⟩
      rw [hC0]
      simp
  · have hin : i < n := by omega
    have wnm : IntKind.i64.wrap ((n : Int) + m) = ((n + m : Nat) : Int) := by rw [w64i (by omega)]; omega
    have wim : IntKind.i64.wrap ((i : Int) + m) = ((i + m : Nat) : Int) := by rw [w64i (by omega)]; omega
    simp [hCt, wnm]
    refine CondR.dec (fun hg => ?_) (fun hg => ?_)
    · have hg : C < n + m := by omega
      have wk : IntKind.i64.wrap (((n + m : Nat) : Int) - i) = ((n + m - i : Nat) : Int) := by rw [w64i (by omega)]; omega
      have wk2 : IntKind.i64.wrap ((n : Int) + m - i) = ((n + m - i : Nat) : Int) := by rw [w64i (by omega)]; omega
      have hh := sl_hi (l := l) (o := 0) (n := n) ht hs hCt (show i ≤ C by omega)
      obtain ⟨zs, hzz, hzl, hzc⟩ : ∃ zs, zerosOf Try.prog 54 (n + m - i) = some zs ∧ zs.length = (n + m - i) * 3 ∧ zs.all cellB = true := by
        refine ⟨(List.replicate (n + m - i) [.int .i64 0, .int .i64 0, .int .i64 0]).flatten, (by kernel_rfl), by simp, ?_⟩
        rw [List.all_eq_true]
        intro q hq
        obtain ⟨r, hr, hq⟩ := List.mem_flatten.1 hq
        rw [(List.mem_replicate.1 hr).2] at hq
        simp at hq
        first | (subst hq; rfl) | (rcases hq with rfl | rfl <;> rfl)
      have hrl : readN σ ⟨l, 0, none⟩ (i * 3) = some (cells.take (i * 3)) := by rw [readN_eq, hl, readB_full, if_pos (by omega)]; rfl
      have hA : (cells.take (i * 3)).all cellB = true := by
        rw [List.all_eq_true] at hcc ⊢
        intro q hq
        exact hcc q (by
          rw [show cells.take (i * 3) = (cells.take (n * 3)).take (i * 3) by rw [List.take_take]; congr 1; omega] at hq
          exact List.mem_of_mem_take hq)
      have hap := zeros_grow (kk := .i64) ht hs hby hzz hzc (by omega) (by omega) (by omega) (show 0 < n + m - i by omega) (show i + (n + m - i) ≤ 17179869184 by omega) (show C < i + (n + m - i) by omega) hrl hA
      rw [show i + (n + m - i) = n + m by omega] at hap
      obtain ⟨c2, h2⟩ := sl_unk (l := σ.length) (n := n + m) (i := i) ht hs (by simp only [top]; omega) (by omega) (by omega)
      obtain ⟨c3, h3⟩ := sl_unk (l := σ.length) (n := n + m) (i := i + m) ht hs (by simp only [top]; omega) (by omega) (by omega)
      rw [show n + m - (i + m) = n - i by omega] at h3
      rw [if_neg (by omega), Nat.zero_add] at s1
      have hAl : (cells.take (i * 3)).length = i * 3 := by simp; omega
      have e2 : splice (cells.take (i * 3) ++ zs) (i * 3) xs = cells.take (i * 3) ++ xs ++ zs.drop (m * 3) := by
        unfold splice
        rw [List.take_left' hAl, List.drop_append, hAl, List.drop_of_length_le (by rw [hAl]; omega), List.nil_append, show i * 3 + xs.length - i * 3 = m * 3 by omega]
      have x1 : readN (σ ++ [(⟨cells.take (i * 3) ++ zs, .full⟩ : Blk)]) ⟨lx, ox, none⟩ (m * 3) = some xs := by
        rw [readN_eq, List.getElem?_append_left (get_lt hy), ← readN_eq]; exact hxs
      have cp1 := copy_eq (c := c2) (cx := cx) ht hv hs x1 (l := σ.length) (o := i * 3) (n := n + m - i) (r := m) (cells := cells.take (i * 3) ++ zs) (by simp) (Nat.min_eq_left (by omega)) hm (by simp; omega) (by rw [List.take_of_length_le (by omega)]; exact hxc)
      rw [List.take_of_length_le (show xs.length ≤ m * 3 by omega), e2] at cp1
      have b1 : readN (σ ++ [(⟨cells.take (i * 3) ++ xs ++ zs.drop (m * 3), .full⟩ : Blk)]) ⟨l, i * 3, none⟩ ((n - i) * 3) = some ((cells.take (n * 3)).drop (i * 3)) := by
        rw [readN_eq, List.getElem?_append_left hll, hl, readB_full, if_pos (by omega), List.drop_take]
        congr 2; omega
      have hBl : ((cells.take (n * 3)).drop (i * 3)).length = (n - i) * 3 := by simp; omega
      have hBc : ((cells.take (n * 3)).drop (i * 3)).all cellB = true := by
        rw [List.all_eq_true] at hcc ⊢
        exact fun q hq => hcc q (List.mem_of_mem_drop hq)
      have cp2 := copy_eq (c := c3) (cx := c1) ht ht hs b1 (l := σ.length) (o := (i + m) * 3) (n := n - i) (r := n - i) (cells := cells.take (i * 3) ++ xs ++ zs.drop (m * 3)) (by simp) (Nat.min_self _) (by omega) (by simp; omega) (by rw [List.take_of_length_le (by omega)]; exact hBc)
      have e3 : splice (cells.take (i * 3) ++ xs ++ zs.drop (m * 3)) ((i + m) * 3) ((cells.take (n * 3)).drop (i * 3)) = insC 3 i n cells xs := by
        have hAx : (cells.take (i * 3) ++ xs).length = (i + m) * 3 := by rw [List.length_append, hAl, hxl]; omega
        have hd0 : (cells.take (i * 3) ++ xs ++ zs.drop (m * 3)).drop ((i + m) * 3 + ((cells.take (n * 3)).drop (i * 3)).length) = [] := List.drop_of_length_le (by rw [List.length_append, hAx, hBl, List.length_drop]; omega)
        unfold splice insC
        rw [List.take_left' hAx, hd0, List.append_nil]
      rw [List.take_of_length_le (show ((cells.take (n * 3)).drop (i * 3)).length ≤ (n - i) * 3 by omega), e3] at cp2
      have hset : ∀ b b' : Blk, (σ ++ [b]).set σ.length b' = σ ++ [b'] := fun b b' => by simp
      rw [hset] at cp1 cp2
      simp [hh, wnm, wk, wk2, hap, h2]
      rw [cp1]
      simp
      refine w_draw (ord := [0, 1, 2, 3, 4, 5, 6, 7, 8]) (q := 0) (by decide +kernel) (by decide +kernel) ?_
      have h3' := h3
      rw [Int.natCast_add] at h3'
      have wim' := wim
      rw [Int.natCast_add] at wim'
      simp only [List.append_assoc] at cp2
      simp [wim', h3', s1]
      rw [cp2]
      simp [Try.results89]
      exact ⟨σ.length, _, [], rfl, by simp, fun j hj hne => List.getElem?_append_left hj, .inr ⟨rfl, by simp, rfl⟩⟩
    · have hg : n + m ≤ C := by omega
      have hh := sl_hi (l := l) (o := 0) (n := n) ht hs hCt hg
      rw [Int.natCast_add] at hh
      obtain ⟨c2, hc2, s2⟩ := sl_lo (l := l) (o := 0) (n := n + m) (i := i + m) ht hs hCt (by omega) hg
      rw [if_neg (by omega), Nat.zero_add, Int.natCast_add] at s2
      rw [Int.natCast_add] at wim wnm
      obtain ⟨c4, -, s4⟩ := sl_lo (l := l) (o := 0) (n := n + m) (i := i) ht hs hCt (by omega) hg
      rw [if_neg (by omega), Nat.zero_add] at s4
      have htd : top < dng := by decide +kernel
      have hov : ovA Try.prog [109] 109 #[.slice (some ⟨lx, ox, none⟩) m cx, .slice (some ⟨l, (i + m) * 3, none⟩) (n + m - (i + m)) c2] σ = some (.bool false, σ) := by
        unfold ovA
        simp only [hy, hl]
        rw [if_pos (by simp), if_pos ⟨hyd, trivial, hne, by omega, hy0, hcx, by omega⟩]
      have b1 : readN σ ⟨l, i * 3, none⟩ ((n + m - i) * 3) = some ((cells.drop (i * 3)).take ((n + m - i) * 3)) := by
        rw [readN_eq, hl, readB_full, if_pos (by omega)]
      have hB : ((cells.drop (i * 3)).take ((n + m - i) * 3)).take ((n - i) * 3) = (cells.take (n * 3)).drop (i * 3) := by
        rw [List.take_take, List.drop_take]; congr 1; omega
      have hBl : ((cells.take (n * 3)).drop (i * 3)).length = (n - i) * 3 := by simp; omega
      have hBc : ((cells.take (n * 3)).drop (i * 3)).all cellB = true := by
        rw [List.all_eq_true] at hcc ⊢
        exact fun q hq => hcc q (List.mem_of_mem_drop hq)
      have cp1 := copy_eq (c := c2) (cx := c4) ht ht hs b1 (l := l) (o := (i + m) * 3) (n := n + m - (i + m)) (r := n - i) hl ((Nat.min_eq_right (by omega)).trans (by omega)) (by omega) (by omega) (by rw [hB]; exact hBc)
      rw [hB] at cp1
      obtain ⟨D, hD⟩ : ∃ D, splice cells ((i + m) * 3) ((cells.take (n * 3)).drop (i * 3)) = D := ⟨_, rfl⟩
      have hDl : D.length = cells.length := by rw [← hD]; unfold splice; simp; omega
      rw [hD] at cp1
      have hl1 : (σ.set l ⟨D, .full⟩)[l]? = some ⟨D, .full⟩ := List.getElem?_set_self hll
      have x1 : readN (σ.set l ⟨D, .full⟩) ⟨lx, ox, none⟩ (m * 3) = some xs := by
        rw [readN_eq, List.getElem?_set_ne (Ne.symm hne), ← readN_eq]; exact hxs
      have cp2 := copy_eq (c := c4) (cx := cx) ht hv hs x1 (l := l) (o := i * 3) (n := n + m - i) (r := m) hl1 (Nat.min_eq_left (by omega)) hm (by omega) (by rw [List.take_of_length_le (by omega)]; exact hxc)
      rw [List.take_of_length_le (show xs.length ≤ m * 3 by omega), List.set_set] at cp2
      have hF : splice D (i * 3) xs = insC 3 i n cells xs ++ cells.drop ((n + m) * 3) := by
        rw [← hD]
        unfold splice insC
        have hAl : (cells.take (i * 3)).length = i * 3 := by simp; omega
        have t1 : (cells.take ((i + m) * 3) ++ (cells.take (n * 3)).drop (i * 3) ++ cells.drop ((i + m) * 3 + ((cells.take (n * 3)).drop (i * 3)).length)).take (i * 3) = cells.take (i * 3) := by
          rw [List.append_assoc, List.take_append_of_le_length (by simp; omega), List.take_take]
          congr 1; omega
        have t2 : (cells.take ((i + m) * 3) ++ (cells.take (n * 3)).drop (i * 3) ++ cells.drop ((i + m) * 3 + ((cells.take (n * 3)).drop (i * 3)).length)).drop (i * 3 + xs.length) = (cells.take (n * 3)).drop (i * 3) ++ cells.drop ((n + m) * 3) := by
          rw [List.append_assoc, List.drop_left' (by simp; omega), hBl]
          congr 2; omega
        rw [t1, t2]
        simp
      rw [hF] at cp2
      simp [wnm, wim, hh, s2]
      refine CALL.of (R := fun u τ => u = .bool false ∧ τ = σ) (ac_prim hov ⟨rfl, rfl⟩) fun u τ ⟨e1, e2⟩ => ?_
      subst e1; subst e2
      simp
      refine w_draw (ord := [0, 1, 2, 3, 4, 5, 6, 7, 8]) (q := 0) (by decide +kernel) (by decide +kernel) ?_
      simp [wim, s2, s4]
      rw [cp1]
      simp [s4]
      rw [cp2]
      simp [Try.results89]
      exact ⟨l, C, _, rfl, by rw [List.getElem?_set_self hll], fun j hj hne => List.getElem?_set_ne (Ne.symm hne), .inl ⟨rfl, by simp, rfl, hg⟩⟩
theorem insRun0_ent : InsRun0 Try.prog (ovA Try.prog [109]) 89 3 := by
  intro σ A lx ox m cx xs hA hxs hxc hm hnm
  refine ac_enter rfl Try.func89 rfl ok89 (Nat.le_of_ble_eq_true rfl) ?_
  have ht := Try.underlying40
  have hv := Try.underlying40
  have hs : szOf Try.prog 54 = some 3 := by kernel_rfl
  have hby : byOf Try.prog 54 = some 24 := by kernel_rfl
  have hz : zeroOf Try.prog 54 = some (.agg #[.int .i64 0, .int .i64 0, .int .i64 0]) := by kernel_rfl
  rcases hA with rfl | ⟨l, o, rfl, hr⟩
  · have h1 : aSlice Try.prog 40 (.slice none 0 0) (some (.int .i64 0)) none none = some (.slice none 0 0) := by
      unfold aSlice; simp [ht, hs, intOpt, bounds]
    have ha : aAppend Try.prog false 40 40 (.slice none 0 0) (.slice (some ⟨lx, ox, none⟩) m cx) σ = some (.slice (some ⟨σ.length, 0, none⟩) m (unk 3 m), σ ++ [⟨xs, .full⟩]) := by
      unfold aAppend
      simp only [ht, hv, hs, hby, hz, srcOf, hxs, Option.map_some]
      rw [if_neg (by simp only [Decidable.not_not]; exact ⟨by omega, rfl, by omega, by omega, by omega, hxc⟩), if_pos ⟨trivial, trivial⟩, if_neg (by omega)]
      simp only [newBlk]
      rw [if_pos hxc]
      rfl
    simp [h1]
    refine CondR.dec (fun h => by omega) (fun _ => ?_)
    simp [ha, Try.results89]
  · obtain ⟨c1, -, h1⟩ := sl_lo (l := l) (o := o) (n := 0) (C := 0) (i := 0) ht hs (by decide +kernel) (Nat.le_refl _) (Nat.le_refl _)
    have ha := app_grow (n := 0) (C := 0) (cx := cx) ht hv hs hby hz rfl (by omega) (by omega) (by omega) (show 0 + m ≤ 17179869184 by omega) (by decide +kernel) (by omega) hxs hxc (olds := []) (by simpa using hr) (by simp)
    simp only [Nat.zero_add, List.nil_append] at ha
    simp at h1
    simp [h1]
    refine CondR.dec (fun h => by omega) (fun _ => ?_)
    simp [ha, Try.results89]
theorem insRun_doc : InsRun Try.prog (ovA Try.prog [118]) 111 2 := by
  intro σ l lx ox n m i C cx cells xs y hl hy hyd hy0 hne hxs hxc hcc hi hm hnm hnC hCm hCc hcx
  refine ac_enter rfl Try.func111 rfl ok111 (Nat.le_of_ble_eq_true rfl) ?_
  have ht := Try.underlying141
  have hv := Try.underlying93
  have hs : szOf Try.prog 90 = some 2 := by kernel_rfl
  have hCt := maxLen_top hCm
  obtain ⟨c1, -, s1⟩ := sl_lo (l := l) (o := 0) ht hs hCt hi hnC
  simp [s1]
  refine CondR.dec (fun h => by omega) (fun _ => ?_)
  simp
  have hby : byOf Try.prog 90 = some 32 := by kernel_rfl
  obtain ⟨z, hz⟩ : ∃ z, zeroOf Try.prog 90 = some z := by
    exact ⟨_, (by kernel_rfl : zeroOf Try.prog 90 = some (.agg #[.int .i64 0, .slice none 0 0]))⟩
  have hzs : z.cells.size = 2 := by
    have := (by kernel_rfl : zeroOf Try.prog 90 = some (.agg #[.int .i64 0, .slice none 0 0]))
    rw [this] at hz; cases hz; rfl
  have hll := get_lt hl
  have hxl : xs.length = m * 2 := by
    unfold readN at hxs
    rw [hy] at hxs
    simp only at hxs
    split at hxs
    · rename_i hq; cases hxs; simp; omega
    · cases hxs
  refine CondR.dec (fun hin => ?_) (fun hin => ?_)
  · have hin : i = n := by omega
    subst hin
    have hC0 : insC 2 i i cells xs = cells.take (i * 2) ++ xs := by unfold insC; simp
    by_cases hfit : i + m ≤ C
    · have ha := app_room (cx := cx) ht hv hs hby hz hzs (by omega) (by omega) (by omega) hnm (by omega) hCt hfit hxs hxc hl (by rw [hxl]; omega)
      simp [ha, Try.results111]
      refine ⟨l, C, cells.drop (i * 2 + xs.length), rfl, ?_, fun j hj hne => List.getElem?_set_ne (Ne.symm hne), .inl ⟨rfl, by simp, rfl, hfit⟩⟩
      rw [List.getElem?_set_self hll, hC0, List.append_assoc]
    · have ha := app_grow (cx := cx) (l := l) (o := 0) ht hv hs hby hz hzs (by omega) (by omega) (by omega) hnm hCt hfit hxs hxc (olds := cells.take (i * 2)) (by rw [readN_eq, hl, readB_full, if_pos (by omega)]; rfl) hcc
      simp [ha, Try.results111]
      refine ⟨σ.length, _, [], rfl, ?_, fun j hj hne => List.getElem?_append_left hj, .inr ⟨rfl, by simp, rfl⟩⟩
      rw [hC0]
      simp
  · have hin : i < n := by omega
    have wnm : IntKind.i64.wrap ((n : Int) + m) = ((n + m : Nat) : Int) := by rw [w64i (by omega)]; omega
    have wim : IntKind.i64.wrap ((i : Int) + m) = ((i + m : Nat) : Int) := by rw [w64i (by omega)]; omega
    simp [hCt, wnm]
    refine CondR.dec (fun hg => ?_) (fun hg => ?_)
    · have hg : C < n + m := by omega
      have wk : IntKind.i64.wrap (((n + m : Nat) : Int) - i) = ((n + m - i : Nat) : Int) := by rw [w64i (by omega)]; omega
      have wk2 : IntKind.i64.wrap ((n : Int) + m - i) = ((n + m - i : Nat) : Int) := by rw [w64i (by omega)]; omega
      have hh := sl_hi (l := l) (o := 0) (n := n) ht hs hCt (show i ≤ C by omega)
      obtain ⟨zs, hzz, hzl, hzc⟩ : ∃ zs, zerosOf Try.prog 90 (n + m - i) = some zs ∧ zs.length = (n + m - i) * 2 ∧ zs.all cellB = true := by
        refine ⟨(List.replicate (n + m - i) [.int .i64 0, .slice none 0 0]).flatten, (by kernel_rfl), by simp, ?_⟩
        rw [List.all_eq_true]
        intro q hq
        obtain ⟨r, hr, hq⟩ := List.mem_flatten.1 hq
        rw [(List.mem_replicate.1 hr).2] at hq
        simp at hq
        first | (subst hq; rfl) | (rcases hq with rfl | rfl <;> rfl)
      have hrl : readN σ ⟨l, 0, none⟩ (i * 2) = some (cells.take (i * 2)) := by rw [readN_eq, hl, readB_full, if_pos (by omega)]; rfl
      have hA : (cells.take (i * 2)).all cellB = true := by
        rw [List.all_eq_true] at hcc ⊢
        intro q hq
        exact hcc q (by
          rw [show cells.take (i * 2) = (cells.take (n * 2)).take (i * 2) by rw [List.take_take]; congr 1; omega] at hq
          exact List.mem_of_mem_take hq)
      have hap := zeros_grow (kk := .i64) ht hs hby hzz hzc (by omega) (by omega) (by omega) (show 0 < n + m - i by omega) (show i + (n + m - i) ≤ 17179869184 by omega) (show C < i + (n + m - i) by omega) hrl hA
      rw [show i + (n + m - i) = n + m by omega] at hap
      obtain ⟨c2, h2⟩ := sl_unk (l := σ.length) (n := n + m) (i := i) ht hs (by simp only [top]; omega) (by omega) (by omega)
      obtain ⟨c3, h3⟩ := sl_unk (l := σ.length) (n := n + m) (i := i + m) ht hs (by simp only [top]; omega) (by omega) (by omega)
      rw [show n + m - (i + m) = n - i by omega] at h3
      rw [if_neg (by omega), Nat.zero_add] at s1
      have hAl : (cells.take (i * 2)).length = i * 2 := by simp; omega
      have e2 : splice (cells.take (i * 2) ++ zs) (i * 2) xs = cells.take (i * 2) ++ xs ++ zs.drop (m * 2) := by
        unfold splice
        rw [List.take_left' hAl, List.drop_append, hAl, List.drop_of_length_le (by rw [hAl]; omega), List.nil_append, show i * 2 + xs.length - i * 2 = m * 2 by omega]
      have x1 : readN (σ ++ [(⟨cells.take (i * 2) ++ zs, .full⟩ : Blk)]) ⟨lx, ox, none⟩ (m * 2) = some xs := by
        rw [readN_eq, List.getElem?_append_left (get_lt hy), ← readN_eq]; exact hxs
      have cp1 := copy_eq (c := c2) (cx := cx) ht hv hs x1 (l := σ.length) (o := i * 2) (n := n + m - i) (r := m) (cells := cells.take (i * 2) ++ zs) (by simp) (Nat.min_eq_left (by omega)) hm (by simp; omega) (by rw [List.take_of_length_le (by omega)]; exact hxc)
      rw [List.take_of_length_le (show xs.length ≤ m * 2 by omega), e2] at cp1
      have b1 : readN (σ ++ [(⟨cells.take (i * 2) ++ xs ++ zs.drop (m * 2), .full⟩ : Blk)]) ⟨l, i * 2, none⟩ ((n - i) * 2) = some ((cells.take (n * 2)).drop (i * 2)) := by
        rw [readN_eq, List.getElem?_append_left hll, hl, readB_full, if_pos (by omega), List.drop_take]
        congr 2; omega
      have hBl : ((cells.take (n * 2)).drop (i * 2)).length = (n - i) * 2 := by simp; omega
      have hBc : ((cells.take (n * 2)).drop (i * 2)).all cellB = true := by
        rw [List.all_eq_true] at hcc ⊢
        exact fun q hq => hcc q (List.mem_of_mem_drop hq)
      have cp2 := copy_eq (c := c3) (cx := c1) ht ht hs b1 (l := σ.length) (o := (i + m) * 2) (n := n - i) (r := n - i) (cells := cells.take (i * 2) ++ xs ++ zs.drop (m * 2)) (by simp) (Nat.min_self _) (by omega) (by simp; omega) (by rw [List.take_of_length_le (by omega)]; exact hBc)
      have e3 : splice (cells.take (i * 2) ++ xs ++ zs.drop (m * 2)) ((i + m) * 2) ((cells.take (n * 2)).drop (i * 2)) = insC 2 i n cells xs := by
        have hAx : (cells.take (i * 2) ++ xs).length = (i + m) * 2 := by rw [List.length_append, hAl, hxl]; omega
        have hd0 : (cells.take (i * 2) ++ xs ++ zs.drop (m * 2)).drop ((i + m) * 2 + ((cells.take (n * 2)).drop (i * 2)).length) = [] := List.drop_of_length_le (by rw [List.length_append, hAx, hBl, List.length_drop]; omega)
        unfold splice insC
        rw [List.take_left' hAx, hd0, List.append_nil]
      rw [List.take_of_length_le (show ((cells.take (n * 2)).drop (i * 2)).length ≤ (n - i) * 2 by omega), e3] at cp2
      have hset : ∀ b b' : Blk, (σ ++ [b]).set σ.length b' = σ ++ [b'] := fun b b' => by simp
      rw [hset] at cp1 cp2
      simp [hh, wnm, wk, wk2, hap, h2]
      rw [cp1]
      simp
      refine w_draw (ord := [0, 1, 2, 3, 4, 5, 6, 7, 8]) (q := 0) (by decide +kernel) (by decide +kernel) ?_
      have h3' := h3
      rw [Int.natCast_add] at h3'
      have wim' := wim
      rw [Int.natCast_add] at wim'
      simp only [List.append_assoc] at cp2
      simp [wim', h3', s1]
      rw [cp2]
      simp [Try.results111]
      exact ⟨σ.length, _, [], rfl, by simp, fun j hj hne => List.getElem?_append_left hj, .inr ⟨rfl, by simp, rfl⟩⟩
    · have hg : n + m ≤ C := by omega
      have hh := sl_hi (l := l) (o := 0) (n := n) ht hs hCt hg
      rw [Int.natCast_add] at hh
      obtain ⟨c2, hc2, s2⟩ := sl_lo (l := l) (o := 0) (n := n + m) (i := i + m) ht hs hCt (by omega) hg
      rw [if_neg (by omega), Nat.zero_add, Int.natCast_add] at s2
      rw [Int.natCast_add] at wim wnm
      obtain ⟨c4, -, s4⟩ := sl_lo (l := l) (o := 0) (n := n + m) (i := i) ht hs hCt (by omega) hg
      rw [if_neg (by omega), Nat.zero_add] at s4
      have htd : top < dng := by decide +kernel
      have hov : ovA Try.prog [118] 118 #[.slice (some ⟨lx, ox, none⟩) m cx, .slice (some ⟨l, (i + m) * 2, none⟩) (n + m - (i + m)) c2] σ = some (.bool false, σ) := by
        unfold ovA
        simp only [hy, hl]
        rw [if_pos (by simp), if_pos ⟨hyd, trivial, hne, by omega, hy0, hcx, by omega⟩]
      have b1 : readN σ ⟨l, i * 2, none⟩ ((n + m - i) * 2) = some ((cells.drop (i * 2)).take ((n + m - i) * 2)) := by
        rw [readN_eq, hl, readB_full, if_pos (by omega)]
      have hB : ((cells.drop (i * 2)).take ((n + m - i) * 2)).take ((n - i) * 2) = (cells.take (n * 2)).drop (i * 2) := by
        rw [List.take_take, List.drop_take]; congr 1; omega
      have hBl : ((cells.take (n * 2)).drop (i * 2)).length = (n - i) * 2 := by simp; omega
      have hBc : ((cells.take (n * 2)).drop (i * 2)).all cellB = true := by
        rw [List.all_eq_true] at hcc ⊢
        exact fun q hq => hcc q (List.mem_of_mem_drop hq)
      have cp1 := copy_eq (c := c2) (cx := c4) ht ht hs b1 (l := l) (o := (i + m) * 2) (n := n + m - (i + m)) (r := n - i) hl ((Nat.min_eq_right (by omega)).trans (by omega)) (by omega) (by omega) (by rw [hB]; exact hBc)
      rw [hB] at cp1
      obtain ⟨D, hD⟩ : ∃ D, splice cells ((i + m) * 2) ((cells.take (n * 2)).drop (i * 2)) = D := ⟨_, rfl⟩
      have hDl : D.length = cells.length := by rw [← hD]; unfold splice; simp; omega
      rw [hD] at cp1
      have hl1 : (σ.set l ⟨D, .full⟩)[l]? = some ⟨D, .full⟩ := List.getElem?_set_self hll
      have x1 : readN (σ.set l ⟨D, .full⟩) ⟨lx, ox, none⟩ (m * 2) = some xs := by
        rw [readN_eq, List.getElem?_set_ne (Ne.symm hne), ← readN_eq]; exact hxs
      have cp2 := copy_eq (c := c4) (cx := cx) ht hv hs x1 (l := l) (o := i * 2) (n := n + m - i) (r := m) hl1 (Nat.min_eq_left (by omega)) hm (by omega) (by rw [List.take_of_length_le (by omega)]; exact hxc)
      rw [List.take_of_length_le (show xs.length ≤ m * 2 by omega), List.set_set] at cp2
      have hF : splice D (i * 2) xs = insC 2 i n cells xs ++ cells.drop ((n + m) * 2) := by
        rw [← hD]
        unfold splice insC
        have hAl : (cells.take (i * 2)).length = i * 2 := by simp; omega
        have t1 : (cells.take ((i + m) * 2) ++ (cells.take (n * 2)).drop (i * 2) ++ cells.drop ((i + m) * 2 + ((cells.take (n * 2)).drop (i * 2)).length)).take (i * 2) = cells.take (i * 2) := by
          rw [List.append_assoc, List.take_append_of_le_length (by simp; omega), List.take_take]
          congr 1; omega
        have t2 : (cells.take ((i + m) * 2) ++ (cells.take (n * 2)).drop (i * 2) ++ cells.drop ((i + m) * 2 + ((cells.take (n * 2)).drop (i * 2)).length)).drop (i * 2 + xs.length) = (cells.take (n * 2)).drop (i * 2) ++ cells.drop ((n + m) * 2) := by
          rw [List.append_assoc, List.drop_left' (by simp; omega), hBl]
          congr 2; omega
        rw [t1, t2]
        simp
      rw [hF] at cp2
      simp [wnm, wim, hh, s2]
      refine CALL.of (R := fun u τ => u = .bool false ∧ τ = σ) (ac_prim hov ⟨rfl, rfl⟩) fun u τ ⟨e1, e2⟩ => ?_
      subst e1; subst e2
      simp
      refine w_draw (ord := [0, 1, 2, 3, 4, 5, 6, 7, 8]) (q := 0) (by decide +kernel) (by decide +kernel) ?_
      simp [wim, s2, s4]
      rw [cp1]
      simp [s4]
      rw [cp2]
      simp [Try.results111]
      exact ⟨l, C, _, rfl, by rw [List.getElem?_set_self hll], fun j hj hne => List.getElem?_set_ne (Ne.symm hne), .inl ⟨rfl, by simp, rfl, hg⟩⟩
theorem insRun0_doc : InsRun0 Try.prog (ovA Try.prog [118]) 111 2 := by
  intro σ A lx ox m cx xs hA hxs hxc hm hnm
  refine ac_enter rfl Try.func111 rfl ok111 (Nat.le_of_ble_eq_true rfl) ?_
  have ht := Try.underlying141
  have hv := Try.underlying93
  have hs : szOf Try.prog 90 = some 2 := by kernel_rfl
  have hby : byOf Try.prog 90 = some 32 := by kernel_rfl
  have hz : zeroOf Try.prog 90 = some (.agg #[.int .i64 0, .slice none 0 0]) := by kernel_rfl
  rcases hA with rfl | ⟨l, o, rfl, hr⟩
  · have h1 : aSlice Try.prog 141 (.slice none 0 0) (some (.int .i64 0)) none none = some (.slice none 0 0) := by
      unfold aSlice; simp [ht, hs, intOpt, bounds]
    have ha : aAppend Try.prog false 141 93 (.slice none 0 0) (.slice (some ⟨lx, ox, none⟩) m cx) σ = some (.slice (some ⟨σ.length, 0, none⟩) m (unk 2 m), σ ++ [⟨xs, .full⟩]) := by
      unfold aAppend
      simp only [ht, hv, hs, hby, hz, srcOf, hxs, Option.map_some]
      rw [if_neg (by simp only [Decidable.not_not]; exact ⟨by omega, rfl, by omega, by omega, by omega, hxc⟩), if_pos ⟨trivial, trivial⟩, if_neg (by omega)]
      simp only [newBlk]
      rw [if_pos hxc]
      rfl
    simp [h1]
    refine CondR.dec (fun h => by omega) (fun _ => ?_)
    simp [ha, Try.results111]
  · obtain ⟨c1, -, h1⟩ := sl_lo (l := l) (o := o) (n := 0) (C := 0) (i := 0) ht hs (by decide +kernel) (Nat.le_refl _) (Nat.le_refl _)
    have ha := app_grow (n := 0) (C := 0) (cx := cx) ht hv hs hby hz rfl (by omega) (by omega) (by omega) (show 0 + m ≤ 17179869184 by omega) (by decide +kernel) (by omega) hxs hxc (olds := []) (by simpa using hr) (by simp)
    simp only [Nat.zero_add, List.nil_append] at ha
    simp at h1
    simp [h1]
    refine CondR.dec (fun h => by omega) (fun _ => ?_)
    simp [ha, Try.results111]
end Go.Proofs.Ytenbclcfhjdcaaa.AM
end
section
set_option maxHeartbeats 8000000
set_option linter.unusedVariables false
set_option linter.unusedSimpArgs false
/- slices.Delete over the abstract machine: the walks. -/
namespace Go.Proofs.Ytenbclcfhjdcaaa.AM
open Go Go.Proofs
set_option maxRecDepth 100000
theorem delRun_ent {prim : CallF} (hpn : ∀ xs σ, prim 90 xs σ = none) : DelRun Try.prog prim 90 3 := by
  intro σ l n i j c C cells hl hcc hij hj hn hnC hC hCc
  refine ac_enter (hpn _ _) Try.func90 rfl ok90 (Nat.le_of_ble_eq_true rfl) ?_
  have ht := Try.underlying40
  have hs : szOf Try.prog 54 = some 3 := by kernel_rfl
  have hby : byOf Try.prog 54 = some 24 := by kernel_rfl
  obtain ⟨z, hz⟩ : ∃ z, zeroOf Try.prog 54 = some z := ⟨_, (by kernel_rfl : zeroOf Try.prog 54 = some (.agg #[.int .i64 0, .int .i64 0, .int .i64 0]))⟩
  have hzs : z.cells.size = 3 := by
    have := (by kernel_rfl : zeroOf Try.prog 54 = some (.agg #[.int .i64 0, .int .i64 0, .int .i64 0]))
    rw [this] at hz; cases hz; rfl
  have hll := get_lt hl
  obtain ⟨u3, h3⟩ := slG_3 (l := l) (i := i) (j := j) ht hs hC (by omega) hj hnC
  have hhi := slG_hi (l := l) (n := n) ht hs hC (show i ≤ C by omega)
  simp [h3]
  refine CondR.dec (fun h => by omega) (fun _ => ?_)
  simp
  refine w_draw (ord := [0, 1, 2, 3, 4, 5, 6, 7]) (q := 0) (by decide +kernel) (by decide +kernel) ?_
  -- what is cleared
  have hzz : ∀ k, zerosOf Try.prog 54 k = some (List.replicate k [.int .i64 0, .int .i64 0, .int .i64 0]).flatten := fun k => by kernel_rfl
  have hzl : ∀ k, ((List.replicate k ([.int .i64 0, .int .i64 0, .int .i64 0] : List Value)).flatten).length = k * 3 := fun k => by simp
  have hzc : ∀ k, ((List.replicate k ([.int .i64 0, .int .i64 0, .int .i64 0] : List Value)).flatten).all cellB = true := fun k => by
    rw [List.all_eq_true]
    intro q hq
    obtain ⟨r, hr, hq⟩ := List.mem_flatten.1 hq
    rw [(List.mem_replicate.1 hr).2] at hq
    simp at hq
    first | (subst hq; rfl) | (rcases hq with rfl | rfl <;> rfl)
  obtain ⟨c5, h5⟩ := slG_lohi (l := l) (n := n - (j - i)) (i := n - (j - i)) (h := n) ht hs hC (by omega) hnC
  have hBl : ((cells.take (n * 3)).drop (j * 3)).length = (n - j) * 3 := by simp; omega
  have fin : ∀ D : List Value, D.length = cells.length → D.take ((n - (j - i)) * 3) = cells.take (i * 3) ++ (cells.take (n * 3)).drop (j * 3) →
      splice D ((n - (j - i)) * 3) (List.replicate (n - (n - (j - i))) [.int .i64 0, .int .i64 0, .int .i64 0]).flatten = cells.take (i * 3) ++ (cells.take (n * 3)).drop (j * 3) ++ ((List.replicate (n - (n - (j - i))) [.int .i64 0, .int .i64 0, .int .i64 0]).flatten ++ D.drop (n * 3)) := fun D hD h => by
    unfold splice
    rw [h, hzl, List.append_assoc]
    congr 3; omega
  by_cases hjn : j = n
  · subst hjn
    obtain ⟨o4, c4, h4, ho4⟩ := slG_end (l := l) ht hs hC hnC
    have hx : srcOf Try.prog σ 3 40 (.slice (some ⟨l, o4, none⟩) 0 c4) = some (0, []) := by
      unfold srcOf
      simp only [ht]
      rw [readN_eq, hl, readB_full, if_pos (by rcases ho4 with rfl | rfl <;> omega)]
      simp
    have ha := appG_none (l := l) (A := none) (cx := 0) ht ht hs hby hz hzs (by omega) (by omega) (by omega) (show i ≤ 17179869184 by omega) hC (by omega) hx
    have e1 : j - (j - i) = i := by omega
    rw [e1] at h5 fin
    have cl := clear_eq (c := c5) ht (hzz (j - i)) (by omega) hl (o := i * 3) (by rw [hzl]; omega) (hzc _)
    rw [fin cells rfl (by simp)] at cl
    simp [hhi, h4, ha, h5]
    rw [cl]
    simp [Try.results90]
    refine ⟨by omega, (List.replicate (j - i) [.int .i64 0, .int .i64 0, .int .i64 0]).flatten ++ cells.drop (j * 3), ?_, ?_⟩
    · have := hzl (j - i)
      simp at this ⊢; omega
    · simp
  · obtain ⟨c4, h4⟩ := slG_lo (l := l) (i := j) ht hs hC (by omega) hnC
    have hr : readN σ ⟨l, j * 3, none⟩ ((n - j) * 3) = some ((cells.take (n * 3)).drop (j * 3)) := by
      rw [readN_eq, hl, readB_full, if_pos (by omega), List.drop_take]
      congr 2; omega
    have hBc : ((cells.take (n * 3)).drop (j * 3)).all cellB = true := by
      rw [List.all_eq_true] at hcc ⊢
      exact fun q hq => hcc q (List.mem_of_mem_drop hq)
    have ha := appG_room (cx := c4) ht ht hs hby hz hzs (by omega) (by omega) (by omega) (show i + (n - j) ≤ 17179869184 by omega) (by omega) hC (by omega) hr hBc hl (by rw [hBl]; omega)
    rw [show i + (n - j) = n - (j - i) by omega] at ha
    obtain ⟨D, hD⟩ : ∃ D, splice cells (i * 3) ((cells.take (n * 3)).drop (j * 3)) = D := ⟨_, rfl⟩
    have hDl : D.length = cells.length := by rw [← hD]; unfold splice; simp; omega
    have hDt : D.take ((n - (j - i)) * 3) = cells.take (i * 3) ++ (cells.take (n * 3)).drop (j * 3) := by
      rw [← hD]
      unfold splice
      rw [List.take_left' (by rw [List.length_append, hBl]; simp; omega)]
    rw [hD] at ha
    have cl := clear_eq (σ := σ.set l ⟨D, .full⟩) (c := c5) ht (hzz (n - (n - (j - i)))) (by omega) (l := l) (List.getElem?_set_self hll) (o := (n - (j - i)) * 3) (by rw [hzl, hDl]; omega) (hzc _)
    rw [fin D hDl hDt, List.set_set] at cl
    simp [hhi, h4, ha, h5]
    rw [cl]
    simp [Try.results90]
    refine ⟨(List.replicate (n - (n - (j - i))) [.int .i64 0, .int .i64 0, .int .i64 0]).flatten ++ D.drop (n * 3), ?_, ?_⟩
    · have := hzl (n - (n - (j - i)))
      simp at this ⊢; omega
    · simp
theorem delRun_doc {prim : CallF} (hpn : ∀ xs σ, prim 95 xs σ = none) : DelRun Try.prog prim 95 2 := by
  intro σ l n i j c C cells hl hcc hij hj hn hnC hC hCc
  refine ac_enter (hpn _ _) Try.func95 rfl ok95 (Nat.le_of_ble_eq_true rfl) ?_
  have ht := Try.underlying141
  have hs : szOf Try.prog 90 = some 2 := by kernel_rfl
  have hby : byOf Try.prog 90 = some 32 := by kernel_rfl
  obtain ⟨z, hz⟩ : ∃ z, zeroOf Try.prog 90 = some z := ⟨_, (by kernel_rfl : zeroOf Try.prog 90 = some (.agg #[.int .i64 0, .slice none 0 0]))⟩
  have hzs : z.cells.size = 2 := by
    have := (by kernel_rfl : zeroOf Try.prog 90 = some (.agg #[.int .i64 0, .slice none 0 0]))
    rw [this] at hz; cases hz; rfl
  have hll := get_lt hl
  obtain ⟨u3, h3⟩ := slG_3 (l := l) (i := i) (j := j) ht hs hC (by omega) hj hnC
  have hhi := slG_hi (l := l) (n := n) ht hs hC (show i ≤ C by omega)
  simp [h3]
  refine CondR.dec (fun h => by omega) (fun _ => ?_)
  simp
  refine w_draw (ord := [0, 1, 2, 3, 4, 5, 6, 7]) (q := 0) (by decide +kernel) (by decide +kernel) ?_
  -- what is cleared
  have hzz : ∀ k, zerosOf Try.prog 90 k = some (List.replicate k [.int .i64 0, .slice none 0 0]).flatten := fun k => by kernel_rfl
  have hzl : ∀ k, ((List.replicate k ([.int .i64 0, .slice none 0 0] : List Value)).flatten).length = k * 2 := fun k => by simp
  have hzc : ∀ k, ((List.replicate k ([.int .i64 0, .slice none 0 0] : List Value)).flatten).all cellB = true := fun k => by
    rw [List.all_eq_true]
    intro q hq
    obtain ⟨r, hr, hq⟩ := List.mem_flatten.1 hq
    rw [(List.mem_replicate.1 hr).2] at hq
    simp at hq
    first | (subst hq; rfl) | (rcases hq with rfl | rfl <;> rfl)
  obtain ⟨c5, h5⟩ := slG_lohi (l := l) (n := n - (j - i)) (i := n - (j - i)) (h := n) ht hs hC (by omega) hnC
  have hBl : ((cells.take (n * 2)).drop (j * 2)).length = (n - j) * 2 := by simp; omega
  have fin : ∀ D : List Value, D.length = cells.length → D.take ((n - (j - i)) * 2) = cells.take (i * 2) ++ (cells.take (n * 2)).drop (j * 2) →
      splice D ((n - (j - i)) * 2) (List.replicate (n - (n - (j - i))) [.int .i64 0, .slice none 0 0]).flatten = cells.take (i * 2) ++ (cells.take (n * 2)).drop (j * 2) ++ ((List.replicate (n - (n - (j - i))) [.int .i64 0, .slice none 0 0]).flatten ++ D.drop (n * 2)) := fun D hD h => by
    unfold splice
    rw [h, hzl, List.append_assoc]
    congr 3; omega
  by_cases hjn : j = n
  · subst hjn
    obtain ⟨o4, c4, h4, ho4⟩ := slG_end (l := l) ht hs hC hnC
    have hx : srcOf Try.prog σ 2 141 (.slice (some ⟨l, o4, none⟩) 0 c4) = some (0, []) := by
      unfold srcOf
      simp only [ht]
      rw [readN_eq, hl, readB_full, if_pos (by rcases ho4 with rfl | rfl <;> omega)]
      simp
    have ha := appG_none (l := l) (A := none) (cx := 0) ht ht hs hby hz hzs (by omega) (by omega) (by omega) (show i ≤ 17179869184 by omega) hC (by omega) hx
    have e1 : j - (j - i) = i := by omega
    rw [e1] at h5 fin
    have cl := clear_eq (c := c5) ht (hzz (j - i)) (by omega) hl (o := i * 2) (by rw [hzl]; omega) (hzc _)
    rw [fin cells rfl (by simp)] at cl
    simp [hhi, h4, ha, h5]
    rw [cl]
    simp [Try.results95]
    refine ⟨by omega, (List.replicate (j - i) [.int .i64 0, .slice none 0 0]).flatten ++ cells.drop (j * 2), ?_, ?_⟩
    · have := hzl (j - i)
      simp at this ⊢; omega
    · simp
  · obtain ⟨c4, h4⟩ := slG_lo (l := l) (i := j) ht hs hC (by omega) hnC
    have hr : readN σ ⟨l, j * 2, none⟩ ((n - j) * 2) = some ((cells.take (n * 2)).drop (j * 2)) := by
      rw [readN_eq, hl, readB_full, if_pos (by omega), List.drop_take]
      congr 2; omega
    have hBc : ((cells.take (n * 2)).drop (j * 2)).all cellB = true := by
      rw [List.all_eq_true] at hcc ⊢
      exact fun q hq => hcc q (List.mem_of_mem_drop hq)
    have ha := appG_room (cx := c4) ht ht hs hby hz hzs (by omega) (by omega) (by omega) (show i + (n - j) ≤ 17179869184 by omega) (by omega) hC (by omega) hr hBc hl (by rw [hBl]; omega)
    rw [show i + (n - j) = n - (j - i) by omega] at ha
    obtain ⟨D, hD⟩ : ∃ D, splice cells (i * 2) ((cells.take (n * 2)).drop (j * 2)) = D := ⟨_, rfl⟩
    have hDl : D.length = cells.length := by rw [← hD]; unfold splice; simp; omega
    have hDt : D.take ((n - (j - i)) * 2) = cells.take (i * 2) ++ (cells.take (n * 2)).drop (j * 2) := by
      rw [← hD]
      unfold splice
      rw [List.take_left' (by rw [List.length_append, hBl]; simp; omega)]
    rw [hD] at ha
    have cl := clear_eq (σ := σ.set l ⟨D, .full⟩) (c := c5) ht (hzz (n - (n - (j - i)))) (by omega) (l := l) (List.getElem?_set_self hll) (o := (n - (j - i)) * 2) (by rw [hzl, hDl]; omega) (hzc _)
    rw [fin D hDl hDt, List.set_set] at cl
    simp [hhi, h4, ha, h5]
    rw [cl]
    simp [Try.results95]
    refine ⟨(List.replicate (n - (n - (j - i))) [.int .i64 0, .slice none 0 0]).flatten ++ D.drop (n * 2), ?_, ?_⟩
    · have := hzl (n - (n - (j - i)))
      simp at this ⊢; omega
    · simp
end Go.Proofs.Ytenbclcfhjdcaaa.AM
end
section
set_option maxHeartbeats 8000000
set_option linter.unusedVariables false
set_option linter.unusedSimpArgs false
/- Words of the walks over the abstract machine: this seat's calls whose answer is known. -/
namespace Go.Proofs.Ytenbclcfhjdcaaa.AM
open Go Go.Proofs
theorem mixed : Try.prog.follows .mixedOrders = true := by kernel_rfl
def prims0 : CallF := withPrim (insA 89 3) (insA 111 2)
def knowns : List (FuncId × Value) := [(25, .bool true), (52, .bool true)]
def prims : CallF := withPrim (knownPrim knowns) prims0
def isTrue : Option (Value × Heap) → Bool
  | some (.bool true, _) => true
  | _ => false
theorem of_isTrue {r : Option (Value × Heap)} (h : isTrue r = true) : ∃ τ, r = some (.bool true, τ) := by
  unfold isTrue at h
  split at h
  · exact ⟨_, rfl⟩
  · cases h
theorem ov_ent : OvF Try.prog 109 := ⟨Try.f109, 40, 4, 54, 3, Try.func109, by kernel_rfl, by kernel_rfl, by kernel_rfl, by kernel_rfl, Try.underlying40, by kernel_rfl⟩
theorem ov_doc : OvF Try.prog 118 := ⟨Try.f118, 93, 4, 90, 2, Try.func118, by kernel_rfl, by kernel_rfl, by kernel_rfl, by kernel_rfl, Try.underlying93, by kernel_rfl⟩
theorem prims0_ok : CallOk Try.prog prims0 := by
  refine withPrim_ok (ins_ok mixed (ov_ok fun f hf => ?_) ⟨_, _, Try.func89, rfl, by decide +kernel⟩ insRun_ent insRun0_ent) (ins_ok mixed (ov_ok fun f hf => ?_) ⟨_, _, Try.func111, rfl, by decide +kernel⟩ insRun_doc insRun0_doc)
  · simp at hf; subst hf; exact ov_ent
  · simp at hf; subst hf; exact ov_doc
set_option maxRecDepth 1000000 in
theorem prims_ok : CallOk Try.prog prims := by
  refine withPrim_ok (knownPrim_ok rfl mixed prims0_ok _ fun p hp => ?_) prims0_ok
  simp [knowns] at hp
  rcases hp with rfl | rfl
  · obtain ⟨τ, h⟩ := of_isTrue (r := acall Try.prog prims0 200 25 #[] []) (by decide +kernel)
    exact ⟨rfl, ⟨_, _, Try.func25, rfl, by decide +kernel⟩, 200, τ, h⟩
  · obtain ⟨τ, h⟩ := of_isTrue (r := acall Try.prog prims0 300 52 #[] []) (by decide +kernel)
    exact ⟨rfl, ⟨_, _, Try.func52, rfl, by decide +kernel⟩, 300, τ, h⟩
/-- A call that leaves what stands, and answers v. -/
def Ans (f : FuncId) (args : Array Value) (σ : Heap) (v : Value) : Prop := AC Try.prog prims f args σ fun u σ' => u = v ∧ ∃ τ, σ' = σ ++ τ
theorem Ans.mk {f : FuncId} {args : Array Value} {σ : Heap} {v : Value} (h : AC Try.prog prims f args σ fun u σ' => u = v ∧ ∃ τ, σ' = σ ++ τ) : Ans f args σ v := h
/-- At a call. -/
theorem Ans.call {f : FuncId} {args : Array Value} {σ : Heap} {v : Value} {R : Value → Heap → Prop} (h : Ans f args σ v) (hr : ∀ τ, R v (σ ++ τ)) : @CALL Try.prog prims f args σ ⟨R⟩ :=
  CALL.of h fun _ _ ⟨e, τ, e2⟩ => by subst e; subst e2; exact hr τ
theorem ex_app (σ : Heap) (τ : Heap) : ∃ ρ, σ ++ τ = σ ++ ρ := ⟨τ, rfl⟩
theorem ex_nil (σ : Heap) : ∃ ρ : Heap, σ = σ ++ ρ := ⟨[], by simp⟩
@[simp] theorem ex_self (σ : Heap) : (∃ ρ : Heap, σ = σ ++ ρ) ↔ True := ⟨fun _ => trivial, fun _ => ex_nil σ⟩
@[simp] theorem ex_same (σ τ : Heap) : (∃ ρ : Heap, τ = ρ) ↔ True := ⟨fun _ => trivial, fun _ => ⟨τ, rfl⟩⟩
end Go.Proofs.Ytenbclcfhjdcaaa.AM
end
section
set_option maxHeartbeats 8000000
set_option linter.unusedVariables false
set_option linter.unusedSimpArgs false
/- Entries and keys, in plain words. -/
namespace Go.Proofs.Ytenbclcfhjdcaaa.B
structure Ent where
  s : Int
  n : Int
  p : Int
deriving DecidableEq, Inhabited
/-- Entry i. -/
def ent (l : List Ent) (i : Nat) : Ent := l.getD i ⟨0, 0, 0⟩
theorem ent_eq (l : List Ent) (i : Nat) (h : i < l.length) : ent l i = l[i] := by simp [ent, h]
/-- Is a key less than another one? -/
def lessK (a b c d : Int) : Bool := decide (a < c ∨ a = c ∧ b < d)
/-- Is it a key? -/
def rightK (a b : Int) : Bool := decide (0 ≤ a ∧ a ≤ 15 ∧ 0 ≤ b ∧ b ≤ 65535)
/-- Is an entry as it must be? -/
def rightE (a b p : Int) : Bool := decide ((0 ≤ a ∧ a ≤ 15 ∧ 0 ≤ b ∧ b ≤ 65535) ∧ 2 ≤ p ∧ p < 2048)
def okE (e : Ent) : Bool := rightE e.s e.n e.p
def lessE (a b : Ent) : Bool := lessK a.s a.n b.s b.n
/-- All entries up to k are right. -/
def allR (l : List Ent) : Bool := l.all okE
/-- Keys rise. -/
def rise (l : List Ent) : Bool := (List.range l.length).all fun i => decide (i = 0) || lessE (ent l (i - 1)) (ent l i)
/-- What Check answers. -/
def chk (lf : Bool) (l : List Ent) : Int := if 16 < l.length then 2 else if allR l = false then 10 else if rise l = false then 3 else if lf = false ∧ l.length = 0 then 3 else 0
def snd (l : List Ent) : Int := if 16 < l.length then 2 else if allR l = false then 10 else if rise l = false then 3 else 0
theorem allR_true {l : List Ent} : allR l = true ↔ ∀ i, i < l.length → okE (ent l i) = true := by
  unfold allR
  rw [List.all_eq_true]
  constructor
  · intro h i hi
    rw [ent_eq l i hi]
    exact h _ (List.getElem_mem hi)
  · intro h x hx
    obtain ⟨i, hi, rfl⟩ := List.getElem_of_mem hx
    rw [← ent_eq l i hi]
    exact h i hi
theorem allR_false {l : List Ent} {i : Nat} (hi : i < l.length) (h : okE (ent l i) = false) : allR l = false := by
  cases ha : allR l with
  | false => rfl
  | true => rw [allR_true.1 ha i hi] at h; cases h
theorem rise_true {l : List Ent} : rise l = true ↔ ∀ i, 0 < i → i < l.length → lessE (ent l (i - 1)) (ent l i) = true := by
  unfold rise
  rw [List.all_eq_true]
  constructor
  · intro h i h0 hi
    have := h i (by simpa using hi)
    simpa [show i ≠ 0 by omega] using this
  · intro h i hi
    simp at hi
    by_cases h0 : i = 0
    · simp [h0]
    · simp [h i (by omega) hi]
theorem rise_false {l : List Ent} {i : Nat} (h0 : 0 < i) (hi : i < l.length) (h : lessE (ent l (i - 1)) (ent l i) = false) : rise l = false := by
  cases ha : rise l with
  | false => rfl
  | true => rw [rise_true.1 ha i h0 hi] at h; cases h
end Go.Proofs.Ytenbclcfhjdcaaa.B
end
section
set_option maxHeartbeats 8000000
set_option linter.unusedVariables false
set_option linter.unusedSimpArgs false
/- Words of the walks over the machine of values. -/
namespace Go.Proofs.Ytenbclcfhjdcaaa.VM
open Go Go.Proofs AM
theorem hC (n : Nat) : CallOk Try.prog (acall Try.prog prims n) := acall_sound mixed prims_ok n
def noP (f : FuncId) : Bool := (knowns.find? (·.1 == f)).isNone && f != 89 && f != 111
theorem kn_none {f : FuncId} {xs : Array Value} {σ : Heap} (h : noP f = true) : prims f xs σ = none := by
  unfold noP at h
  simp only [Bool.and_eq_true, Option.isNone_iff_eq_none, bne_iff_ne, ne_eq] at h
  obtain ⟨⟨h1, h2⟩, h3⟩ := h
  unfold prims withPrim knownPrim
  rw [h1]
  have e1 : (if xs.size = 0 then (none : Option (FuncId × Value)).map fun p => (p.2, σ) else none) = none := by split <;> rfl
  rw [e1]
  unfold prims0 withPrim insA
  rw [if_neg h2, if_neg h3]
theorem w64 {n : Int} (h : -9223372036854775808 ≤ n ∧ n ≤ 9223372036854775807) : IntKind.i64.wrap n = n := IntWalk.i64_in n h
abbrev A (f : FuncId) (args : List V) (v : V) : Prop := Ans Try.prog prims f args v
abbrev AO (f : FuncId) (args : List V) (s : Nat) (rows : List (List V)) : Prop := AnsO Try.prog prims f args s rows
abbrev AK (f : FuncId) (args : List V) (v : Nat → V) (y : Ob) : Prop := AnsK Try.prog prims f args v y
def bo (b : Bool) : V := .lit (.bool b)
def i6 (n : Int) : V := .lit (.int .i64 n)
@[simp] theorem take_map_len {α β : Type} {f : α → β} {l : List α} : (l.map f).take l.length = l.map f := List.take_of_length_le (by simp)
attribute [simp] bo i6
end Go.Proofs.Ytenbclcfhjdcaaa.VM
end
section
set_option maxHeartbeats 8000000
set_option linter.unusedVariables false
set_option linter.unusedSimpArgs false
/- leaf: small functions. -/
namespace Go.Proofs.Ytenbclcfhjdcaaa.VM
open Go Go.Proofs AM B
theorem v_Less (a b c d : Int) : A 27 [.agg [i6 a, i6 b], .agg [i6 c, i6 d]] (bo (lessK a b c d)) := by
  intro H
  refine v_enter hC [] (fun _ _ => kn_none rfl) Try.func27 rfl ok27 (Nat.le_of_ble_eq_true rfl) fun hcl hbl => ?_
  simp
  by_cases h1 : a < c <;> by_cases h2 : a = c <;> simp [h1, h2, Try.results27] <;> first | (refine GV.ans hcl ?_; simp [lessK, h1, h2]; done) | (refine GV.ans0 ?_; simp [lessK, h1, h2]; done)
theorem v_Right (a b : Int) : A 22 [.agg [i6 a, i6 b]] (bo (rightK a b)) := by
  intro H
  refine v_enter hC [] (fun _ _ => kn_none rfl) Try.func22 rfl ok22 (Nat.le_of_ble_eq_true rfl) fun hcl hbl => ?_
  simp
  by_cases h1 : 0 ≤ a <;> by_cases h2 : a ≤ 15 <;> by_cases h3 : 0 ≤ b <;> simp [h1, h2, h3, Try.results22] <;> first | (refine GV.ans hcl ?_; simp [rightK, h1, h2, h3]; done) | (refine GV.ans0 ?_; simp [rightK, h1, h2, h3]; done)
theorem v_right (a b p : Int) : A 88 [.agg [i6 a, i6 b, i6 p]] (bo (rightE a b p)) := by
  intro H
  refine v_enter hC [] (fun _ _ => kn_none rfl) Try.func88 rfl ok88 (Nat.le_of_ble_eq_true rfl) fun hcl hbl => ?_
  simp
  refine (v_Right a b).call ?_
  have hr : rightE a b p = (rightK a b && decide (2 ≤ p) && decide (p < 2048)) := by rw [Bool.eq_iff_iff]; simp [rightE, rightK]; omega
  rw [hr]
  cases rightK a b
  · simp [Try.results88]
    first | (refine GV.ans hcl ?_; simp []; done) | (refine GV.ans0 ?_; simp []; done)
  · simp
    by_cases h1 : 2 ≤ p <;> simp [h1, Try.results88] <;> first | (refine GV.ans hcl ?_; simp [h1]; done) | (refine GV.ans0 ?_; simp [h1]; done)
theorem v_sound1 (a b p : Int) : A 108 [.agg [i6 a, i6 b, i6 p]] (bo (!rightE a b p)) := by
  intro H
  refine v_enter hC [] (fun _ _ => kn_none rfl) Try.func108 rfl ok108 (Nat.le_of_ble_eq_true rfl) fun hcl hbl => ?_
  simp
  refine (v_right a b p).call ?_
  simp [Try.results108]
  first | (refine GV.ans hcl ?_; simp []; done) | (refine GV.ans0 ?_; simp []; done)
theorem v_key (a b : Int) : A 23 [.agg [i6 a, i6 b]] (.agg [i6 a, i6 b]) := by
  intro H
  refine v_enter hC [] (fun _ _ => kn_none rfl) Try.func23 rfl ok23 (Nat.le_of_ble_eq_true rfl) fun hcl hbl => ?_
  simp [Try.results23]
  first | (refine GV.ans hcl ?_; simp []; done) | (refine GV.ans0 ?_; simp []; done)
theorem v_entry (a b p : Int) : A 45 [.agg [i6 a, i6 b, i6 p]] (.agg [i6 a, i6 b, i6 p]) := by
  intro H
  refine v_enter hC [] (fun _ _ => kn_none rfl) Try.func45 rfl ok45 (Nat.le_of_ble_eq_true rfl) fun hcl hbl => ?_
  simp
  refine v_draw (ord := [0, 1, 2, 3, 4, 5, 6]) (m := 5) (by decide +kernel) (by decide +kernel) ?_
  simp
  refine (v_key a b).call ?_
  simp [Try.results45]
  first | (refine GV.ans hcl ?_; simp []; done) | (refine GV.ans0 ?_; simp []; done)
theorem v_Place (a b : Int) : A 26 [.agg [i6 a, i6 b]] (i6 (IntKind.i64.wrap (IntKind.i64.wrap (65536 * a) + b))) := by
  intro H
  refine v_enter hC [] (fun _ _ => kn_none rfl) Try.func26 rfl ok26 (Nat.le_of_ble_eq_true rfl) fun hcl hbl => ?_
  simp [Try.results26]
  first | (refine GV.ans hcl ?_; simp []; done) | (refine GV.ans0 ?_; simp []; done)
theorem v_rRight (a b p : Int) : A 47 [.agg [i6 a, i6 b, i6 p]] (bo (rightE a b p)) := by
  intro H
  refine v_enter hC [] (fun _ _ => kn_none rfl) Try.func47 rfl ok47 (Nat.le_of_ble_eq_true rfl) fun hcl hbl => ?_
  simp
  have hr : rightE a b p = (decide (0 ≤ a) && (decide (a < 16) && (decide (0 ≤ b) && (decide (b < 65536) && (decide (1 < p) && decide (p < 2048)))))) := by rw [Bool.eq_iff_iff]; simp [rightE]; omega
  rw [hr]
  by_cases h1 : 0 ≤ a <;> by_cases h2 : a < 16 <;> by_cases h3 : 0 ≤ b <;> by_cases h4 : b < 65536 <;> by_cases h5 : 1 < p <;> simp [h1, h2, h3, h4, h5, Try.results47] <;> first | (refine GV.ans hcl ?_; simp [h1, h2, h3, h4, h5]; done) | (refine GV.ans0 ?_; simp [h1, h2, h3, h4, h5]; done)
end Go.Proofs.Ytenbclcfhjdcaaa.VM
end
section
set_option maxHeartbeats 8000000
set_option linter.unusedVariables false
set_option linter.unusedSimpArgs false
/- leaf: sound and Check. -/
namespace Go.Proofs.Ytenbclcfhjdcaaa.VM
open Go Go.Proofs AM B
def ec (e : Ent) : List V := [i6 e.s, i6 e.n, i6 e.p]
/-- A slice of entries. -/
def ES (k : Bool) (l : List Ent) : V := .fsl k 3 (l.map ec)
attribute [simp] ES ec
theorem getE {l : List Ent} {k : Nat} (h : k < l.length) : l[k]? = some (ent l k) := by rw [List.getElem?_eq_getElem h, ent_eq l k h]
/-- The first entry that isn't right. -/
def badAt (l : List Ent) : Int := match l.findIdx? (fun e => !okE e) with
  | some i => i
  | none => -1
theorem findIdx_from {p : Ent → Bool} {l : List Ent} {k : Nat} (h : ∀ j, j < k → p (ent l j) = false) (hk : k < l.length) (hp : p (ent l k) = true) : l.findIdx? p = some k := by
  rw [List.findIdx?_eq_some_iff_getElem]
  refine ⟨hk, ?_, fun j hj => ?_⟩
  · rw [← ent_eq l k hk]; exact hp
  · have := h j hj
    rw [ent_eq l j (by omega)] at this
    simp [this]
theorem findIdx_none {p : Ent → Bool} {l : List Ent} (h : ∀ j, j < l.length → p (ent l j) = false) : l.findIdx? p = none := by
  rw [List.findIdx?_eq_none_iff]
  intro x hx
  obtain ⟨i, hi, rfl⟩ := List.getElem_of_mem hx
  rw [← ent_eq l i hi]
  exact h i hi
theorem badAt_neg {l : List Ent} : badAt l < 0 ↔ allR l = true := by
  unfold badAt allR
  cases h : l.findIdx? (fun e => !okE e) with
  | none =>
    rw [List.findIdx?_eq_none_iff] at h
    simp only [List.all_eq_true]
    refine ⟨fun _ x hx => by simpa using h x hx, fun _ => by decide⟩
  | some i =>
    obtain ⟨hi, h1, _⟩ := List.findIdx?_eq_some_iff_getElem.1 h
    simp at h1
    have : l.all okE = false := by
      rw [List.all_eq_false]
      exact ⟨l[i], List.getElem_mem hi, by simp [h1]⟩
    rw [this]
    simp
set_option maxRecDepth 100000
theorem v_IndexFunc {kk : Bool} {l : List Ent} (hl : l.length < 2 ^ 48) : A 116 [ES kk l, .fn 108 [] []] (i6 (badAt l)) := by
  intro H
  refine v_enter hC [] (fun _ _ => kn_none rfl) Try.func116 rfl ok116 (Nat.le_of_ble_eq_true rfl) fun hcl hbl => ?_
  simp
  refine v_loopX hC (fun (k : Nat) e T => T = H ∧ e 0 = ES kk l ∧ e 1 = .fn 108 [] [] ∧ e 7 = i6 l.length ∧ e 8 = i6 k ∧ k ≤ l.length ∧ ∀ j, j < k → okE (ent l j) = true) (fun k => l.length - k) 0 (G.refl ?_) ?_
  · simp
  · rintro k e T ⟨rfl, h0, h1, h7, h8, hk, hall⟩
    simp [h0, h1, h7, h8]
    refine CondV.dec (fun hlt => ?_) (fun hge => ?_)
    · have hlt : k < l.length := by omega
      simp [h0, h1, h7, h8, getE hlt]
      refine (v_sound1 _ _ _).call ?_
      simp
      refine CondV.on (fun hb => ?_) (fun hb => ?_)
      · have : badAt l = k := by
          unfold badAt
          rw [findIdx_from (k := k) (fun j hj => by simp [hall j hj]) hlt (by simpa [okE] using hb)]
        simp [Try.results116, this]
        first | (refine GV.ans hcl ?_; simp [this]; done) | (refine GV.ans0 ?_; simp [this]; done)
      · simp [h0, h1, h7, h8, w64 (n := (k : Int) + 1) (by omega)]
        refine GH.refl ⟨k + 1, ⟨rfl, ?_, ?_, ?_, ?_, hlt, fun j hj => ?_⟩, by omega⟩ <;> (try simp [h0, h1, h7])
        by_cases hjk : j = k
        · subst hjk; simpa [okE] using hb
        · exact hall j (by omega)
    · have : badAt l = -1 := by
        unfold badAt
        rw [findIdx_none fun j hj => by simp [hall j (by omega)]]
      simp [Try.results116, this]
      first | (refine GV.ans hcl ?_; simp [this]; done) | (refine GV.ans0 ?_; simp [this]; done)
theorem v_ContainsFunc {kk : Bool} {l : List Ent} (hl : l.length < 2 ^ 48) : A 107 [ES kk l, .fn 108 [] []] (bo (!allR l)) := by
  intro H
  refine v_enter hC [] (fun _ _ => kn_none rfl) Try.func107 rfl ok107 (Nat.le_of_ble_eq_true rfl) fun hcl hbl => ?_
  simp
  refine (v_IndexFunc hl).call ?_
  simp [Try.results107]
  have := badAt_neg (l := l)
  have e : decide (0 ≤ badAt l) = !allR l := by cases h : allR l <;> simp [h] at this ⊢ <;> omega
  first | (refine GV.ans hcl ?_; simp [e]; done) | (refine GV.ans0 ?_; simp [e]; done)
theorem v_rising {kk : Bool} {l : List Ent} (hl : l.length < 2 ^ 48) : A 80 [ES kk l] (bo (rise l)) := by
  intro H
  refine v_enter hC [] (fun _ _ => kn_none rfl) Try.func80 rfl ok80 (Nat.le_of_ble_eq_true rfl) fun hcl hbl => ?_
  simp
  refine v_loopX hC (fun (k : Nat) e T => T = H ∧ e 0 = ES kk l ∧ e 5 = i6 l.length ∧ e 6 = i6 k ∧ k ≤ l.length ∧ ∀ j, 0 < j → j < k → lessE (ent l (j - 1)) (ent l j) = true) (fun k => l.length - k) 0 (G.refl ?_) ?_
  · simp
  · rintro k e T ⟨rfl, h0, h5, h6, hk, hall⟩
    simp [h0, h5, h6]
    refine CondV.dec (fun hlt => ?_) (fun hge => ?_)
    · have hlt : k < l.length := by omega
      simp [h0, h5, h6]
      refine v_draw (ord := [0, 1, 2, 3, 4, 5, 6, 7, 8, 9, 10, 11, 12, 13, 14, 15, 16]) (m := 14) (by decide +kernel) (by decide +kernel) ?_
      simp [h0, h5, h6]
      refine GuardR.dec (fun hpos => ?_) (fun hz => ?_)
      · have hw : IntKind.i64.wrap ((k : Int) - 1) = ((k - 1 : Nat) : Int) := by rw [w64 (by omega)]; omega
        simp [h0, h5, h6, getE hlt, hw, getE (show k - 1 < l.length by omega), hpos]
        refine (v_Less _ _ _ _).call ?_
        simp [hpos]
        refine CondV.on (fun hb => ?_) (fun hb => ?_)
        · have : rise l = false := rise_false hpos hlt (by simpa [lessE] using hb)
          simp [Try.results80, this]
          first | (refine GV.ans hcl ?_; simp [this]; done) | (refine GV.ans0 ?_; simp [this]; done)
        · simp [h0, h5, h6, w64 (n := (k : Int) + 1) (by omega)]
          refine GH.refl ⟨k + 1, ⟨rfl, ?_, ?_, ?_, hlt, fun j hj0 hj => ?_⟩, by omega⟩ <;> (try simp [h0, h5])
          by_cases hjk : j = k
          · subst hjk; simpa [lessE] using hb
          · exact hall j hj0 (by omega)
      · have hz : k = 0 := by omega
        subst hz
        simp [h0, h5, h6, w64]
        refine GH.refl ⟨1, ⟨rfl, ?_, ?_, ?_, hlt, fun j hj0 hj => by omega⟩, by omega⟩ <;> simp [h0, h5]
    · have : rise l = true := rise_true.2 fun i hi0 hi => hall i hi0 (by omega)
      simp [Try.results80, this]
      first | (refine GV.ans hcl ?_; simp [this]; done) | (refine GV.ans0 ?_; simp [this]; done)
theorem v_sound {kk : Bool} {l : List Ent} (hl : l.length < 2 ^ 48) {lf : Bool} : A 86 [.agg [bo lf, ES kk l]] (i6 (snd l)) := by
  intro H
  refine v_enter hC [] (fun _ _ => kn_none rfl) Try.func86 rfl ok86 (Nat.le_of_ble_eq_true rfl) fun hcl hbl => ?_
  simp
  refine CondV.dec (fun h => ?_) (fun h => ?_)
  · simp [Try.results86]
    first | (refine GV.ans hcl ?_; simp [snd, show 16 < l.length by omega]; done) | (refine GV.ans0 ?_; simp [snd, show 16 < l.length by omega]; done)
  · simp
    refine (v_ContainsFunc hl).call ?_
    simp
    refine CondV.on (fun h2 => ?_) (fun h2 => ?_)
    · simp at h2
      simp [Try.results86]
      first | (refine GV.ans hcl ?_; simp [snd, show ¬ 16 < l.length by omega, h2]; done) | (refine GV.ans0 ?_; simp [snd, show ¬ 16 < l.length by omega, h2]; done)
    · simp at h2
      simp
      refine (v_rising hl).call ?_
      simp
      refine CondV.on (fun h3 => ?_) (fun h3 => ?_)
      · simp at h3
        simp [Try.results86]
        first | (refine GV.ans hcl ?_; simp [snd, show ¬ 16 < l.length by omega, h2, h3]; done) | (refine GV.ans0 ?_; simp [snd, show ¬ 16 < l.length by omega, h2, h3]; done)
      · simp at h3
        simp [Try.results86]
        first | (refine GV.ans hcl ?_; simp [snd, show ¬ 16 < l.length by omega, h2, h3]; done) | (refine GV.ans0 ?_; simp [snd, show ¬ 16 < l.length by omega, h2, h3]; done)
theorem chk_snd (lf : Bool) (l : List Ent) : chk lf l = if snd l ≠ 0 then snd l else if lf = false ∧ l.length = 0 then 3 else 0 := by
  unfold chk snd
  split
  · rfl
  · split
    · rfl
    · split <;> simp
theorem v_Check {kk : Bool} {l : List Ent} (hl : l.length < 2 ^ 48) {lf : Bool} : A 42 [.agg [bo lf, ES kk l]] (i6 (chk lf l)) := by
  intro H
  refine v_enter hC [] (fun _ _ => kn_none rfl) Try.func42 rfl ok42 (Nat.le_of_ble_eq_true rfl) fun hcl hbl => ?_
  simp
  rw [chk_snd]
  refine (v_sound hl).call ?_
  simp
  refine CondV.on (fun h2 => ?_) (fun h2 => ?_)
  · simp at h2
    simp [Try.results42]
    first | (refine GV.ans hcl ?_; simp [h2]; done) | (refine GV.ans0 ?_; simp [h2]; done)
  · simp at h2
    cases lf
    · simp [h2]
      refine CondV.dec (fun h => ?_) (fun h => ?_)
      · have h : l = [] := by simpa using h
        subst h; simp [Try.results42]
        first | (refine GV.ans hcl ?_; simp [h2]; done) | (refine GV.ans0 ?_; simp [h2]; done)
      · have h : l ≠ [] := by simpa using h
        simp [Try.results42]
        first | (refine GV.ans hcl ?_; simp [h, h2]; done) | (refine GV.ans0 ?_; simp [h, h2]; done)
    · simp [Try.results42]
      first | (refine GV.ans hcl ?_; simp [h2]; done) | (refine GV.ans0 ?_; simp [h2]; done)
end Go.Proofs.Ytenbclcfhjdcaaa.VM
end
section
set_option maxHeartbeats 8000000
set_option linter.unusedVariables false
set_option linter.unusedSimpArgs false
/- leaf: To and Of. -/
namespace Go.Proofs.Ytenbclcfhjdcaaa.VM
open Go Go.Proofs AM B
theorem take_ec {l : List Ent} {k : Nat} (h : k < l.length) : (l.map ec).take (k + 1) = (l.map ec).take k ++ [ec (ent l k)] := by
  rw [← List.map_take, ent_eq l k h, List.take_succ_eq_append_getElem h, List.map_append, List.map_take]; rfl
set_option maxRecDepth 100000
theorem v_To {kk : Bool} {l : List Ent} {lf : Bool} (hl : l.length < 2 ^ 63) : A 20 [.agg [bo lf, ES kk l]] (.agg [bo lf, ES true (l.take 18)]) := by
  intro H
  refine v_enter hC [] (fun _ _ => kn_none rfl) Try.func20 rfl ok20 (Nat.le_of_ble_eq_true rfl) fun hcl hbl => ?_
  simp
  refine v_loopX hC (fun (k : Nat) e T => ∃ w t, T = H ++ [.mem [bo lf, ES kk l] true, .mem [bo false, .lit (.slice none 0 0)] true, .mem [bo lf, .own (H.length + 3) w] true, .vec w ((l.map ec).take k) 3 true t] ∧
    e 1 = .ptr H.length 0 ∧ e 2 = .ptr (H.length + 1) 0 ∧ e 3 = .ptr (H.length + 2) 0 ∧ e 4 = i6 k ∧ k ≤ l.length ∧ k ≤ 18) (fun k => 18 - k) 0 ?_ ?_
  · refine G.nils (Z' := [.mem [bo lf, ES kk l] true, .mem [bo false, .lit (.slice none 0 0)] true, .mem [bo lf, .own (H.length + 3) 0] true]) [3] hcl (by simp) (by simp) ?_ ?_
    · simp
    · exact ⟨0, true, by simp, by simp, by simp, by simp, by simp, by simp, by simp⟩
  · rintro k e T ⟨w, t, rfl, h1, h2, h3, h4, hk, hk18⟩
    simp [h1, h2, h3, h4]
    have fin : ∀ m, l.take 18 = l.take m → List.take m (List.map ec l) = List.map ec (List.take 18 l) := fun m h => by rw [h, List.map_take]
    refine GuardR.dec (fun hkl => ?_) (fun hkl => ?_)
    · simp [h4, hkl]
      refine CondV.dec (fun hk8 => ?_) (fun hk8 => ?_)
      · have hk8 : k < 18 := by omega
        simp
        refine v_draw (ord := [0, 1, 2, 3, 4, 5, 6, 7, 8, 9, 10, 11]) (m := 9) (by decide +kernel) (by decide +kernel) ?_
        simp [h1, h2, h3, h4, getE hkl]
        refine (v_entry _ _ _).call ?_
        simp
        refine ⟨by omega, ?_⟩
        simp [h1, h2, h3, h4, w64 (n := (k : Int) + 1) (by omega)]
        refine GH.refl ⟨k + 1, ⟨w + 1, t, ?_, ?_, ?_, ?_, ?_, hkl, hk8⟩, by omega⟩ <;> simp [h1, h2, h3, take_ec hkl]
      · have e1 := fin k (by rw [show k = 18 by omega])
        simp [h1, h2, h3, h4, Try.results20]
        first | (refine GV.ans hcl ?_; simp [e1]; done) | (refine GV.ans0 ?_; simp [e1]; done)
    · have e1 := fin k (by rw [List.take_of_length_le (by omega), List.take_of_length_le (by omega)])
      simp [hkl]
      simp [h1, h2, h3, h4, Try.results20]
      first | (refine GV.ans hcl ?_; simp [e1]; done) | (refine GV.ans0 ?_; simp [e1]; done)
theorem v_Of {kk : Bool} {l : List Ent} {lf : Bool} (hl : l.length ≤ 100000) : A 21 [.agg [bo lf, ES kk l]] (.agg [bo lf, ES true l]) := by
  intro H
  refine v_enter hC [] (fun _ _ => kn_none rfl) Try.func21 rfl ok21 (Nat.le_of_ble_eq_true rfl) fun hcl hbl => ?_
  simp
  refine v_loopX hC (fun (k : Nat) e T => ∃ w t, T = H ++ [.mem [bo lf, ES kk l] true, .mem [bo false, .lit (.slice none 0 0)] true, .mem [bo lf, .own (H.length + 3) w] true, .vec w ((l.map ec).take k) 3 true t] ∧
    e 1 = .ptr H.length 0 ∧ e 2 = .ptr (H.length + 1) 0 ∧ e 3 = .ptr (H.length + 2) 0 ∧ e 4 = i6 k ∧ k ≤ l.length) (fun k => l.length - k) 0 ?_ ?_
  · refine G.nils (Z' := [.mem [bo lf, ES kk l] true, .mem [bo false, .lit (.slice none 0 0)] true, .mem [bo lf, .own (H.length + 3) 0] true]) [3] hcl (by simp) (by simp) ?_ ?_
    · simp
    · exact ⟨0, true, by simp, by simp, by simp, by simp, by simp, by simp⟩
  · rintro k e T ⟨w, t, rfl, h1, h2, h3, h4, hk⟩
    simp [h1, h2, h3, h4]
    refine CondV.dec (fun hkl => ?_) (fun hkl => ?_)
    · simp
      refine v_draw (ord := [0, 1, 2, 3, 4, 5, 6, 7, 8, 9, 10, 11, 12, 13, 14, 15, 16, 17, 18, 19, 20, 21, 22, 23, 24, 25, 26, 27]) (m := 25) (by decide +kernel) (by decide +kernel) ?_
      simp [h1, h2, h3, h4, getE hkl]
      refine ⟨by omega, ?_⟩
      simp [h1, h2, h3, h4, w64 (n := (k : Int) + 1) (by omega)]
      refine GH.refl ⟨k + 1, ⟨w + 1, t, ?_, ?_, ?_, ?_, ?_, hkl⟩, by omega⟩ <;> simp [h1, h2, h3, take_ec hkl]
    · have e1 : List.take k (List.map ec l) = List.map ec l := List.take_of_length_le (by simp; omega)
      simp [h1, h2, h3, h4, Try.results21]
      first | (refine GV.ans hcl ?_; simp [e1]; done) | (refine GV.ans0 ?_; simp [e1]; done)
end Go.Proofs.Ytenbclcfhjdcaaa.VM
end
section
set_option maxHeartbeats 8000000
set_option linter.unusedVariables false
set_option linter.unusedSimpArgs false
/- Structs held against each other. -/
namespace Go.Proofs.Ytenbclcfhjdcaaa.VM
open Go Go.Proofs AM B
theorem part_int (cs : Array Value) (off : Nat) : pureRun Try.prog (part 3 cs off) = cs[off]? := by
  unfold part
  rw [pureRun_bind, show pureRun Try.prog (isAgg 3) = some false by kernel_rfl]
  simp
  cases cs[off]? <;> rfl
theorem eqP_int (d : Nat) (k : IntKind) (a b : Int) : pureRun Try.prog (Op.equalIn (d + 1) 3 (.int k a) (.int k b)) = some (decide (a = b)) := by
  unfold Op.equalIn
  simp [pureRun_bind, pureRun_underlying, Bool.beq_eq_decide_eq]
theorem eqP_key (d : Nat) (a0 b0 a1 b1 : Int) : pureRun Try.prog (Op.equalIn (d + 2) 46 (.agg #[.int .i64 a0, .int .i64 a1]) (.agg #[.int .i64 b0, .int .i64 b1])) = some (decide (a0 = b0 ∧ a1 = b1)) := by
  unfold Op.equalIn
  by_cases h0 : a0 = b0 <;> by_cases h1 : a1 = b1 <;> simp [pureRun_bind, pureRun_underlying, pureRun_program, show Try.prog.stoodInHeld 46 = false by kernel_rfl, part_int, eqP_int, h0, h1]
theorem eqP_rkey (d : Nat) (a0 b0 a1 b1 : Int) : pureRun Try.prog (Op.equalIn (d + 2) 39 (.agg #[.int .i64 a0, .int .i64 a1]) (.agg #[.int .i64 b0, .int .i64 b1])) = some (decide (a0 = b0 ∧ a1 = b1)) := by
  unfold Op.equalIn
  by_cases h0 : a0 = b0 <;> by_cases h1 : a1 = b1 <;> simp [pureRun_bind, pureRun_underlying, pureRun_program, show Try.prog.stoodInHeld 39 = false by kernel_rfl, part_int, eqP_int, h0, h1]
theorem part_key (a b c : Value) : pureRun Try.prog (part 46 #[a, b, c] 0) = some (.agg #[a, b]) := by kernel_rfl
theorem part_rkey (a b c : Value) : pureRun Try.prog (part 39 #[a, b, c] 0) = some (.agg #[a, b]) := by kernel_rfl
theorem eqP_ent (d : Nat) (a0 b0 a1 b1 a2 b2 : Int) : pureRun Try.prog (Op.equalIn (d + 3) 54 (.agg #[.int .i64 a0, .int .i64 a1, .int .i64 a2]) (.agg #[.int .i64 b0, .int .i64 b1, .int .i64 b2])) = some (decide (a0 = b0 ∧ a1 = b1 ∧ a2 = b2)) := by
  unfold Op.equalIn
  by_cases h0 : a0 = b0 <;> by_cases h1 : a1 = b1 <;> by_cases h2 : a2 = b2 <;> simp [pureRun_bind, pureRun_underlying, pureRun_program, show Try.prog.stoodInHeld 54 = false by kernel_rfl, part_int, part_key, eqP_int, eqP_key, h0, h1, h2]
theorem eqP_rent (d : Nat) (a0 b0 a1 b1 a2 b2 : Int) : pureRun Try.prog (Op.equalIn (d + 3) 51 (.agg #[.int .i64 a0, .int .i64 a1, .int .i64 a2]) (.agg #[.int .i64 b0, .int .i64 b1, .int .i64 b2])) = some (decide (a0 = b0 ∧ a1 = b1 ∧ a2 = b2)) := by
  unfold Op.equalIn
  by_cases h0 : a0 = b0 <;> by_cases h1 : a1 = b1 <;> by_cases h2 : a2 = b2 <;> simp [pureRun_bind, pureRun_underlying, pureRun_program, show Try.prog.stoodInHeld 51 = false by kernel_rfl, part_int, part_rkey, eqP_int, eqP_rkey, h0, h1, h2]
@[simp] theorem eqS_key (a0 b0 a1 b1 : Int) : eqS Try.prog 46 #[.int .i64 a0, .int .i64 a1] #[.int .i64 b0, .int .i64 b1] = some (decide (a0 = b0 ∧ a1 = b1)) := by
  unfold eqS
  rw [if_pos ⟨by simp, by simp, by kernel_rfl⟩]
  exact eqP_key 9998 ..
@[simp] theorem eqS_rkey (a0 b0 a1 b1 : Int) : eqS Try.prog 39 #[.int .i64 a0, .int .i64 a1] #[.int .i64 b0, .int .i64 b1] = some (decide (a0 = b0 ∧ a1 = b1)) := by
  unfold eqS
  rw [if_pos ⟨by simp, by simp, by kernel_rfl⟩]
  exact eqP_rkey 9998 ..
@[simp] theorem eqS_ent (a0 b0 a1 b1 a2 b2 : Int) : eqS Try.prog 54 #[.int .i64 a0, .int .i64 a1, .int .i64 a2] #[.int .i64 b0, .int .i64 b1, .int .i64 b2] = some (decide (a0 = b0 ∧ a1 = b1 ∧ a2 = b2)) := by
  unfold eqS
  rw [if_pos ⟨by simp, by simp, by kernel_rfl⟩]
  exact eqP_ent 9997 ..
@[simp] theorem eqS_rent (a0 b0 a1 b1 a2 b2 : Int) : eqS Try.prog 51 #[.int .i64 a0, .int .i64 a1, .int .i64 a2] #[.int .i64 b0, .int .i64 b1, .int .i64 b2] = some (decide (a0 = b0 ∧ a1 = b1 ∧ a2 = b2)) := by
  unfold eqS
  rw [if_pos ⟨by simp, by simp, by kernel_rfl⟩]
  exact eqP_rent 9997 ..
theorem ents_eq {l m : List Ent} (h : l.length = m.length) (hall : ∀ j, j < l.length → ent l j = ent m j) : l = m := by
  apply List.ext_getElem h
  intro i h1 h2
  rw [← ent_eq l i h1, ← ent_eq m i h2]
  exact hall i h1
theorem ent_same {a b : Ent} : a = b ↔ a.s = b.s ∧ a.n = b.n ∧ a.p = b.p := by cases a; cases b; simp
set_option maxRecDepth 100000
theorem v_Equal {kk km : Bool} {l m : List Ent} (hl : l.length < 2 ^ 48) : A 81 [ES kk l, ES km m] (bo (decide (l = m))) := by
  intro H
  refine v_enter hC [] (fun _ _ => kn_none rfl) Try.func81 rfl ok81 (Nat.le_of_ble_eq_true rfl) fun hcl hbl => ?_
  simp
  by_cases hlen : l.length = m.length
  · simp [hlen]
    refine v_loopX hC (fun (k : Nat) e T => T = H ∧ e 0 = ES kk l ∧ e 1 = ES km m ∧ e 12 = i6 l.length ∧ e 13 = i6 k ∧ k ≤ l.length ∧ ∀ j, j < k → ent l j = ent m j) (fun k => l.length - k) 0 (G.refl ?_) ?_
    · simp [hlen]
    · rintro k e T ⟨rfl, h0, h1, h12, h13, hk, hall⟩
      simp [h0, h1, h12, h13]
      refine CondV.dec (fun hlt => ?_) (fun hge => ?_)
      · have hlt : k < l.length := by omega
        simp [h0, h1, h12, h13]
        refine v_draw (ord := [0, 1, 2, 3, 4, 5, 6, 7, 8]) (m := 8) (by decide +kernel) (by decide +kernel) ?_
        simp [h0, h1, h12, h13, getE hlt, getE (show k < m.length by omega)]
        refine CondV.on (fun hb => ?_) (fun hb => ?_)
        · have : l ≠ m := fun e => by
            subst e
            simp at hb
          simp [Try.results81]
          first | (refine GV.ans hcl ?_; simp [this]; done) | (refine GV.ans0 ?_; simp [this]; done)
        · have hb : ent l k = ent m k := by rw [ent_same]; simpa using hb
          simp [h0, h1, h12, h13, w64 (n := (k : Int) + 1) (by omega)]
          refine GH.refl ⟨k + 1, ⟨rfl, ?_, ?_, ?_, ?_, hlt, fun j hj => ?_⟩, by omega⟩ <;> (try simp [h0, h1, h12])
          by_cases hjk : j = k
          · subst hjk; exact hb
          · exact hall j (by omega)
      · have : l = m := ents_eq hlen fun j hj => hall j (by omega)
        simp [Try.results81]
        first | (refine GV.ans hcl ?_; simp [this]; done) | (refine GV.ans0 ?_; simp [this]; done)
  · have : l ≠ m := fun e => hlen (by rw [e])
    have hlen : ¬ ((l.length : Int) = m.length) := by omega
    simp [hlen, Try.results81]
    first | (refine GV.ans hcl ?_; simp [this]; done) | (refine GV.ans0 ?_; simp [this]; done)
theorem v_Same {kk km : Bool} {l m : List Ent} (hl : l.length < 2 ^ 48) {a b : Bool} : A 37 [.agg [bo a, ES kk l], .agg [bo b, ES km m]] (bo (decide (a = b ∧ l = m))) := by
  intro H
  refine v_enter hC [] (fun _ _ => kn_none rfl) Try.func37 rfl ok37 (Nat.le_of_ble_eq_true rfl) fun hcl hbl => ?_
  simp
  rw [Bool.beq_eq_decide_eq]
  by_cases h : a = b
  · subst h
    simp
    refine (v_Equal hl).call ?_
    simp [Try.results37]
    first | (refine GV.ans hcl ?_; simp []; done) | (refine GV.ans0 ?_; simp []; done)
  · simp [h, Try.results37]
    first | (refine GV.ans hcl ?_; simp [h]; done) | (refine GV.ans0 ?_; simp [h]; done)
theorem v_rSame {kk km : Bool} {l m : List Ent} (hl : l.length < 2 ^ 48) {a b : Bool} : A 36 [.agg [bo a, ES kk l], .agg [bo b, ES km m]] (bo (decide (a = b ∧ l = m))) := by
  intro H
  refine v_enter hC [] (fun _ _ => kn_none rfl) Try.func36 rfl ok36 (Nat.le_of_ble_eq_true rfl) fun hcl hbl => ?_
  simp
  rw [Bool.beq_eq_decide_eq]
  by_cases hab : a = b
  · subst hab
    by_cases hlen : l.length = m.length
    · simp [hlen]
      refine v_loopX hC (fun (k : Nat) e T => T = H ++ [.mem [bo a, ES kk l] true, .mem [bo a, ES km m] true] ∧ e 2 = .ptr H.length 0 ∧ e 3 = .ptr (H.length + 1) 0 ∧ e 5 = i6 k ∧ k ≤ l.length ∧ ∀ j, j < k → ent l j = ent m j) (fun k => l.length - k) 0 (G.refl ?_) ?_
      · simp
      · rintro k e T ⟨rfl, h2, h3, h5, hk, hall⟩
        simp [h2, h3, h5]
        refine CondV.dec (fun hlt => ?_) (fun hge => ?_)
        · have hlt : k < l.length := by omega
          simp [h2, h3, h5]
          refine v_draw (ord := [0, 1, 2, 3, 4, 5, 6, 7, 8, 9, 10]) (m := 10) (by decide +kernel) (by decide +kernel) ?_
          simp [h2, h3, h5, getE hlt, getE (show k < m.length by omega)]
          refine CondV.on (fun hb => ?_) (fun hb => ?_)
          · have : l ≠ m := fun e => by
              subst e
              simp at hb
            simp [Try.results36]
            first | (refine GV.ans hcl ?_; simp [this]; done) | (refine GV.ans0 ?_; simp [this]; done)
          · have hb : ent l k = ent m k := by rw [ent_same]; simpa using hb
            simp [h2, h3, h5, w64 (n := (k : Int) + 1) (by omega)]
            refine GH.refl ⟨k + 1, ⟨rfl, ?_, ?_, ?_, hlt, fun j hj => ?_⟩, by omega⟩ <;> (try simp [h2, h3])
            by_cases hjk : j = k
            · subst hjk; exact hb
            · exact hall j (by omega)
        · have : l = m := ents_eq hlen fun j hj => hall j (by omega)
          simp [Try.results36]
          first | (refine GV.ans hcl ?_; simp [this]; done) | (refine GV.ans0 ?_; simp [this]; done)
    · have : l ≠ m := fun e => hlen (by rw [e])
      have hlen : ¬ ((l.length : Int) = m.length) := by omega
      simp [hlen, Try.results36]
      first | (refine GV.ans hcl ?_; simp [this]; done) | (refine GV.ans0 ?_; simp [this]; done)
  · simp [hab, Try.results36]
    first | (refine GV.ans hcl ?_; simp [hab]; done) | (refine GV.ans0 ?_; simp [hab]; done)
end Go.Proofs.Ytenbclcfhjdcaaa.VM
end
section
set_option maxHeartbeats 8000000
set_option linter.unusedVariables false
set_option linter.unusedSimpArgs false
/- leaf: Clone, Grow at nil, Concat. -/
namespace Go.Proofs.Ytenbclcfhjdcaaa.VM
open Go Go.Proofs AM B
set_option maxRecDepth 100000
theorem v_Clone {kk : Bool} {l : List Ent} (hl : l.length ≤ 100000) : AO 77 [ES kk l] 3 (l.map ec) := by
  intro H
  refine v_enter hC [] (fun _ _ => kn_none rfl) Try.func77 rfl ok77 (Nat.le_of_ble_eq_true rfl) fun hcl hbl => ?_
  simp [Try.results77]
  refine ⟨⟨by omega, ?_⟩, fun h => ?_⟩
  · exact GV.own hcl (List.getElem?_concat_length ..) (Nat.le_refl _) (by simp) (PureR_map.2 (by simp)) ⟨_, _, rfl, rfl⟩
  · subst h
    exact GV.nil0 hcl (by omega) (by omega) ⟨_, _, rfl, rfl⟩
theorem v_Grow {n : Nat} (hn : n ≤ 100000000) : AO 103 [.lit (.slice none 0 0), i6 n] 3 [] := by
  intro H
  refine v_enter hC [] (fun _ _ => kn_none rfl) Try.func103 rfl ok103 (Nat.le_of_ble_eq_true rfl) fun hcl hbl => ?_
  simp
  refine CondV.dec (fun h => by omega) (fun h => ?_)
  simp [w64 (n := (n : Int)) (by omega), w64 (n := (0 : Int)) (by omega)]
  refine CondV.dec (fun h => ?_) (fun h => ?_)
  · simp [bounds, h, Try.results103]
    exact ⟨by omega, GV.own hcl (List.getElem?_concat_length ..) (Nat.le_refl _) (by simp) (by simp) ⟨_, _, rfl, rfl⟩⟩
  · simp [Try.results103]
    exact GV.nil0 hcl (by omega) (by omega) ⟨_, _, rfl, rfl⟩
/-- Lists of rows, one behind the other. -/
theorem parts {ls : List (Bool × List (List V))} {M : Nat} (hn : ∀ p ∈ ls, p.2.length ≤ M) : ∃ (S : Nat → Nat) (F : Nat → List (List V)), S 0 = 0 ∧ F 0 = [] ∧ (∀ k (h : k < ls.length), S (k + 1) = S k + ls[k].2.length ∧ F (k + 1) = F k ++ ls[k].2) ∧ (∀ k, k ≤ ls.length → S k ≤ M * k ∧ (F k).length = S k) ∧ F ls.length = (ls.map (·.2)).flatten := by
  have h1 : ∀ k (h : k < ls.length), (((ls.take (k + 1)).map (·.2)).flatten).length = (((ls.take k).map (·.2)).flatten).length + ls[k].2.length ∧ ((ls.take (k + 1)).map (·.2)).flatten = ((ls.take k).map (·.2)).flatten ++ ls[k].2 := fun k h => by
    rw [List.take_succ_eq_append_getElem h, List.map_append, List.flatten_append]
    simp only [List.map_cons, List.map_nil, List.flatten_cons, List.flatten_nil, List.append_nil, List.length_append, and_self]
  refine ⟨fun k => (((ls.take k).map (·.2)).flatten).length, fun k => ((ls.take k).map (·.2)).flatten, by simp, by simp, h1, fun k => ?_, by simp⟩
  refine fun hk => ⟨?_, rfl⟩
  induction k with
  | zero => simp
  | succ k ih =>
    have h2 := (h1 k hk).1
    have h3 := hn ls[k] (List.getElem_mem hk)
    have h4 := ih (by omega)
    dsimp only at h2 h4 ⊢
    rw [h2, Nat.mul_add]
    omega
theorem v_Concat {kk : Bool} {ls : List (Bool × List (List V))} (hs : ∀ p ∈ ls, RowsOk 3 p.2) (hp : ∀ p ∈ ls, PureR p.2) (hl : ls.length ≤ 1000) (hn : ∀ p ∈ ls, p.2.length ≤ 100000) : AO 79 [.fsl kk 1 (ls.map fun p => [.fsl p.1 3 p.2])] 3 (ls.map (·.2)).flatten := by
  intro H
  refine v_enter hC [] (fun _ _ => kn_none rfl) Try.func79 rfl ok79 (Nat.le_of_ble_eq_true rfl) fun hcl hbl => ?_
  simp
  obtain ⟨S, F, s0, f0, hk1, hk2, hF⟩ := parts hn
  rw [← hF]
  have get : ∀ {k : Nat} (h : k < ls.length), ls[k]? = some ls[k] := fun h => List.getElem?_eq_getElem h
  refine v_loopX hC (fun (k : Nat) e T => T = H ∧ e 0 = .fsl kk 1 (ls.map fun p => [.fsl p.1 3 p.2]) ∧ e 3 = i6 (S k) ∧ e 9 = e 0 ∧ e 10 = i6 ls.length ∧ e 11 = i6 k ∧ k ≤ ls.length) (fun k => ls.length - k) 0 (G.refl ?_) ?_
  · simp [s0]
  · rintro k e T ⟨rfl, h0, h3, h9, h10, h11, hk⟩
    have b1 := hk2 k hk
    simp [h0, h3, h9, h10, h11]
    refine CondV.dec (fun hlt => ?_) (fun hge => ?_)
    · have b2 := hk1 k hlt
      have b3 := hn ls[k] (List.getElem_mem hlt)
      simp [h0, h3, h9, h10, h11, get hlt, w64 (n := (S k : Int) + ls[k].2.length) (by omega)]
      refine CondV.dec (fun h => by omega) (fun h => ?_)
      simp [h0, h3, h9, h10, h11, w64 (n := (k : Int) + 1) (by omega)]
      refine GH.refl ⟨k + 1, ⟨rfl, ?_, ?_, ?_, ?_, ?_, hlt⟩, by omega⟩ <;> simp [h0, h9, h10, b2.1]
    · have hke : k = ls.length := by omega
      subst hke
      simp [h3]
      refine (v_Grow (by omega)).call fun w t => ?_
      simp [h0]
      refine v_loopX hC (fun (k : Nat) e U => ∃ w t, U = T ++ [.vec w (F k) 3 true t] ∧ e 6 = .own T.length w ∧ e 25 = .fsl kk 1 (ls.map fun p => [.fsl p.1 3 p.2]) ∧ e 26 = i6 ls.length ∧ e 27 = i6 k ∧ k ≤ ls.length) (fun k => ls.length - k) 0 (G.refl ?_) ?_
      · exact ⟨w, t, by simp [f0]⟩
      · rintro k e U ⟨w, t, rfl, h6, h25, h26, h27, hk⟩
        have b1 := hk2 k hk
        simp [h6, h25, h26, h27]
        refine CondV.dec (fun hlt => ?_) (fun hge => ?_)
        · have b2 := hk1 k hlt
          have b3 := hn ls[k] (List.getElem_mem hlt)
          simp [h6, h25, h26, h27, get hlt, hs ls[k] (List.getElem_mem hlt)]
          refine ⟨by omega, ?_⟩
          simp [h6, h25, h26, h27, w64 (n := (k : Int) + 1) (by omega)]
          refine GH.refl ⟨k + 1, ⟨w + 1, t, ?_, ?_, ?_, ?_, ?_, hlt⟩, by omega⟩ <;> simp [h25, h26, b2.2]
        · have hke : k = ls.length := by omega
          subst hke
          simp [h6, Try.results79]
          refine GV.own hcl (List.getElem?_concat_length ..) (Nat.le_refl _) ?_ ?_ ⟨_, _, rfl, rfl⟩
          · rw [hF]; intro r hr
            obtain ⟨l, hl, hr⟩ := List.mem_flatten.1 hr
            obtain ⟨p, hp, rfl⟩ := List.mem_map.1 hl
            exact hs p hp r hr
          · rw [hF]; intro r hr
            obtain ⟨l, hl, hr⟩ := List.mem_flatten.1 hr
            obtain ⟨p, hp', rfl⟩ := List.mem_map.1 hl
            exact hp p hp' r hr
end Go.Proofs.Ytenbclcfhjdcaaa.VM
end
section
set_option maxHeartbeats 8000000
set_option linter.unusedVariables false
set_option linter.unusedSimpArgs false
/- leaf: with, Merge, the document's Check, Split. -/
namespace Go.Proofs.Ytenbclcfhjdcaaa.VM
open Go Go.Proofs AM B
set_option maxRecDepth 100000
theorem v_with {a : Bool} {x v : V} (hx : x.isCell = true) (hv : v.isCell = true) : A 78 [.agg [bo a, x], v] (.agg [bo a, v]) := by
  intro H
  refine v_enter hC [] (fun _ _ => kn_none rfl) Try.func78 rfl ok78 (Nat.le_of_ble_eq_true rfl) fun hcl hbl => ?_
  simp only [Bels] at hbl
  have hs : ∀ X, Up H.length [] [] (H ++ X) v v := fun X => Up.self hbl.2.1
  simp [hx, hv, cells_cell hx, cells_cell hv, Try.results78]
  first | (refine GV.ans hcl ?_; simp [hs]; done) | (refine GV.ans0 ?_; simp [hs]; done)
def plc (a b : Int) : Int := IntKind.i64.wrap (IntKind.i64.wrap (65536 * a) + b)
theorem plc_less {a b c d : Int} (h1 : rightK a b = true) (h2 : rightK c d = true) : plc a b < plc c d ↔ lessK a b c d = true := by
  simp [rightK, lessK] at *
  unfold plc
  rw [w64 (n := 65536 * a) (by omega), w64 (n := 65536 * c) (by omega), w64 (by omega), w64 (by omega)]
  omega
theorem okE_key {e : Ent} (h : okE e = true) : rightK e.s e.n = true := by simp [okE, rightE, rightK] at *; omega
theorem v_rCheck {kk : Bool} {l : List Ent} (hl : l.length < 2 ^ 48) {lf : Bool} : A 24 [.agg [bo lf, ES kk l]] (i6 (chk lf l)) := by
  intro H
  refine v_enter hC [] (fun _ _ => kn_none rfl) Try.func24 rfl ok24 (Nat.le_of_ble_eq_true rfl) fun hcl hbl => ?_
  simp
  refine CondV.dec (fun h => ?_) (fun h => ?_)
  · simp [Try.results24]
    first | (refine GV.ans hcl ?_; simp [chk, show 16 < l.length by omega]; done) | (refine GV.ans0 ?_; simp [chk, show 16 < l.length by omega]; done)
  have hl16 : l.length ≤ 16 := by omega
  simp
  refine v_loopX hC (fun (k : Nat) e T => T = H ++ [.mem [bo lf, ES kk l] true] ∧ e 1 = .ptr H.length 0 ∧ e 3 = i6 k ∧ k ≤ l.length ∧ ∀ j, j < k → okE (ent l j) = true) (fun k => l.length - k) 0 (G.refl ?_) ?_
  · simp
  · rintro k e T ⟨rfl, h1, h3, hk, hall⟩
    simp [h1, h3]
    refine CondV.dec (fun hlt => ?_) (fun hge => ?_)
    · have hlt : k < l.length := by omega
      simp [h1, h3, getE hlt]
      refine (v_rRight _ _ _).call ?_
      simp
      refine CondV.on (fun hb => ?_) (fun hb => ?_)
      · have : allR l = false := allR_false hlt (by simpa [okE] using hb)
        simp [Try.results24]
        first | (refine GV.ans hcl ?_; simp [chk, show ¬ 16 < l.length by omega, this]; done) | (refine GV.ans0 ?_; simp [chk, show ¬ 16 < l.length by omega, this]; done)
      · simp [h1, h3, w64 (n := (k : Int) + 1) (by omega)]
        refine GH.refl ⟨k + 1, ⟨rfl, ?_, ?_, hlt, fun j hj => ?_⟩, by omega⟩ <;> (try simp [h1])
        by_cases hjk : j = k
        · subst hjk; simpa [okE] using hb
        · exact hall j (by omega)
    · have hA : allR l = true := allR_true.2 fun i hi => hall i (by omega)
      simp
      refine v_loopX hC (fun (k : Nat) e T => T = H ++ [.mem [bo lf, ES kk l] true] ∧ e 1 = .ptr H.length 0 ∧ e 4 = i6 k ∧ 1 ≤ k ∧ (k ≤ l.length ∨ k = 1) ∧ ∀ j, 0 < j → j < k → j < l.length → lessE (ent l (j - 1)) (ent l j) = true) (fun k => l.length - k) 1 (G.refl ?_) ?_
      · refine ⟨rfl, by simp [h1], by simp, by omega, by omega, fun j h0 h1 => by omega⟩
      · rintro k e T ⟨rfl, h1, h4, hk1, hk, hall2⟩
        simp [h1, h4]
        refine CondV.dec (fun hlt => ?_) (fun hge => ?_)
        · have hlt : k < l.length := by omega
          have hw : IntKind.i64.wrap ((k : Int) - 1) = ((k - 1 : Nat) : Int) := by rw [w64 (by omega)]; omega
          have r1 := okE_key (allR_true.1 hA (k - 1) (by omega))
          have r2 := okE_key (allR_true.1 hA k hlt)
          have hpl := plc_less r1 r2
          simp [h1, h4, hw]
          refine v_draw (ord := [0, 1, 2, 3, 4, 5, 6, 7, 8, 9, 10, 11, 12, 13, 14, 15]) (m := 14) (by decide +kernel) (by decide +kernel) ?_
          simp [h1, h4, hw, getE hlt, getE (show k - 1 < l.length by omega)]
          refine (v_Place _ _).call ?_
          simp [h1, h4, hw, getE hlt, getE (show k - 1 < l.length by omega)]
          refine (v_Place _ _).call ?_
          simp
          refine CondV.dec (fun hb => ?_) (fun hb => ?_)
          · have h3 : lessE (ent l (k - 1)) (ent l k) = false := by
              cases hq : lessE (ent l (k - 1)) (ent l k) with
              | false => rfl
              | true => have := hpl.2 hq; unfold plc at this; omega
            have : rise l = false := rise_false (by omega) hlt h3
            simp [Try.results24]
            first | (refine GV.ans hcl ?_; simp [chk, show ¬ 16 < l.length by omega, hA, this]; done) | (refine GV.ans0 ?_; simp [chk, show ¬ 16 < l.length by omega, hA, this]; done)
          · have h3 : lessE (ent l (k - 1)) (ent l k) = true := hpl.1 (by unfold plc; omega)
            simp [h1, h4, w64 (n := (k : Int) + 1) (by omega)]
            refine GH.refl ⟨k + 1, ⟨rfl, ?_, ?_, by omega, by omega, fun j h0 hj hjl => ?_⟩, by omega⟩ <;> (try simp [h1])
            by_cases hjk : j = k
            · subst hjk; exact h3
            · exact hall2 j h0 (by omega) hjl
        · have : rise l = true := rise_true.2 fun i hi0 hi => hall2 i hi0 (by omega) hi
          simp [h1, h4]
          cases lf with
          | true =>
            simp [Try.results24]
            first | (refine GV.ans hcl ?_; simp [chk, show ¬ 16 < l.length by omega, hA, this]; done) | (refine GV.ans0 ?_; simp [chk, show ¬ 16 < l.length by omega, hA, this]; done)
          | false =>
            simp [h1]
            refine CondV.dec (fun h0 => ?_) (fun h0 => ?_)
            · have h0 : l = [] := by simpa using h0
              subst h0
              simp [Try.results24]
              first | (refine GV.ans hcl ?_; simp [chk, hA, this]; done) | (refine GV.ans0 ?_; simp [chk, hA, this]; done)
            · have h0 : l ≠ [] := by simpa using h0
              simp [Try.results24]
              first | (refine GV.ans hcl ?_; simp [chk, show ¬ 16 < l.length by omega, hA, this, h0]; done) | (refine GV.ans0 ?_; simp [chk, show ¬ 16 < l.length by omega, hA, this, h0]; done)
def mergeE (a b : Bool) (l m : List Ent) : Int := if chk a l ≠ 0 then chk a l else if chk b m ≠ 0 then chk b m else if a ≠ b then 11 else if 16 < l.length + m.length then 6 else if rise (l ++ m) = false then 3 else 0
theorem chk_len {a : Bool} {l : List Ent} (h : chk a l = 0) : l.length ≤ 16 := by
  unfold chk at h
  split at h
  · cases h
  · omega
theorem v_Merge {kk km : Bool} {l m : List Ent} (hl : l.length < 2 ^ 48) (hm : m.length < 2 ^ 48) {a b : Bool} : A 35 [.agg [bo a, ES kk l], .agg [bo b, ES km m]]
    (if mergeE a b l m = 0 then .tup [.agg [bo a, ES true (l ++ m)], i6 0] else .tup [.agg [bo false, ES true []], i6 (mergeE a b l m)]) := by
  intro H
  refine v_enter hC [] (fun _ _ => kn_none rfl) Try.func35 rfl ok35 (Nat.le_of_ble_eq_true rfl) fun hcl hbl => ?_
  simp
  refine v_once hC ?_
  simp
  refine (v_Check hl).call ?_
  simp
  refine CondV.on (fun h => ?_) (fun h => ?_)
  · have h1 : chk a l ≠ 0 := by simpa using h
    have hm : mergeE a b l m = chk a l := by simp [mergeE, h1]
    simp [Try.results35]
    first | (refine GV.ans hcl ?_; simp [hm, h1]; done) | (refine GV.ans0 ?_; simp [hm, h1]; done)
  have h1 : chk a l = 0 := by simpa using h
  simp [w64]
  refine v_once hC ?_
  simp
  refine (v_Check hm).call ?_
  simp
  refine CondV.on (fun h => ?_) (fun h => ?_)
  · have h2 : chk b m ≠ 0 := by simpa using h
    have hm : mergeE a b l m = chk b m := by simp [mergeE, h1, h2]
    simp [Try.results35]
    first | (refine GV.ans hcl ?_; simp [hm, h2]; done) | (refine GV.ans0 ?_; simp [hm, h2]; done)
  have h2 : chk b m = 0 := by simpa using h
  simp [w64]
  refine v_once hC ?_
  simp
  have hl16 := chk_len h1
  have hm16 := chk_len h2
  refine (v_Concat (kk := true) (ls := [(kk, l.map ec), (km, m.map ec)]) (by simp) (by simp) (by simp) (by simp; omega)).call fun w t => ?_
  simp
  rw [Bool.beq_eq_decide_eq]
  by_cases hab : a = b
  · subst hab
    simp
    refine CondV.dec (fun h => ?_) (fun h => ?_)
    · have hm : mergeE a a l m = 6 := by simp [mergeE, h1, h2, show 16 < l.length + m.length by omega]
      simp [Try.results35]
      first | (refine GV.ans hcl ?_; simp [hm]; done) | (refine GV.ans0 ?_; simp [hm]; done)
    · simp
      refine (v_rising (kk := true) (l := l ++ m) (by simp; omega)).callF [ES true (l ++ m)] (Frz.vec (g := H.length + 5) (w := w) (s := 3) (rows := (l ++ m).map ec) (rw := true) (t := t) (by simp) (by simp)) (by simp) ?_
      simp
      refine CondV.on (fun h3 => ?_) (fun h3 => ?_)
      · have h3 : rise (l ++ m) = false := by simpa using h3
        have hm : mergeE a a l m = 3 := by simp [mergeE, h1, h2, show ¬ 16 < l.length + m.length by omega, h3]
        simp [Try.results35]
        first | (refine GV.ans hcl ?_; simp [hm]; done) | (refine GV.ans0 ?_; simp [hm]; done)
      · have h3 : rise (l ++ m) = true := by simpa using h3
        have hm : mergeE a a l m = 0 := by simp [mergeE, h1, h2, show ¬ 16 < l.length + m.length by omega, h3]
        simp
        refine (v_with (v := .own (H.length + 5) w) (x := ES kk l) rfl rfl).call ?_
        simp [Try.results35]
        first | (refine GV.ans hcl ?_; simp [hm]; done) | (refine GV.ans0 ?_; simp [hm]; done)
  · have hm : mergeE a b l m = 11 := by simp [mergeE, h1, h2, hab]
    simp [hab, Try.results35]
    first | (refine GV.ans hcl ?_; simp [hm]; done) | (refine GV.ans0 ?_; simp [hm]; done)
def splitE (a : Bool) (l : List Ent) : Int := if chk a l ≠ 0 then chk a l else if l.length < 2 then 11 else 0
theorem v_Split {kk : Bool} {l : List Ent} (hl : l.length < 2 ^ 48) {a : Bool} : A 34 [.agg [bo a, ES kk l]]
    (if splitE a l = 0 then .tup [.agg [bo a, ES true (l.take (l.length / 2))], .agg [bo a, ES false (l.drop (l.length / 2))], i6 0] else .tup [.agg [bo false, ES true []], .agg [bo false, ES false []], i6 (splitE a l)]) := by
  intro H
  refine v_enter hC [] (fun _ _ => kn_none rfl) Try.func34 rfl ok34 (Nat.le_of_ble_eq_true rfl) fun hcl hbl => ?_
  simp
  refine (v_Check hl).call ?_
  simp
  refine CondV.on (fun h => ?_) (fun h => ?_)
  · have h1 : chk a l ≠ 0 := by simpa using h
    have hm : splitE a l = chk a l := by simp [splitE, h1]
    simp [Try.results34]
    first | (refine GV.ans hcl ?_; simp [hm, h1]; done) | (refine GV.ans0 ?_; simp [hm, h1]; done)
  have h1 : chk a l = 0 := by simpa using h
  simp
  refine CondV.dec (fun h => ?_) (fun h => ?_)
  · have hm : splitE a l = 11 := by simp [splitE, h1, show l.length < 2 by omega]
    simp [Try.results34]
    first | (refine GV.ans hcl ?_; simp [hm]; done) | (refine GV.ans0 ?_; simp [hm]; done)
  have hm : splitE a l = 0 := by simp [splitE, h1, show ¬ l.length < 2 by omega]
  simp
  refine v_draw (ord := [0, 1, 2, 3, 4, 5, 6, 7, 8]) (m := 5) (by decide +kernel) (by decide +kernel) ?_
  simp
  have hl16 := chk_len h1
  refine ((v_Clone (by omega)).fro (by simp) true).call ?_
  have hcast : IntKind.i64.wrap ((l.length : Int) / 2) = ((l.length / 2 : Nat) : Int) := by rw [w64 (by omega)]; omega
  have hne : ¬ ((l.length : Int) / 2 = 0) := by omega
  have hb1 : bounds l.length l.length none (some ((l.length : Int) / 2)) (some ((l.length : Int) / 2)) = some (0, l.length / 2, l.length / 2) := by
    unfold bounds; simp only; rw [if_pos (by omega)]; congr 2 <;> omega
  have hb2 : bounds l.length l.length (some ((l.length : Int) / 2)) none none = some (l.length / 2, l.length, l.length) := by
    unfold bounds; simp only; rw [if_pos (by omega)]; congr 2
  simp [hcast]
  refine v_draw (ord := [0, 1, 2, 3, 4, 5, 6, 7, 8, 9, 10, 11, 12, 13]) (m := 7) (by decide +kernel) (by decide +kernel) ?_
  simp [hne, hb1]
  refine (v_with (v := .fsl true 3 ((l.take (l.length / 2)).map ec)) (x := ES kk l) rfl rfl).callU [.agg [bo a, ES kk l], ES true (l.take (l.length / 2))] (by simp) ?_
  simp [hb2]
  refine (v_with (v := .fsl false 3 ((l.drop (l.length / 2)).map ec)) (x := ES kk l) rfl rfl).callU [.agg [bo a, ES kk l], ES false (l.drop (l.length / 2))] (by simp) ?_
  simp [Try.results34]
  first | (refine GV.ans hcl ?_; simp [hm]; done) | (refine GV.ans0 ?_; simp [hm]; done)
end Go.Proofs.Ytenbclcfhjdcaaa.VM
end
section
set_option maxHeartbeats 8000000
set_option linter.unusedVariables false
set_option linter.unusedSimpArgs false
/- Halves of a right node are right. -/
namespace Go.Proofs.Ytenbclcfhjdcaaa.VM
open Go Go.Proofs AM B
theorem ent_take {l : List Ent} {k i : Nat} (h : i < k) : ent (l.take k) i = ent l i := by
  unfold ent
  simp [List.getD_eq_getElem?_getD, List.getElem?_take, h]
theorem ent_drop {l : List Ent} {k i : Nat} : ent (l.drop k) i = ent l (k + i) := by
  unfold ent
  simp [List.getD_eq_getElem?_getD, List.getElem?_drop]
theorem chk_of {a : Bool} {l : List Ent} (h1 : l.length ≤ 16) (h2 : allR l = true) (h3 : rise l = true) (h4 : l ≠ []) : chk a l = 0 := by
  unfold chk
  rw [if_neg (by omega), h2, h3]
  simp
  intro _ h; exact absurd h h4
theorem allR_take {l : List Ent} {k : Nat} (h : allR l = true) : allR (l.take k) = true := by
  unfold allR at *
  rw [List.all_eq_true] at *
  exact fun x hx => h x (List.mem_of_mem_take hx)
theorem allR_drop {l : List Ent} {k : Nat} (h : allR l = true) : allR (l.drop k) = true := by
  unfold allR at *
  rw [List.all_eq_true] at *
  exact fun x hx => h x (List.mem_of_mem_drop hx)
theorem rise_take {l : List Ent} {k : Nat} (h : rise l = true) : rise (l.take k) = true := by
  rw [rise_true] at *
  intro i h0 hi
  rw [List.length_take] at hi
  rw [ent_take (by omega), ent_take (by omega)]
  exact h i h0 (by omega)
theorem rise_drop {l : List Ent} {k : Nat} (h : rise l = true) : rise (l.drop k) = true := by
  rw [rise_true] at *
  intro i h0 hi
  rw [List.length_drop] at hi
  rw [ent_drop, ent_drop]
  have := h (k + i) (by omega) (by omega)
  rwa [show k + i - 1 = k + (i - 1) by omega] at this
theorem chk_ok {a : Bool} {L : List Ent} (h : chk a L = 0) : L.length ≤ 16 ∧ allR L = true ∧ rise L = true ∧ ¬ (a = false ∧ L.length = 0) := by
  unfold chk at h
  split at h
  · cases h
  · split at h
    · cases h
    · split at h
      · cases h
      · split at h
        · cases h
        · rename_i h1 h2 h3 h4
          exact ⟨by omega, by simpa using h2, by simpa using h3, h4⟩
theorem split_merge {a : Bool} {l : List Ent} (h : chk a l = 0) (h2 : 2 ≤ l.length) : mergeE a a (l.take (l.length / 2)) (l.drop (l.length / 2)) = 0 := by
  obtain ⟨l1, r1, s1, _⟩ := chk_ok h
  have e1 : chk a (l.take (l.length / 2)) = 0 := chk_of (by rw [List.length_take]; omega) (allR_take r1) (rise_take s1) (by intro e; have := congrArg List.length e; rw [List.length_take] at this; simp only [List.length_nil] at this; omega)
  have e2 : chk a (l.drop (l.length / 2)) = 0 := chk_of (by rw [List.length_drop]; omega) (allR_drop r1) (rise_drop s1) (by intro e; have := congrArg List.length e; rw [List.length_drop] at this; simp only [List.length_nil] at this; omega)
  unfold mergeE
  rw [e1, e2, List.take_append_drop, s1]
  simp
  omega
theorem merge_chk {a : Bool} {L M : List Ent} (h1 : chk a L = 0) (h2 : chk a M = 0) (h : ¬ 16 < L.length + M.length) : mergeE a a L M = chk a (L ++ M) := by
  obtain ⟨l1, r1, _, n1⟩ := chk_ok h1
  obtain ⟨l2, r2, _, n2⟩ := chk_ok h2
  have hr : allR (L ++ M) = true := by
    unfold allR at *
    rw [List.all_append, r1, r2]; rfl
  have hn : ¬ (a = false ∧ (L ++ M).length = 0) := fun ⟨ha, hl⟩ => n1 ⟨ha, by rw [List.length_append] at hl; omega⟩
  unfold mergeE
  conv => rhs; unfold chk
  rw [if_neg (by simpa using h1), if_neg (by simpa using h2), if_neg (by simp), hr, if_neg hn]
  rw [List.length_append, if_neg h, if_neg h]
  simp
end Go.Proofs.Ytenbclcfhjdcaaa.VM
end
section
set_option maxHeartbeats 8000000
set_option linter.unusedVariables false
set_option linter.unusedSimpArgs false
/- sort.Search; leaf: Find, With, Without. -/
namespace Go.Proofs.Ytenbclcfhjdcaaa.VM
open Go Go.Proofs AM B
set_option maxRecDepth 100000
theorem v_Search {H : Hp} {F : FuncId} {fi cp : List V} {n : Nat} {p : Nat → Bool} (hn : n < 2 ^ 60) {k : Nat} (hk : k ≤ n) (hF : ∀ j, j < n → VC Try.prog prims F (fi ++ [i6 j] ++ cp) H fun u T => u = bo (p j) ∧ T = H)
    (h0 : ∀ j, j < k → p j = false) (h1 : ∀ j, k ≤ j → j < n → p j = true) : VC Try.prog prims 74 [i6 n, .fn F fi cp] H fun u T => u = i6 k ∧ T = H := by
  refine v_enter hC [] (fun _ _ => kn_none rfl) Try.func74 rfl ok74 (Nat.le_of_ble_eq_true rfl) fun hcl hbl => ?_
  simp
  refine v_loopX hC (fun (X : Nat × Nat) e T => T = H ∧ e 1 = .fn F fi cp ∧ e 5 = i6 X.1 ∧ e 6 = i6 X.2 ∧ X.1 ≤ k ∧ k ≤ X.2 ∧ X.2 ≤ n) (fun X => X.2 - X.1) (0, n) (G.refl ?_) ?_
  · simp [hk]
  · rintro ⟨i, j⟩ e T ⟨rfl, g1, g5, g6, hi, hj, hjn⟩
    simp only at g5 g6 hi hj hjn
    simp [g5, g6]
    refine CondV.dec (fun hlt => ?_) (fun hge => ?_)
    · obtain ⟨h, hh⟩ : ∃ h : Nat, (i + j) / 2 = h := ⟨_, rfl⟩
      have w1 : IntKind.i64.wrap ((i : Int) + j) = ((i + j : Nat) : Int) := by rw [w64 (by omega)]; omega
      have w2 : IntKind.u64.wrap (((i + j : Nat) : Int)) = ((i + j : Nat) : Int) := by simp [IntKind.wrap, IntKind.bits, IntKind.signed]; omega
      have w3 : (((i + j : Nat) : Int)).fdiv (2 ^ min 1 IntKind.u64.bits) = ((h : Nat) : Int) := by
        rw [show min 1 IntKind.u64.bits = 1 from rfl, Int.fdiv_eq_ediv_of_nonneg _ (by decide)]; omega
      rw [Int.natCast_add] at w1 w2 w3
      simp [g1, g5, g6, w1, w2, w3, w64 (n := (h : Int)) (by omega)]
      have hFh := hF h (by omega)
      simp only [List.append_assoc, List.cons_append, List.nil_append, i6] at hFh
      refine CALLv.at hFh fun u T' hu => ?_
      obtain ⟨rfl, rfl⟩ := hu
      simp
      refine CondV.on (fun hp => ?_) (fun hp => ?_)
      · have hp : p h = false := by simpa using hp
        have hhk : h < k := Nat.lt_of_not_le fun hle => by rw [h1 h hle (by omega)] at hp; cases hp
        simp [g1, g5, g6, w64 (n := (h : Int) + 1) (by omega)]
        refine GH.refl ⟨(h + 1, j), ⟨rfl, ?_, ?_, ?_, hhk, hj, hjn⟩, by simp only; omega⟩ <;> simp [g1, g6]
      · have hp : p h = true := by simpa using hp
        have hhk : k ≤ h := Nat.le_of_not_lt fun hlt => by rw [h0 h hlt] at hp; cases hp
        simp [g1, g5, g6]
        refine GH.refl ⟨(i, h), ⟨rfl, ?_, ?_, ?_, hi, hhk, by omega⟩, by simp only; omega⟩ <;> simp [g1, g5]
    · have hki : i = k := by omega
      simp [g5, Try.results74]
      exact GV.refl ⟨by simp [hki], rfl⟩
/-- Is the key not less? -/
def notLess (l : List Ent) (s n : Int) (j : Nat) : Bool := !lessK (ent l j).s (ent l j).n s n
theorem v_Find1 {H : Hp} {kk ra rb : Bool} {l : List Ent} {a : Bool} {s n : Int} {g1 g2 j : Nat} (h1 : H[g1]? = some (.mem [bo a, ES kk l] ra)) (h2 : H[g2]? = some (.mem [i6 s, i6 n] rb)) (hj : j < l.length) :
    VC Try.prog prims 75 [i6 j, .ptr g1 0, .ptr g2 0] H fun u T => u = bo (notLess l s n j) ∧ T = H := by
  refine v_enter hC [] (fun _ _ => kn_none rfl) Try.func75 rfl ok75 (Nat.le_of_ble_eq_true rfl) fun hcl hbl => ?_
  simp
  refine v_draw (ord := [0, 1, 2, 3, 4, 5, 6, 7, 8, 9]) (m := 7) (by decide +kernel) (by decide +kernel) ?_
  simp [h1, h2, getE hj]
  refine (v_Less _ _ _ _).call ?_
  simp [Try.results75]
  exact GV.refl ⟨rfl, rfl⟩
/-- How many keys are less. -/
def kAt (l : List Ent) (s n : Int) : Nat := (l.takeWhile fun e => lessK e.s e.n s n).length
theorem kAt_le (l : List Ent) (s n : Int) : kAt l s n ≤ l.length := (List.takeWhile_prefix _).length_le
theorem kAt_lt {l : List Ent} {s n : Int} {j : Nat} (h : j < kAt l s n) : lessK (ent l j).s (ent l j).n s n = true := by
  have hle := kAt_le l s n
  rw [ent_eq l j (by omega)]
  have h2 : (l.takeWhile fun e => lessK e.s e.n s n)[j] = l[j] := (List.takeWhile_prefix _).getElem _
  rw [← h2]
  exact List.all_eq_true.1 (List.all_takeWhile (p := fun e : Ent => lessK e.s e.n s n) (l := l)) _ (List.getElem_mem _)
theorem lessK_trans {a b c d e f : Int} (h1 : lessK a b c d = true) (h2 : lessK c d e f = true) : lessK a b e f = true := by
  simp only [lessK, decide_eq_true_eq] at *; omega
theorem kAt_at {l : List Ent} {s n : Int} (h : kAt l s n < l.length) : lessK (ent l (kAt l s n)).s (ent l (kAt l s n)).n s n = false := by
  rw [ent_eq _ _ h]
  induction l with
  | nil => simp at h
  | cons a l ih =>
    unfold kAt at h ⊢
    by_cases ha : lessK a.s a.n s n = true
    · simp only [List.takeWhile_cons, ha, if_true, List.length_cons] at h ⊢
      simp only [List.getElem_cons_succ]
      exact ih (by unfold kAt; omega)
    · simp only [List.takeWhile_cons, ha, Bool.false_eq_true, if_false, List.length_nil, List.getElem_cons_zero]
theorem kAt_ge {l : List Ent} {s n : Int} (hr : rise l = true) {j : Nat} (h1 : kAt l s n ≤ j) (h2 : j < l.length) : lessK (ent l j).s (ent l j).n s n = false := by
  obtain ⟨d, rfl⟩ : ∃ d, j = kAt l s n + d := ⟨j - kAt l s n, by omega⟩
  clear h1
  induction d with
  | zero => exact kAt_at (by omega)
  | succ d ih =>
    have ih := ih (by omega)
    have hs := rise_true.1 hr (kAt l s n + (d + 1)) (by omega) h2
    rw [show kAt l s n + (d + 1) - 1 = kAt l s n + d by omega] at hs
    cases hc : lessK (ent l (kAt l s n + (d + 1))).s (ent l (kAt l s n + (d + 1))).n s n with
    | false => rfl
    | true => rw [lessK_trans hs hc] at ih; cases ih
/-- Is a key there? -/
def isAt (l : List Ent) (s n : Int) : Bool := decide (kAt l s n < l.length ∧ (ent l (kAt l s n)).s = s ∧ (ent l (kAt l s n)).n = n)
theorem v_Find {kk : Bool} {l : List Ent} (hl : l.length < 2 ^ 48) (hr : rise l = true) {a : Bool} {s n : Int} : A 28 [.agg [bo a, ES kk l], .agg [i6 s, i6 n]] (.tup [i6 (kAt l s n), bo (isAt l s n)]) := by
  intro H
  refine v_enter hC [] (fun _ _ => kn_none rfl) Try.func28 rfl ok28 (Nat.le_of_ble_eq_true rfl) fun hcl hbl => ?_
  simp
  refine CALLv.at (v_Search (F := 75) (fi := []) (cp := [.ptr H.length 0, .ptr (H.length + 1) 0]) (n := l.length) (p := notLess l s n) (k := kAt l s n) (by omega) (kAt_le l s n) (fun j hj => v_Find1 (kk := kk) (a := a) (ra := true) (rb := true) (by simp) (by simp) hj) (fun j hj => by simp [notLess, kAt_lt hj]) (fun j h1 h2 => by simp [notLess, kAt_ge hr h1 h2])) fun u T hu => ?_
  obtain ⟨e1, e2⟩ := hu
  subst e1; subst e2
  simp
  refine v_draw (ord := [0, 1, 2, 3, 4, 5, 6, 7, 8, 9, 10, 11, 12, 13, 14, 15, 16, 17]) (m := 14) (by decide +kernel) (by decide +kernel) ?_
  simp
  refine GuardR.dec (fun hlt => ?_) (fun hge => ?_)
  · simp [getE hlt, hlt, Try.results28]
    first | (refine GV.ans hcl ?_; simp [isAt, hlt, ent_eq _ _ hlt]; done) | (refine GV.ans0 ?_; simp [isAt, hlt, ent_eq _ _ hlt]; done)
  · simp [hge, Try.results28]
    first | (refine GV.ans hcl ?_; simp [isAt, hge]; done) | (refine GV.ans0 ?_; simp [isAt, hge]; done)
theorem v_Insert {H : Hp} {g w i : Nat} {rows xs : List (List V)} {t kk : Bool} (hg : H[g]? = some (.vec w rows 3 true t)) (hi : i ≤ rows.length) (hx0 : 0 < xs.length) (hx : RowsOk 3 xs) (hn : rows.length + xs.length ≤ 17179869184) :
    VC Try.prog prims 89 [.own g w, i6 i, .fsl kk 3 xs] H fun u T => u = .own g (w + 1) ∧ T = H.set g (.vec (w + 1) (rows.take i ++ xs ++ rows.drop i) 3 true t) := VC.ins (fun us σ => by
      unfold prims withPrim prims0 withPrim knownPrim
      split
      · rename_i r hr
        have : knowns.find? (·.1 == 89) = none := rfl
        rw [this] at hr
        split at hr <;> cases hr
      · split
        · rename_i r hr; exact hr.symm
        · rename_i hr
          rw [hr]
          unfold insA
          rw [if_neg (by decide)]) hg hi hx0 hx hn
theorem v_Delete {H : Hp} {g w i j : Nat} {rows : List (List V)} {t : Bool} (hg : H[g]? = some (.vec w rows 3 true t)) (hi : i < j) (hj : j ≤ rows.length) (hn : rows.length ≤ 17179869184) :
    VC Try.prog prims 90 [.own g w, i6 i, i6 j] H fun u T => u = .own g (w + 1) ∧ T = H.set g (.vec (w + 1) (rows.take i ++ rows.drop j) 3 true false) := VC.del (delRun_ent fun _ _ => kn_none rfl) hg hi hj hn
/-- What With says. -/
def withE (a : Bool) (l : List Ent) (e : Ent) : Int := if chk a l ≠ 0 then chk a l else if okE e = false then 10 else if isAt l e.s e.n = false ∧ l.length = 16 then 6 else 0
def withL (l : List Ent) (e : Ent) : List Ent := l.take (kAt l e.s e.n) ++ [e] ++ l.drop (if isAt l e.s e.n = true then kAt l e.s e.n + 1 else kAt l e.s e.n)
theorem v_With {kk : Bool} {l : List Ent} (hl : l.length < 2 ^ 48) {a : Bool} {e : Ent} : A 44 [.agg [bo a, ES kk l], .agg (ec e)]
    (if withE a l e = 0 then .tup [.agg [bo a, ES true (withL l e)], i6 0] else .tup [.agg [bo false, ES true []], i6 (withE a l e)]) := by
  intro H
  refine v_enter hC [] (fun _ _ => kn_none rfl) Try.func44 rfl ok44 (Nat.le_of_ble_eq_true rfl) fun hcl hbl => ?_
  simp
  refine (v_Check hl).call ?_
  simp
  refine CondV.on (fun h => ?_) (fun h => ?_)
  · have h1 : chk a l ≠ 0 := by simpa using h
    have hm : withE a l e = chk a l := by simp [withE, h1]
    simp [Try.results44]
    first | (refine GV.ans hcl ?_; simp [hm, h1]; done) | (refine GV.ans0 ?_; simp [hm, h1]; done)
  have h1 : chk a l = 0 := by simpa using h
  simp
  refine (v_right _ _ _).call ?_
  simp
  refine CondV.on (fun h => ?_) (fun h => ?_)
  · have h2 : okE e = false := by simpa [okE] using h
    have hm : withE a l e = 10 := by simp [withE, h1, h2]
    simp [Try.results44]
    first | (refine GV.ans hcl ?_; simp [hm]; done) | (refine GV.ans0 ?_; simp [hm]; done)
  have h2 : okE e = true := by simpa [okE] using h
  simp
  have hlen := chk_len h1
  have hr := (chk_ok h1).2.2.1
  refine (v_Clone (kk := kk) (l := l) (by omega)).call fun w t => ?_
  simp
  refine (v_Find (kk := kk) (l := l) hl hr).call ?_
  simp
  have hkl := kAt_le l e.s e.n
  refine CondV.on (fun h => ?_) (fun h => ?_)
  · have h3 : isAt l e.s e.n = true := h
    have hm : withE a l e = 0 := by simp [withE, h1, h2, h3]
    have hk : kAt l e.s e.n < l.length := by have := h3; unfold isAt at this; exact (of_decide_eq_true this).1
    have hw : withL l e = l.set (kAt l e.s e.n) e := by
      unfold withL
      rw [h3, if_pos rfl, List.set_eq_take_append_cons_drop, if_pos hk]
      simp
    simp
    refine ⟨hk, ?_⟩
    simp [getE hk]
    have hset : (List.map ec l).set (kAt l e.s e.n) [.lit (.int .i64 e.s), .lit (.int .i64 e.n), .lit (.int .i64 e.p)] = (withL l e).map ec := by rw [hw]; simp
    rw [hset]
    refine (v_with (v := .own (H.length + 3) w) (x := ES kk l) rfl rfl).call ?_
    simp [Try.results44]
    first | (refine GV.ans hcl ?_; simp [hm]; done) | (refine GV.ans0 ?_; simp [hm]; done)
  · have h3 : isAt l e.s e.n = false := h
    simp
    refine CondV.dec (fun h => ?_) (fun h => ?_)
    · have hm : withE a l e = 6 := by simp [withE, h1, h2, h3, show l.length = 16 by omega]
      simp [Try.results44]
      first | (refine GV.ans hcl ?_; simp [hm]; done) | (refine GV.ans0 ?_; simp [hm]; done)
    · have hm : withE a l e = 0 := by simp [withE, h1, h2, h3, show ¬ l.length = 16 by omega]
      have hw : withL l e = l.take (kAt l e.s e.n) ++ [e] ++ l.drop (kAt l e.s e.n) := by
        unfold withL
        rw [h3, if_neg (by simp)]
      have hmap : (l.map ec).take (kAt l e.s e.n) ++ [ec e] ++ (l.map ec).drop (kAt l e.s e.n) = (withL l e).map ec := by rw [hw]; simp
      simp
      refine CALLv.at (v_Insert (g := H.length + 3) (w := w) (i := kAt l e.s e.n) (rows := l.map ec) (xs := [ec e]) (t := t) (kk := true) (by simp) (by simpa using hkl) (by simp) (fun r hr => by simp at hr; subst hr; simp [V.isCell, cellB]) (by simp; omega)) fun u T hu => ?_
      obtain ⟨e1, e2⟩ := hu
      subst e1; subst e2
      rw [hmap]
      simp
      refine (v_with (v := .own (H.length + 3) (w + 1)) (x := ES kk l) rfl rfl).call ?_
      simp [Try.results44]
      first | (refine GV.ans hcl ?_; simp [hm]; done) | (refine GV.ans0 ?_; simp [hm]; done)
end Go.Proofs.Ytenbclcfhjdcaaa.VM
end
section
set_option maxHeartbeats 8000000
set_option linter.unusedVariables false
set_option linter.unusedSimpArgs false
/- leaf: Without. -/
namespace Go.Proofs.Ytenbclcfhjdcaaa.VM
open Go Go.Proofs AM B
set_option maxRecDepth 100000
/-- What Without says. -/
def outE (a : Bool) (l : List Ent) (s n : Int) : Int := if chk a l ≠ 0 then chk a l else if isAt l s n = false then 7 else 0
def outL (l : List Ent) (s n : Int) : List Ent := l.take (kAt l s n) ++ l.drop (kAt l s n + 1)
theorem v_Without {kk : Bool} {l : List Ent} (hl : l.length < 2 ^ 48) {a : Bool} {s n : Int} : A 46 [.agg [bo a, ES kk l], .agg [i6 s, i6 n]]
    (if outE a l s n = 0 then .tup [.agg [bo a, ES true (outL l s n)], i6 0] else .tup [.agg [bo false, ES true []], i6 (outE a l s n)]) := by
  intro H
  refine v_enter hC [] (fun _ _ => kn_none rfl) Try.func46 rfl ok46 (Nat.le_of_ble_eq_true rfl) fun hcl hbl => ?_
  simp
  refine (v_Check hl).call ?_
  simp
  refine CondV.on (fun h => ?_) (fun h => ?_)
  · have h1 : chk a l ≠ 0 := by simpa using h
    have hm : outE a l s n = chk a l := by simp [outE, h1]
    simp [Try.results46]
    first | (refine GV.ans hcl ?_; simp [hm, h1]; done) | (refine GV.ans0 ?_; simp [hm, h1]; done)
  have h1 : chk a l = 0 := by simpa using h
  simp
  have hlen := chk_len h1
  have hr := (chk_ok h1).2.2.1
  refine (v_Find (kk := kk) (l := l) hl hr).call ?_
  have hkl := kAt_le l s n
  simp
  refine CondV.on (fun h => ?_) (fun h => ?_)
  · have h3 : isAt l s n = false := by simpa using h
    have hm : outE a l s n = 7 := by simp [outE, h1, h3]
    simp [Try.results46]
    first | (refine GV.ans hcl ?_; simp [hm]; done) | (refine GV.ans0 ?_; simp [hm]; done)
  · have h3 : isAt l s n = true := by simpa using h
    have hm : outE a l s n = 0 := by simp [outE, h1, h3]
    have hk : kAt l s n < l.length := by have := h3; unfold isAt at this; exact (of_decide_eq_true this).1
    have hmap : (l.map ec).take (kAt l s n) ++ (l.map ec).drop (kAt l s n + 1) = (outL l s n).map ec := by unfold outL; simp
    simp
    refine v_drawE (ord := [0, 1, 2, 3, 4, 5, 6, 7, 8, 9, 10]) (m := 1) (j := 0) (t := 2) (g := H.length) (o := 0) (cells := [bo a, ES kk l]) (rw := true) (by decide +kernel) (by decide +kernel) (by decide +kernel) (by simp) (by simp) ?_
    simp
    refine (v_Clone (kk := kk) (l := l) (by omega)).call fun w t => ?_
    simp [w64 (n := (kAt l s n : Int) + 1) (by omega)]
    refine CALLv.at (v_Delete (g := H.length + 3) (w := w) (i := kAt l s n) (j := kAt l s n + 1) (rows := l.map ec) (t := t) (by simp) (by omega) (by simp; omega) (by simp; omega)) fun u T hu => ?_
    obtain ⟨e1, e2⟩ := hu
    subst e1; subst e2
    rw [hmap]
    simp
    refine (v_with (v := .own (H.length + 3) (w + 1)) (x := ES kk l) rfl rfl).call ?_
    simp [Try.results46]
    first | (refine GV.ans hcl ?_; simp [hm]; done) | (refine GV.ans0 ?_; simp [hm]; done)
end Go.Proofs.Ytenbclcfhjdcaaa.VM
end
section
set_option maxHeartbeats 8000000
set_option linter.unusedVariables false
set_option linter.unusedSimpArgs false
/- LeafTurns: what its loop builds (plain), and the law over leaf Without's contract (VRw: open). -/
namespace Go.Proofs.Ytenbclcfhjdcaaa.VM
open Go Go.Proofs AM B
set_option maxRecDepth 100000
/-- A key's place, in the machine's numbers. -/
def plW (s n : Int) : Int := IntKind.i64.wrap (IntKind.i64.wrap (65536 * s) + n)
def neK (e x : Ent) : Bool := decide (¬ (x.s = e.s ∧ x.n = e.n))
/-- Where the loop puts the entry. -/
def pAt (l : List Ent) (e : Ent) : Nat := (l.takeWhile fun x => decide (plW x.s x.n < plW e.s e.n)).length
def wiL (l : List Ent) (e : Ent) (j : Nat) : List Ent := if pAt l e < j then (l.take (pAt l e)).filter (neK e) ++ [e] ++ ((l.take j).drop (pAt l e)).filter (neK e) else (l.take j).filter (neK e)
def woL (l : List Ent) (e : Ent) (j : Nat) : List Ent := (l.take j).filter (neK e)
def isJ (l : List Ent) (e : Ent) (j : Nat) : Bool := (l.take j).any fun x => !neK e x
theorem pAt_le (l : List Ent) (e : Ent) : pAt l e ≤ l.length := (List.takeWhile_prefix _).length_le
theorem pAt_lt {l : List Ent} {e : Ent} {j : Nat} (h : j < pAt l e) : plW (ent l j).s (ent l j).n < plW e.s e.n := by
  have hle := pAt_le l e
  rw [ent_eq l j (by omega)]
  have h2 : (l.takeWhile fun x => decide (plW x.s x.n < plW e.s e.n))[j] = l[j] := (List.takeWhile_prefix _).getElem _
  rw [← h2]
  exact of_decide_eq_true (List.all_eq_true.1 (List.all_takeWhile (p := fun x : Ent => decide (plW x.s x.n < plW e.s e.n)) (l := l)) _ (List.getElem_mem _))
theorem pAt_at {l : List Ent} {e : Ent} (h : pAt l e < l.length) : plW e.s e.n ≤ plW (ent l (pAt l e)).s (ent l (pAt l e)).n := by
  rw [ent_eq _ _ h]
  induction l with
  | nil => simp at h
  | cons a l ih =>
    unfold pAt at h ⊢
    by_cases ha : plW a.s a.n < plW e.s e.n
    · simp only [List.takeWhile_cons, ha, decide_true, if_true, List.length_cons, List.getElem_cons_succ] at h ⊢
      exact ih (by unfold pAt; omega)
    · simp only [List.takeWhile_cons, ha, decide_false, Bool.false_eq_true, if_false, List.length_nil, List.getElem_cons_zero]
      omega
theorem take_ent {l : List Ent} {j : Nat} (h : j < l.length) : l.take (j + 1) = l.take j ++ [ent l j] := by rw [List.take_succ_eq_append_getElem h, ent_eq l j h]
theorem woL_succ {l : List Ent} {e : Ent} {j : Nat} (h : j < l.length) : woL l e (j + 1) = woL l e j ++ if neK e (ent l j) = true then [ent l j] else [] := by
  unfold woL
  rw [take_ent h, List.filter_append, List.filter_cons]
  simp only [List.filter_nil]
theorem wiL_succ {l : List Ent} {e : Ent} {j : Nat} (h : j < l.length) (hk : pAt l e ≠ j) : wiL l e (j + 1) = wiL l e j ++ if neK e (ent l j) = true then [ent l j] else [] := by
  unfold wiL
  by_cases c : pAt l e < j
  · rw [if_pos (by omega), if_pos c, take_ent h, List.drop_append_of_le_length (by rw [List.length_take]; omega), List.filter_append, List.filter_cons]
    simp only [List.filter_nil, List.append_assoc]
  · rw [if_neg (by omega), if_neg c, take_ent h, List.filter_append, List.filter_cons]
    simp only [List.filter_nil]
theorem wiL_put {l : List Ent} {e : Ent} {j : Nat} (h : j < l.length) (hk : pAt l e = j) : wiL l e (j + 1) = wiL l e j ++ [e] ++ if neK e (ent l j) = true then [ent l j] else [] := by
  unfold wiL
  rw [if_pos (by omega), if_neg (by omega), hk, take_ent h, List.drop_append_of_le_length (by rw [List.length_take]; omega), List.drop_of_length_le (by rw [List.length_take]; omega), List.nil_append, List.filter_cons]
  simp only [List.filter_nil]
theorem isJ_succ {l : List Ent} {e : Ent} {j : Nat} (h : j < l.length) : isJ l e (j + 1) = (isJ l e j || !neK e (ent l j)) := by
  unfold isJ
  rw [take_ent h, List.any_append]; simp
theorem woL_len {l : List Ent} {e : Ent} {j : Nat} : (woL l e j).length ≤ l.length := by
  unfold woL
  exact Nat.le_trans (List.length_filter_le ..) (by rw [List.length_take]; omega)
theorem wiL_len {l : List Ent} {e : Ent} {j : Nat} : (wiL l e j).length ≤ l.length + 1 := by
  unfold wiL
  split
  · rw [List.length_append, List.length_append]
    have h1 := List.length_filter_le (neK e) (l.take (pAt l e))
    have h2 := List.length_filter_le (neK e) ((l.take j).drop (pAt l e))
    rw [List.length_take] at h1
    rw [List.length_drop, List.length_take] at h2
    simp only [List.length_cons, List.length_nil]
    omega
  · exact Nat.le_trans (List.length_filter_le ..) (by rw [List.length_take]; omega)
theorem takeWhile_congr2 {α : Type} {p q : α → Bool} : ∀ {l : List α}, (∀ x ∈ l, p x = q x) → l.takeWhile p = l.takeWhile q
  | [], _ => rfl
  | a :: l, h => by
    rw [List.takeWhile_cons, List.takeWhile_cons, h a (by simp), takeWhile_congr2 fun x hx => h x (by simp [hx])]
theorem mem_ent {l : List Ent} {x : Ent} : x ∈ l ↔ ∃ j, j < l.length ∧ ent l j = x := by
  constructor
  · intro h
    obtain ⟨j, hj, rfl⟩ := List.getElem_of_mem h
    exact ⟨j, hj, ent_eq l j hj⟩
  · rintro ⟨j, hj, rfl⟩
    rw [ent_eq l j hj]
    exact List.getElem_mem hj
theorem plW_ok {e : Ent} (h : okE e = true) : plW e.s e.n = 65536 * e.s + e.n := by
  unfold okE rightE at h
  have h := of_decide_eq_true h
  unfold plW
  rw [w64 (n := 65536 * e.s) (by omega), w64 (by omega)]
theorem pAt_k {l : List Ent} {e : Ent} (hl : allR l = true) (he : okE e = true) : pAt l e = kAt l e.s e.n := by
  unfold pAt kAt
  rw [takeWhile_congr2 fun x hx => ?_]
  have hx' : okE x = true := List.all_eq_true.1 hl x hx
  rw [plW_ok hx', plW_ok he]
  unfold okE rightE at hx' he
  have h1 := of_decide_eq_true hx'
  have h2 := of_decide_eq_true he
  unfold lessK
  rw [decide_eq_decide]
  omega
theorem neK_less {e x : Ent} (h : lessK x.s x.n e.s e.n = true) : neK e x = true := by
  unfold lessK at h
  have h := of_decide_eq_true h
  unfold neK
  rw [decide_eq_true_eq]
  omega
theorem rise_mono {l : List Ent} (hr : rise l = true) {i j : Nat} (h : i < j) (hj : j < l.length) : lessE (ent l i) (ent l j) = true := by
  obtain ⟨d, rfl⟩ : ∃ d, j = i + 1 + d := ⟨j - (i + 1), by omega⟩
  clear h
  have st : ∀ m, 0 < m → m < l.length → lessE (ent l (m - 1)) (ent l m) = true := fun m h1 h2 => by
    unfold rise at hr
    have := List.all_eq_true.1 hr m (by simpa using h2)
    simp only [Bool.or_eq_true, decide_eq_true_eq] at this
    rcases this with h | h
    · omega
    · exact h
  induction d with
  | zero => exact st (i + 1) (by omega) hj
  | succ d ih =>
    have ih := ih (by omega)
    have hs := st (i + 1 + (d + 1)) (by omega) hj
    rw [show i + 1 + (d + 1) - 1 = i + 1 + d by omega] at hs
    exact lessK_trans ih hs
theorem flt_take {l : List Ent} {e : Ent} {k : Nat} (h : ∀ j, j < k → j < l.length → neK e (ent l j) = true) : (l.take k).filter (neK e) = l.take k := by
  rw [List.filter_eq_self]
  intro x hx
  obtain ⟨j, hj, rfl⟩ := List.getElem_of_mem hx
  rw [List.length_take] at hj
  rw [List.getElem_take, ← ent_eq l j (by omega)]
  exact h j (by omega) (by omega)
theorem flt_drop {l : List Ent} {e : Ent} {k : Nat} (h : ∀ j, k ≤ j → j < l.length → neK e (ent l j) = true) : (l.drop k).filter (neK e) = l.drop k := by
  rw [List.filter_eq_self]
  intro x hx
  obtain ⟨j, hj, rfl⟩ := List.getElem_of_mem hx
  rw [List.length_drop] at hj
  rw [List.getElem_drop, ← ent_eq l (k + j) (by omega)]
  exact h (k + j) (by omega) (by omega)
/-- What stands at a key's own place or behind it. -/
theorem flt_tail {l : List Ent} (hr : rise l = true) {e : Ent} : (l.drop (kAt l e.s e.n)).filter (neK e) = l.drop (if isAt l e.s e.n = true then kAt l e.s e.n + 1 else kAt l e.s e.n) := by
  split
  · rename_i h
    obtain ⟨h1, h2, h3⟩ : kAt l e.s e.n < l.length ∧ (ent l (kAt l e.s e.n)).s = e.s ∧ (ent l (kAt l e.s e.n)).n = e.n := by unfold isAt at h; exact of_decide_eq_true h
    rw [List.drop_eq_getElem_cons h1, ← ent_eq l _ h1, List.filter_cons_of_neg (by unfold neK; simp [h2, h3])]
    refine flt_drop fun j g1 g2 => ?_
    have := rise_mono hr (i := kAt l e.s e.n) (j := j) (by omega) g2
    unfold lessE lessK at this
    have := of_decide_eq_true this
    unfold neK
    rw [decide_eq_true_eq]
    omega
  · rename_i h
    refine flt_drop fun j g1 g2 => ?_
    unfold neK
    rw [decide_eq_true_eq]
    rintro ⟨e1, e2⟩
    apply h
    unfold isAt
    rw [decide_eq_true_eq]
    have hk := kAt_at (l := l) (s := e.s) (n := e.n) (by omega)
    by_cases c : kAt l e.s e.n = j
    · rw [c]; exact ⟨g2, e1, e2⟩
    · have := rise_mono hr (i := kAt l e.s e.n) (j := j) (by omega) g2
      unfold lessE at this
      rw [e1, e2, hk] at this
      cases this
theorem flt_head {l : List Ent} {e : Ent} : (l.take (kAt l e.s e.n)).filter (neK e) = l.take (kAt l e.s e.n) := flt_take fun j h _ => neK_less (kAt_lt h)
theorem isJ_at {l : List Ent} (hr : rise l = true) {e : Ent} : isJ l e l.length = isAt l e.s e.n := by
  unfold isJ
  rw [List.take_length]
  cases h : isAt l e.s e.n with
  | true =>
    obtain ⟨h1, h2, h3⟩ : kAt l e.s e.n < l.length ∧ (ent l (kAt l e.s e.n)).s = e.s ∧ (ent l (kAt l e.s e.n)).n = e.n := by unfold isAt at h; exact of_decide_eq_true h
    rw [List.any_eq_true]
    exact ⟨_, mem_ent.2 ⟨_, h1, rfl⟩, by unfold neK; simp [h2, h3]⟩
  | false =>
    rw [List.any_eq_false]
    intro x hx
    have h1 := flt_tail hr (e := e)
    rw [h] at h1
    simp only [Bool.false_eq_true, if_false] at h1
    rw [← List.take_append_drop (kAt l e.s e.n) l] at hx
    rcases List.mem_append.1 hx with hx | hx
    · have := List.filter_eq_self.1 (flt_head (l := l) (e := e)) x hx
      simp [this]
    · have := List.filter_eq_self.1 h1 x hx
      simp [this]
theorem woL_out {l : List Ent} (hr : rise l = true) {e : Ent} (h : isAt l e.s e.n = true) : woL l e l.length = outL l e.s e.n := by
  unfold woL outL
  rw [List.take_length]
  conv => lhs; rw [← List.take_append_drop (kAt l e.s e.n) l]
  rw [List.filter_append, flt_head, flt_tail hr, if_pos h]
theorem wiL_with {l : List Ent} (ha : allR l = true) (hr : rise l = true) {e : Ent} (he : okE e = true) : (if pAt l e < l.length then wiL l e l.length else wiL l e l.length ++ [e]) = withL l e := by
  have hp := pAt_k ha he
  have hk := kAt_le l e.s e.n
  unfold wiL withL
  rw [hp, List.take_length]
  by_cases c : kAt l e.s e.n < l.length
  · rw [if_pos c, if_pos c, flt_head, flt_tail hr]
  · have hk2 : kAt l e.s e.n = l.length := by omega
    have h := flt_head (l := l) (e := e)
    rw [hk2, List.take_length] at h
    rw [if_neg c, if_neg c, h, hk2, List.take_length, List.drop_of_length_le (by split <;> omega), List.append_nil]
theorem wiL_long {l : List Ent} (ha : allR l = true) (hr : rise l = true) {e : Ent} (he : okE e = true) : (withL l e).length = if isAt l e.s e.n = true then l.length else l.length + 1 := by
  have hk := kAt_le l e.s e.n
  unfold withL
  rw [List.length_append, List.length_append, List.length_take, List.length_drop]
  simp only [List.length_cons, List.length_nil]
  split
  · rename_i h
    have : kAt l e.s e.n < l.length := by unfold isAt at h; exact (of_decide_eq_true h).1
    omega
  · omega
end Go.Proofs.Ytenbclcfhjdcaaa.VM
end
