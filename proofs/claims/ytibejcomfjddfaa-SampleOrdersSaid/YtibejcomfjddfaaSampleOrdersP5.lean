/- What the proof of SampleOrders rests on, part 5 of 7. -/
import Derived.Test.YtibejcomfjddfaaSampleOrdersP4
import Derived.Test.YtibejcomfjddfaaSampleOrdersS
import Derived.KernelRfl
import Derived.Test.YtibejcomfjddfaaProg
section
set_option maxHeartbeats 8000000
set_option linter.unusedVariables false
set_option linter.unusedSimpArgs false
/- What is asked of the seat's types and functions. -/
namespace Go.Proofs.Ytibejcomfjddfaa.AM
open Go Go.Proofs
attribute [simp] Instr.fill
@[simp] theorem sz2 : szOf Try.prog 2 = some 1 := by kernel_rfl
@[simp] theorem ag2 : aggOf Try.prog 2 = some false := by kernel_rfl
@[simp] theorem zv2 : zeroOf Try.prog 2 = some (.int .i64 0) := by kernel_rfl
@[simp low] theorem zn2 (n : Nat) : zerosOf Try.prog 2 n = some (List.replicate n [.int .i64 0]).flatten := by kernel_rfl
@[simp] theorem ze2 : zerosOf Try.prog 2 1 = some [.int .i64 0] := by kernel_rfl
@[simp] theorem by2 : byOf Try.prog 2 = some 8 := by kernel_rfl
attribute [simp] Try.underlying2
@[simp] theorem sz3 : szOf Try.prog 3 = some 1 := by kernel_rfl
@[simp] theorem ag3 : aggOf Try.prog 3 = some false := by kernel_rfl
@[simp] theorem zv3 : zeroOf Try.prog 3 = some (.int .i64 0) := by kernel_rfl
@[simp low] theorem zn3 (n : Nat) : zerosOf Try.prog 3 n = some (List.replicate n [.int .i64 0]).flatten := by kernel_rfl
@[simp] theorem ze3 : zerosOf Try.prog 3 1 = some [.int .i64 0] := by kernel_rfl
@[simp] theorem by3 : byOf Try.prog 3 = some 8 := by kernel_rfl
attribute [simp] Try.underlying3
@[simp] theorem sz4 : szOf Try.prog 4 = some 1 := by kernel_rfl
@[simp] theorem ag4 : aggOf Try.prog 4 = some false := by kernel_rfl
@[simp] theorem zv4 : zeroOf Try.prog 4 = some (.bool false) := by kernel_rfl
@[simp low] theorem zn4 (n : Nat) : zerosOf Try.prog 4 n = some (List.replicate n [.bool false]).flatten := by kernel_rfl
@[simp] theorem ze4 : zerosOf Try.prog 4 1 = some [.bool false] := by kernel_rfl
@[simp] theorem by4 : byOf Try.prog 4 = some 1 := by kernel_rfl
attribute [simp] Try.underlying4
@[simp] theorem sz5 : szOf Try.prog 5 = some 1 := by kernel_rfl
@[simp] theorem ag5 : aggOf Try.prog 5 = some false := by kernel_rfl
@[simp] theorem zv5 : zeroOf Try.prog 5 = some (.int .u8 0) := by kernel_rfl
@[simp low] theorem zn5 (n : Nat) : zerosOf Try.prog 5 n = some (List.replicate n [.int .u8 0]).flatten := by kernel_rfl
@[simp] theorem ze5 : zerosOf Try.prog 5 1 = some [.int .u8 0] := by kernel_rfl
@[simp] theorem by5 : byOf Try.prog 5 = some 1 := by kernel_rfl
attribute [simp] Try.underlying5
@[simp] theorem sz6 : szOf Try.prog 6 = some 1 := by kernel_rfl
@[simp] theorem ag6 : aggOf Try.prog 6 = some false := by kernel_rfl
@[simp] theorem zv6 : zeroOf Try.prog 6 = some (.int .u8 0) := by kernel_rfl
@[simp low] theorem zn6 (n : Nat) : zerosOf Try.prog 6 n = some (List.replicate n [.int .u8 0]).flatten := by kernel_rfl
@[simp] theorem ze6 : zerosOf Try.prog 6 1 = some [.int .u8 0] := by kernel_rfl
@[simp] theorem by6 : byOf Try.prog 6 = some 1 := by kernel_rfl
attribute [simp] Try.underlying6
@[simp] theorem sz7 : szOf Try.prog 7 = some 4 := by kernel_rfl
@[simp] theorem ag7 : aggOf Try.prog 7 = some true := by kernel_rfl
@[simp] theorem zv7 : zeroOf Try.prog 7 = some (.agg #[.int .i64 0, .int .i64 0, .bool false, .int .u8 0]) := by kernel_rfl
@[simp low] theorem zn7 (n : Nat) : zerosOf Try.prog 7 n = some (List.replicate n [.int .i64 0, .int .i64 0, .bool false, .int .u8 0]).flatten := by kernel_rfl
@[simp] theorem ze7 : zerosOf Try.prog 7 1 = some [.int .i64 0, .int .i64 0, .bool false, .int .u8 0] := by kernel_rfl
@[simp] theorem pl7 : placesOf Try.prog 7 = some [(0, 1), (1, 1), (2, 1), (3, 1)] := by kernel_rfl
@[simp] theorem bu7 (ps : Array (Nat × Value)) : buildV Try.prog 7 ps = if (ps.all fun (_, x) => !junkB x) = true then (Instr.fill (fun x => [(0, 1), (1, 1), (2, 1), (3, 1)].toArray[x]?) #[.int .i64 0, .int .i64 0, .bool false, .int .u8 0] ps.toList).map fun cs => .agg cs else none := buildV_struct zv7 (by kernel_rfl) (by kernel_rfl)
@[simp] theorem by7 : byOf Try.prog 7 = some 24 := by kernel_rfl
@[simp] theorem fo7_0 : fieldOf Try.prog 7 0 = some (0, 2) := by kernel_rfl
@[simp] theorem fo7_1 : fieldOf Try.prog 7 1 = some (1, 3) := by kernel_rfl
@[simp] theorem fo7_2 : fieldOf Try.prog 7 2 = some (2, 4) := by kernel_rfl
@[simp] theorem fo7_3 : fieldOf Try.prog 7 3 = some (3, 6) := by kernel_rfl
attribute [simp] Try.underlying7
@[simp] theorem sz8 : szOf Try.prog 8 = some 4 := by kernel_rfl
@[simp] theorem ag8 : aggOf Try.prog 8 = some true := by kernel_rfl
@[simp] theorem zv8 : zeroOf Try.prog 8 = some (.agg #[.int .i64 0, .int .i64 0, .bool false, .int .u8 0]) := by kernel_rfl
@[simp low] theorem zn8 (n : Nat) : zerosOf Try.prog 8 n = some (List.replicate n [.int .i64 0, .int .i64 0, .bool false, .int .u8 0]).flatten := by kernel_rfl
@[simp] theorem ze8 : zerosOf Try.prog 8 1 = some [.int .i64 0, .int .i64 0, .bool false, .int .u8 0] := by kernel_rfl
@[simp] theorem pl8 : placesOf Try.prog 8 = some [(0, 1), (1, 1), (2, 1), (3, 1)] := by kernel_rfl
@[simp] theorem bu8 (ps : Array (Nat × Value)) : buildV Try.prog 8 ps = if (ps.all fun (_, x) => !junkB x) = true then (Instr.fill (fun x => [(0, 1), (1, 1), (2, 1), (3, 1)].toArray[x]?) #[.int .i64 0, .int .i64 0, .bool false, .int .u8 0] ps.toList).map fun cs => .agg cs else none := buildV_struct zv8 (by kernel_rfl) (by kernel_rfl)
@[simp] theorem by8 : byOf Try.prog 8 = some 24 := by kernel_rfl
@[simp] theorem fo8_0 : fieldOf Try.prog 8 0 = some (0, 2) := by kernel_rfl
@[simp] theorem fo8_1 : fieldOf Try.prog 8 1 = some (1, 3) := by kernel_rfl
@[simp] theorem fo8_2 : fieldOf Try.prog 8 2 = some (2, 4) := by kernel_rfl
@[simp] theorem fo8_3 : fieldOf Try.prog 8 3 = some (3, 6) := by kernel_rfl
attribute [simp] Try.underlying8
@[simp] theorem sz9 : szOf Try.prog 9 = some 1 := by kernel_rfl
@[simp] theorem ag9 : aggOf Try.prog 9 = some false := by kernel_rfl
@[simp] theorem zv9 : zeroOf Try.prog 9 = some (.string ⟨#[]⟩) := by kernel_rfl
@[simp low] theorem zn9 (n : Nat) : zerosOf Try.prog 9 n = some (List.replicate n [.string ⟨#[]⟩]).flatten := by kernel_rfl
@[simp] theorem ze9 : zerosOf Try.prog 9 1 = some [.string ⟨#[]⟩] := by kernel_rfl
@[simp] theorem by9 : byOf Try.prog 9 = some 16 := by kernel_rfl
attribute [simp] Try.underlying9
@[simp] theorem sz10 : szOf Try.prog 10 = some 1 := by kernel_rfl
@[simp] theorem ag10 : aggOf Try.prog 10 = some false := by kernel_rfl
@[simp] theorem zv10 : zeroOf Try.prog 10 = some (.string ⟨#[]⟩) := by kernel_rfl
@[simp low] theorem zn10 (n : Nat) : zerosOf Try.prog 10 n = some (List.replicate n [.string ⟨#[]⟩]).flatten := by kernel_rfl
@[simp] theorem ze10 : zerosOf Try.prog 10 1 = some [.string ⟨#[]⟩] := by kernel_rfl
@[simp] theorem by10 : byOf Try.prog 10 = some 16 := by kernel_rfl
attribute [simp] Try.underlying10
@[simp] theorem sz11 : szOf Try.prog 11 = some 1 := by kernel_rfl
@[simp] theorem ag11 : aggOf Try.prog 11 = some false := by kernel_rfl
@[simp] theorem zv11 : zeroOf Try.prog 11 = some (.string ⟨#[]⟩) := by kernel_rfl
@[simp low] theorem zn11 (n : Nat) : zerosOf Try.prog 11 n = some (List.replicate n [.string ⟨#[]⟩]).flatten := by kernel_rfl
@[simp] theorem ze11 : zerosOf Try.prog 11 1 = some [.string ⟨#[]⟩] := by kernel_rfl
@[simp] theorem by11 : byOf Try.prog 11 = some 16 := by kernel_rfl
attribute [simp] Try.underlying11
@[simp] theorem sz12 : szOf Try.prog 12 = some 1 := by kernel_rfl
@[simp] theorem ag12 : aggOf Try.prog 12 = some false := by kernel_rfl
@[simp] theorem zv12 : zeroOf Try.prog 12 = some (.int .u64 0) := by kernel_rfl
@[simp low] theorem zn12 (n : Nat) : zerosOf Try.prog 12 n = some (List.replicate n [.int .u64 0]).flatten := by kernel_rfl
@[simp] theorem ze12 : zerosOf Try.prog 12 1 = some [.int .u64 0] := by kernel_rfl
@[simp] theorem by12 : byOf Try.prog 12 = some 8 := by kernel_rfl
attribute [simp] Try.underlying12
@[simp] theorem sz13 : szOf Try.prog 13 = some 2 := by kernel_rfl
@[simp] theorem ag13 : aggOf Try.prog 13 = some true := by kernel_rfl
@[simp] theorem zv13 : zeroOf Try.prog 13 = some (.agg #[.string ⟨#[]⟩, .int .u64 0]) := by kernel_rfl
@[simp low] theorem zn13 (n : Nat) : zerosOf Try.prog 13 n = some (List.replicate n [.string ⟨#[]⟩, .int .u64 0]).flatten := by kernel_rfl
@[simp] theorem ze13 : zerosOf Try.prog 13 1 = some [.string ⟨#[]⟩, .int .u64 0] := by kernel_rfl
@[simp] theorem pl13 : placesOf Try.prog 13 = some [(0, 1), (1, 1)] := by kernel_rfl
@[simp] theorem bu13 (ps : Array (Nat × Value)) : buildV Try.prog 13 ps = if (ps.all fun (_, x) => !junkB x) = true then (Instr.fill (fun x => [(0, 1), (1, 1)].toArray[x]?) #[.string ⟨#[]⟩, .int .u64 0] ps.toList).map fun cs => .agg cs else none := buildV_struct zv13 (by kernel_rfl) (by kernel_rfl)
@[simp] theorem by13 : byOf Try.prog 13 = some 24 := by kernel_rfl
@[simp] theorem fo13_0 : fieldOf Try.prog 13 0 = some (0, 9) := by kernel_rfl
@[simp] theorem fo13_1 : fieldOf Try.prog 13 1 = some (1, 12) := by kernel_rfl
attribute [simp] Try.underlying13
@[simp] theorem sz14 : szOf Try.prog 14 = some 2 := by kernel_rfl
@[simp] theorem ag14 : aggOf Try.prog 14 = some true := by kernel_rfl
@[simp] theorem zv14 : zeroOf Try.prog 14 = some (.agg #[.string ⟨#[]⟩, .int .u64 0]) := by kernel_rfl
@[simp low] theorem zn14 (n : Nat) : zerosOf Try.prog 14 n = some (List.replicate n [.string ⟨#[]⟩, .int .u64 0]).flatten := by kernel_rfl
@[simp] theorem ze14 : zerosOf Try.prog 14 1 = some [.string ⟨#[]⟩, .int .u64 0] := by kernel_rfl
@[simp] theorem pl14 : placesOf Try.prog 14 = some [(0, 1), (1, 1)] := by kernel_rfl
@[simp] theorem bu14 (ps : Array (Nat × Value)) : buildV Try.prog 14 ps = if (ps.all fun (_, x) => !junkB x) = true then (Instr.fill (fun x => [(0, 1), (1, 1)].toArray[x]?) #[.string ⟨#[]⟩, .int .u64 0] ps.toList).map fun cs => .agg cs else none := buildV_struct zv14 (by kernel_rfl) (by kernel_rfl)
@[simp] theorem by14 : byOf Try.prog 14 = some 24 := by kernel_rfl
@[simp] theorem fo14_0 : fieldOf Try.prog 14 0 = some (0, 9) := by kernel_rfl
@[simp] theorem fo14_1 : fieldOf Try.prog 14 1 = some (1, 12) := by kernel_rfl
attribute [simp] Try.underlying14
@[simp] theorem sz15 : szOf Try.prog 15 = some 1 := by kernel_rfl
@[simp] theorem ag15 : aggOf Try.prog 15 = some false := by kernel_rfl
@[simp] theorem zv15 : zeroOf Try.prog 15 = some (.pointer none) := by kernel_rfl
@[simp low] theorem zn15 (n : Nat) : zerosOf Try.prog 15 n = some (List.replicate n [.pointer none]).flatten := by kernel_rfl
@[simp] theorem ze15 : zerosOf Try.prog 15 1 = some [.pointer none] := by kernel_rfl
@[simp] theorem by15 : byOf Try.prog 15 = some 8 := by kernel_rfl
attribute [simp] Try.underlying15
@[simp] theorem sz16 : szOf Try.prog 16 = some 1 := by kernel_rfl
@[simp] theorem ag16 : aggOf Try.prog 16 = some false := by kernel_rfl
@[simp] theorem zv16 : zeroOf Try.prog 16 = some (.pointer none) := by kernel_rfl
@[simp low] theorem zn16 (n : Nat) : zerosOf Try.prog 16 n = some (List.replicate n [.pointer none]).flatten := by kernel_rfl
@[simp] theorem ze16 : zerosOf Try.prog 16 1 = some [.pointer none] := by kernel_rfl
@[simp] theorem by16 : byOf Try.prog 16 = some 8 := by kernel_rfl
attribute [simp] Try.underlying16
@[simp] theorem sz17 : szOf Try.prog 17 = some 1 := by kernel_rfl
@[simp] theorem ag17 : aggOf Try.prog 17 = some false := by kernel_rfl
@[simp] theorem zv17 : zeroOf Try.prog 17 = some (.pointer none) := by kernel_rfl
@[simp low] theorem zn17 (n : Nat) : zerosOf Try.prog 17 n = some (List.replicate n [.pointer none]).flatten := by kernel_rfl
@[simp] theorem ze17 : zerosOf Try.prog 17 1 = some [.pointer none] := by kernel_rfl
@[simp] theorem by17 : byOf Try.prog 17 = some 8 := by kernel_rfl
attribute [simp] Try.underlying17
@[simp] theorem sz18 : szOf Try.prog 18 = some 1 := by kernel_rfl
@[simp] theorem ag18 : aggOf Try.prog 18 = some true := by kernel_rfl
@[simp] theorem zv18 : zeroOf Try.prog 18 = some (.agg #[.pointer none]) := by kernel_rfl
@[simp low] theorem zn18 (n : Nat) : zerosOf Try.prog 18 n = some (List.replicate n [.pointer none]).flatten := by kernel_rfl
@[simp] theorem ze18 : zerosOf Try.prog 18 1 = some [.pointer none] := by kernel_rfl
@[simp] theorem pl18 : placesOf Try.prog 18 = some [(0, 1)] := by kernel_rfl
@[simp] theorem bu18 (ps : Array (Nat × Value)) : buildV Try.prog 18 ps = if (ps.all fun (_, x) => !junkB x) = true then (Instr.fill (fun x => [(0, 1)].toArray[x]?) #[.pointer none] ps.toList).map fun cs => .agg cs else none := buildV_struct zv18 (by kernel_rfl) (by kernel_rfl)
@[simp] theorem by18 : byOf Try.prog 18 = some 8 := by kernel_rfl
@[simp] theorem fo18_0 : fieldOf Try.prog 18 0 = some (0, 17) := by kernel_rfl
attribute [simp] Try.underlying18
@[simp] theorem sz19 : szOf Try.prog 19 = some 1 := by kernel_rfl
@[simp] theorem ag19 : aggOf Try.prog 19 = some true := by kernel_rfl
@[simp] theorem zv19 : zeroOf Try.prog 19 = some (.agg #[.pointer none]) := by kernel_rfl
@[simp low] theorem zn19 (n : Nat) : zerosOf Try.prog 19 n = some (List.replicate n [.pointer none]).flatten := by kernel_rfl
@[simp] theorem ze19 : zerosOf Try.prog 19 1 = some [.pointer none] := by kernel_rfl
@[simp] theorem pl19 : placesOf Try.prog 19 = some [(0, 1)] := by kernel_rfl
@[simp] theorem bu19 (ps : Array (Nat × Value)) : buildV Try.prog 19 ps = if (ps.all fun (_, x) => !junkB x) = true then (Instr.fill (fun x => [(0, 1)].toArray[x]?) #[.pointer none] ps.toList).map fun cs => .agg cs else none := buildV_struct zv19 (by kernel_rfl) (by kernel_rfl)
@[simp] theorem by19 : byOf Try.prog 19 = some 8 := by kernel_rfl
@[simp] theorem fo19_0 : fieldOf Try.prog 19 0 = some (0, 17) := by kernel_rfl
attribute [simp] Try.underlying19
@[simp] theorem sz21 : szOf Try.prog 21 = some 1 := by kernel_rfl
@[simp] theorem ag21 : aggOf Try.prog 21 = some false := by kernel_rfl
@[simp] theorem zv21 : zeroOf Try.prog 21 = some (.int .i32 0) := by kernel_rfl
@[simp low] theorem zn21 (n : Nat) : zerosOf Try.prog 21 n = some (List.replicate n [.int .i32 0]).flatten := by kernel_rfl
@[simp] theorem ze21 : zerosOf Try.prog 21 1 = some [.int .i32 0] := by kernel_rfl
@[simp] theorem by21 : byOf Try.prog 21 = some 4 := by kernel_rfl
attribute [simp] Try.underlying21
@[simp] theorem sz22 : szOf Try.prog 22 = some 1 := by kernel_rfl
@[simp] theorem ag22 : aggOf Try.prog 22 = some false := by kernel_rfl
@[simp] theorem zv22 : zeroOf Try.prog 22 = some (.slice none 0 0) := by kernel_rfl
@[simp low] theorem zn22 (n : Nat) : zerosOf Try.prog 22 n = some (List.replicate n [.slice none 0 0]).flatten := by kernel_rfl
@[simp] theorem ze22 : zerosOf Try.prog 22 1 = some [.slice none 0 0] := by kernel_rfl
@[simp] theorem by22 : byOf Try.prog 22 = some 24 := by kernel_rfl
attribute [simp] Try.underlying22
@[simp] theorem sz25 : szOf Try.prog 25 = some 1 := by kernel_rfl
@[simp] theorem ag25 : aggOf Try.prog 25 = some false := by kernel_rfl
@[simp] theorem zv25 : zeroOf Try.prog 25 = some (.pointer none) := by kernel_rfl
@[simp low] theorem zn25 (n : Nat) : zerosOf Try.prog 25 n = some (List.replicate n [.pointer none]).flatten := by kernel_rfl
@[simp] theorem ze25 : zerosOf Try.prog 25 1 = some [.pointer none] := by kernel_rfl
@[simp] theorem by25 : byOf Try.prog 25 = some 8 := by kernel_rfl
attribute [simp] Try.underlying25
@[simp] theorem sz26 : szOf Try.prog 26 = some 1 := by kernel_rfl
@[simp] theorem ag26 : aggOf Try.prog 26 = some false := by kernel_rfl
@[simp] theorem zv26 : zeroOf Try.prog 26 = some (.int .i64 0) := by kernel_rfl
@[simp low] theorem zn26 (n : Nat) : zerosOf Try.prog 26 n = some (List.replicate n [.int .i64 0]).flatten := by kernel_rfl
@[simp] theorem ze26 : zerosOf Try.prog 26 1 = some [.int .i64 0] := by kernel_rfl
@[simp] theorem by26 : byOf Try.prog 26 = some 8 := by kernel_rfl
attribute [simp] Try.underlying26
@[simp] theorem sz35 : szOf Try.prog 35 = some 1 := by kernel_rfl
@[simp] theorem ag35 : aggOf Try.prog 35 = some false := by kernel_rfl
@[simp] theorem zv35 : zeroOf Try.prog 35 = some (.int .u64 0) := by kernel_rfl
@[simp low] theorem zn35 (n : Nat) : zerosOf Try.prog 35 n = some (List.replicate n [.int .u64 0]).flatten := by kernel_rfl
@[simp] theorem ze35 : zerosOf Try.prog 35 1 = some [.int .u64 0] := by kernel_rfl
@[simp] theorem by35 : byOf Try.prog 35 = some 8 := by kernel_rfl
attribute [simp] Try.underlying35
@[simp] theorem sz38 : szOf Try.prog 38 = some 1 := by kernel_rfl
@[simp] theorem ag38 : aggOf Try.prog 38 = some false := by kernel_rfl
@[simp] theorem zv38 : zeroOf Try.prog 38 = some (.pointer none) := by kernel_rfl
@[simp low] theorem zn38 (n : Nat) : zerosOf Try.prog 38 n = some (List.replicate n [.pointer none]).flatten := by kernel_rfl
@[simp] theorem ze38 : zerosOf Try.prog 38 1 = some [.pointer none] := by kernel_rfl
@[simp] theorem by38 : byOf Try.prog 38 = some 8 := by kernel_rfl
attribute [simp] Try.underlying38
@[simp] theorem sz41 : szOf Try.prog 41 = some 1 := by kernel_rfl
@[simp] theorem ag41 : aggOf Try.prog 41 = some false := by kernel_rfl
@[simp] theorem zv41 : zeroOf Try.prog 41 = some (.pointer none) := by kernel_rfl
@[simp low] theorem zn41 (n : Nat) : zerosOf Try.prog 41 n = some (List.replicate n [.pointer none]).flatten := by kernel_rfl
@[simp] theorem ze41 : zerosOf Try.prog 41 1 = some [.pointer none] := by kernel_rfl
@[simp] theorem by41 : byOf Try.prog 41 = some 8 := by kernel_rfl
attribute [simp] Try.underlying41
@[simp] theorem sz44 : szOf Try.prog 44 = some 4 := by kernel_rfl
@[simp] theorem ag44 : aggOf Try.prog 44 = some true := by kernel_rfl
@[simp] theorem zv44 : zeroOf Try.prog 44 = some (.agg #[.int .i64 0, .pointer none, .pointer none, .pointer none]) := by kernel_rfl
@[simp low] theorem zn44 (n : Nat) : zerosOf Try.prog 44 n = some (List.replicate n [.int .i64 0, .pointer none, .pointer none, .pointer none]).flatten := by kernel_rfl
@[simp] theorem ze44 : zerosOf Try.prog 44 1 = some [.int .i64 0, .pointer none, .pointer none, .pointer none] := by kernel_rfl
@[simp] theorem pl44 : placesOf Try.prog 44 = some [(0, 1), (1, 1), (2, 1), (3, 1)] := by kernel_rfl
@[simp] theorem bu44 (ps : Array (Nat × Value)) : buildV Try.prog 44 ps = if (ps.all fun (_, x) => !junkB x) = true then (Instr.fill (fun x => [(0, 1), (1, 1), (2, 1), (3, 1)].toArray[x]?) #[.int .i64 0, .pointer none, .pointer none, .pointer none] ps.toList).map fun cs => .agg cs else none := buildV_struct zv44 (by kernel_rfl) (by kernel_rfl)
@[simp] theorem by44 : byOf Try.prog 44 = some 32 := by kernel_rfl
@[simp] theorem fo44_0 : fieldOf Try.prog 44 0 = some (0, 3) := by kernel_rfl
@[simp] theorem fo44_1 : fieldOf Try.prog 44 1 = some (1, 38) := by kernel_rfl
@[simp] theorem fo44_2 : fieldOf Try.prog 44 2 = some (2, 41) := by kernel_rfl
@[simp] theorem fo44_3 : fieldOf Try.prog 44 3 = some (3, 41) := by kernel_rfl
attribute [simp] Try.underlying44
@[simp] theorem sz45 : szOf Try.prog 45 = some 4 := by kernel_rfl
@[simp] theorem ag45 : aggOf Try.prog 45 = some true := by kernel_rfl
@[simp] theorem zv45 : zeroOf Try.prog 45 = some (.agg #[.int .i64 0, .pointer none, .pointer none, .pointer none]) := by kernel_rfl
@[simp low] theorem zn45 (n : Nat) : zerosOf Try.prog 45 n = some (List.replicate n [.int .i64 0, .pointer none, .pointer none, .pointer none]).flatten := by kernel_rfl
@[simp] theorem ze45 : zerosOf Try.prog 45 1 = some [.int .i64 0, .pointer none, .pointer none, .pointer none] := by kernel_rfl
@[simp] theorem pl45 : placesOf Try.prog 45 = some [(0, 1), (1, 1), (2, 1), (3, 1)] := by kernel_rfl
@[simp] theorem bu45 (ps : Array (Nat × Value)) : buildV Try.prog 45 ps = if (ps.all fun (_, x) => !junkB x) = true then (Instr.fill (fun x => [(0, 1), (1, 1), (2, 1), (3, 1)].toArray[x]?) #[.int .i64 0, .pointer none, .pointer none, .pointer none] ps.toList).map fun cs => .agg cs else none := buildV_struct zv45 (by kernel_rfl) (by kernel_rfl)
@[simp] theorem by45 : byOf Try.prog 45 = some 32 := by kernel_rfl
@[simp] theorem fo45_0 : fieldOf Try.prog 45 0 = some (0, 3) := by kernel_rfl
@[simp] theorem fo45_1 : fieldOf Try.prog 45 1 = some (1, 38) := by kernel_rfl
@[simp] theorem fo45_2 : fieldOf Try.prog 45 2 = some (2, 41) := by kernel_rfl
@[simp] theorem fo45_3 : fieldOf Try.prog 45 3 = some (3, 41) := by kernel_rfl
attribute [simp] Try.underlying45
@[simp] theorem sz51 : szOf Try.prog 51 = some 1 := by kernel_rfl
@[simp] theorem ag51 : aggOf Try.prog 51 = some false := by kernel_rfl
@[simp] theorem zv51 : zeroOf Try.prog 51 = some (.slice none 0 0) := by kernel_rfl
@[simp low] theorem zn51 (n : Nat) : zerosOf Try.prog 51 n = some (List.replicate n [.slice none 0 0]).flatten := by kernel_rfl
@[simp] theorem ze51 : zerosOf Try.prog 51 1 = some [.slice none 0 0] := by kernel_rfl
@[simp] theorem by51 : byOf Try.prog 51 = some 24 := by kernel_rfl
attribute [simp] Try.underlying51
@[simp] theorem sz68 : szOf Try.prog 68 = some 1 := by kernel_rfl
@[simp] theorem ag68 : aggOf Try.prog 68 = some false := by kernel_rfl
@[simp] theorem zv68 : zeroOf Try.prog 68 = some (.slice none 0 0) := by kernel_rfl
@[simp low] theorem zn68 (n : Nat) : zerosOf Try.prog 68 n = some (List.replicate n [.slice none 0 0]).flatten := by kernel_rfl
@[simp] theorem ze68 : zerosOf Try.prog 68 1 = some [.slice none 0 0] := by kernel_rfl
@[simp] theorem by68 : byOf Try.prog 68 = some 24 := by kernel_rfl
attribute [simp] Try.underlying68
@[simp] theorem sz75 : szOf Try.prog 75 = some 1 := by kernel_rfl
@[simp] theorem ag75 : aggOf Try.prog 75 = some false := by kernel_rfl
@[simp] theorem zv75 : zeroOf Try.prog 75 = some (.slice none 0 0) := by kernel_rfl
@[simp low] theorem zn75 (n : Nat) : zerosOf Try.prog 75 n = some (List.replicate n [.slice none 0 0]).flatten := by kernel_rfl
@[simp] theorem ze75 : zerosOf Try.prog 75 1 = some [.slice none 0 0] := by kernel_rfl
@[simp] theorem by75 : byOf Try.prog 75 = some 24 := by kernel_rfl
attribute [simp] Try.underlying75
@[simp] theorem sz76 : szOf Try.prog 76 = some 0 := by kernel_rfl
@[simp] theorem ag76 : aggOf Try.prog 76 = some true := by kernel_rfl
@[simp] theorem by76 : byOf Try.prog 76 = some 0 := by kernel_rfl
attribute [simp] Try.underlying76
@[simp] theorem sz77 : szOf Try.prog 77 = some 0 := by kernel_rfl
@[simp] theorem ag77 : aggOf Try.prog 77 = some true := by kernel_rfl
@[simp] theorem by77 : byOf Try.prog 77 = some 0 := by kernel_rfl
attribute [simp] Try.underlying77
@[simp] theorem sz78 : szOf Try.prog 78 = some 0 := by kernel_rfl
@[simp] theorem ag78 : aggOf Try.prog 78 = some true := by kernel_rfl
@[simp] theorem by78 : byOf Try.prog 78 = some 0 := by kernel_rfl
attribute [simp] Try.underlying78
@[simp] theorem sz79 : szOf Try.prog 79 = some 1 := by kernel_rfl
@[simp] theorem ag79 : aggOf Try.prog 79 = some false := by kernel_rfl
@[simp] theorem zv79 : zeroOf Try.prog 79 = some (.int .u32 0) := by kernel_rfl
@[simp low] theorem zn79 (n : Nat) : zerosOf Try.prog 79 n = some (List.replicate n [.int .u32 0]).flatten := by kernel_rfl
@[simp] theorem ze79 : zerosOf Try.prog 79 1 = some [.int .u32 0] := by kernel_rfl
@[simp] theorem by79 : byOf Try.prog 79 = some 4 := by kernel_rfl
attribute [simp] Try.underlying79
@[simp] theorem sz80 : szOf Try.prog 80 = some 1 := by kernel_rfl
@[simp] theorem ag80 : aggOf Try.prog 80 = some true := by kernel_rfl
@[simp] theorem zv80 : zeroOf Try.prog 80 = some (.agg #[.int .u32 0]) := by kernel_rfl
@[simp low] theorem zn80 (n : Nat) : zerosOf Try.prog 80 n = some (List.replicate n [.int .u32 0]).flatten := by kernel_rfl
@[simp] theorem ze80 : zerosOf Try.prog 80 1 = some [.int .u32 0] := by kernel_rfl
@[simp] theorem pl80 : placesOf Try.prog 80 = some [(0, 0), (0, 1)] := by kernel_rfl
@[simp] theorem bu80 (ps : Array (Nat × Value)) : buildV Try.prog 80 ps = if (ps.all fun (_, x) => !junkB x) = true then (Instr.fill (fun x => [(0, 0), (0, 1)].toArray[x]?) #[.int .u32 0] ps.toList).map fun cs => .agg cs else none := buildV_struct zv80 (by kernel_rfl) (by kernel_rfl)
@[simp] theorem by80 : byOf Try.prog 80 = some 4 := by kernel_rfl
@[simp] theorem fo80_0 : fieldOf Try.prog 80 0 = some (0, 78) := by kernel_rfl
@[simp] theorem fo80_1 : fieldOf Try.prog 80 1 = some (0, 79) := by kernel_rfl
attribute [simp] Try.underlying80
@[simp] theorem sz81 : szOf Try.prog 81 = some 1 := by kernel_rfl
@[simp] theorem ag81 : aggOf Try.prog 81 = some true := by kernel_rfl
@[simp] theorem zv81 : zeroOf Try.prog 81 = some (.agg #[.int .u32 0]) := by kernel_rfl
@[simp low] theorem zn81 (n : Nat) : zerosOf Try.prog 81 n = some (List.replicate n [.int .u32 0]).flatten := by kernel_rfl
@[simp] theorem ze81 : zerosOf Try.prog 81 1 = some [.int .u32 0] := by kernel_rfl
@[simp] theorem pl81 : placesOf Try.prog 81 = some [(0, 0), (0, 1)] := by kernel_rfl
@[simp] theorem bu81 (ps : Array (Nat × Value)) : buildV Try.prog 81 ps = if (ps.all fun (_, x) => !junkB x) = true then (Instr.fill (fun x => [(0, 0), (0, 1)].toArray[x]?) #[.int .u32 0] ps.toList).map fun cs => .agg cs else none := buildV_struct zv81 (by kernel_rfl) (by kernel_rfl)
@[simp] theorem by81 : byOf Try.prog 81 = some 4 := by kernel_rfl
@[simp] theorem fo81_0 : fieldOf Try.prog 81 0 = some (0, 78) := by kernel_rfl
@[simp] theorem fo81_1 : fieldOf Try.prog 81 1 = some (0, 79) := by kernel_rfl
attribute [simp] Try.underlying81
@[simp] theorem sz82 : szOf Try.prog 82 = some 2 := by kernel_rfl
@[simp] theorem ag82 : aggOf Try.prog 82 = some true := by kernel_rfl
@[simp] theorem zv82 : zeroOf Try.prog 82 = some (.agg #[.int .i32 0, .int .u32 0]) := by kernel_rfl
@[simp low] theorem zn82 (n : Nat) : zerosOf Try.prog 82 n = some (List.replicate n [.int .i32 0, .int .u32 0]).flatten := by kernel_rfl
@[simp] theorem ze82 : zerosOf Try.prog 82 1 = some [.int .i32 0, .int .u32 0] := by kernel_rfl
@[simp] theorem pl82 : placesOf Try.prog 82 = some [(0, 1), (1, 1)] := by kernel_rfl
@[simp] theorem bu82 (ps : Array (Nat × Value)) : buildV Try.prog 82 ps = if (ps.all fun (_, x) => !junkB x) = true then (Instr.fill (fun x => [(0, 1), (1, 1)].toArray[x]?) #[.int .i32 0, .int .u32 0] ps.toList).map fun cs => .agg cs else none := buildV_struct zv82 (by kernel_rfl) (by kernel_rfl)
@[simp] theorem by82 : byOf Try.prog 82 = some 8 := by kernel_rfl
@[simp] theorem fo82_0 : fieldOf Try.prog 82 0 = some (0, 21) := by kernel_rfl
@[simp] theorem fo82_1 : fieldOf Try.prog 82 1 = some (1, 79) := by kernel_rfl
attribute [simp] Try.underlying82
@[simp] theorem sz83 : szOf Try.prog 83 = some 2 := by kernel_rfl
@[simp] theorem ag83 : aggOf Try.prog 83 = some true := by kernel_rfl
@[simp] theorem zv83 : zeroOf Try.prog 83 = some (.agg #[.int .i32 0, .int .u32 0]) := by kernel_rfl
@[simp low] theorem zn83 (n : Nat) : zerosOf Try.prog 83 n = some (List.replicate n [.int .i32 0, .int .u32 0]).flatten := by kernel_rfl
@[simp] theorem ze83 : zerosOf Try.prog 83 1 = some [.int .i32 0, .int .u32 0] := by kernel_rfl
@[simp] theorem pl83 : placesOf Try.prog 83 = some [(0, 1), (1, 1)] := by kernel_rfl
@[simp] theorem bu83 (ps : Array (Nat × Value)) : buildV Try.prog 83 ps = if (ps.all fun (_, x) => !junkB x) = true then (Instr.fill (fun x => [(0, 1), (1, 1)].toArray[x]?) #[.int .i32 0, .int .u32 0] ps.toList).map fun cs => .agg cs else none := buildV_struct zv83 (by kernel_rfl) (by kernel_rfl)
@[simp] theorem by83 : byOf Try.prog 83 = some 8 := by kernel_rfl
@[simp] theorem fo83_0 : fieldOf Try.prog 83 0 = some (0, 21) := by kernel_rfl
@[simp] theorem fo83_1 : fieldOf Try.prog 83 1 = some (1, 79) := by kernel_rfl
attribute [simp] Try.underlying83
@[simp] theorem sz84 : szOf Try.prog 84 = some 2 := by kernel_rfl
@[simp] theorem ag84 : aggOf Try.prog 84 = some true := by kernel_rfl
@[simp] theorem zv84 : zeroOf Try.prog 84 = some (.agg #[.int .i32 0, .int .u32 0]) := by kernel_rfl
@[simp low] theorem zn84 (n : Nat) : zerosOf Try.prog 84 n = some (List.replicate n [.int .i32 0, .int .u32 0]).flatten := by kernel_rfl
@[simp] theorem ze84 : zerosOf Try.prog 84 1 = some [.int .i32 0, .int .u32 0] := by kernel_rfl
@[simp] theorem pl84 : placesOf Try.prog 84 = some [(0, 0), (0, 2)] := by kernel_rfl
@[simp] theorem bu84 (ps : Array (Nat × Value)) : buildV Try.prog 84 ps = if (ps.all fun (_, x) => !junkB x) = true then (Instr.fill (fun x => [(0, 0), (0, 2)].toArray[x]?) #[.int .i32 0, .int .u32 0] ps.toList).map fun cs => .agg cs else none := buildV_struct zv84 (by kernel_rfl) (by kernel_rfl)
@[simp] theorem by84 : byOf Try.prog 84 = some 8 := by kernel_rfl
@[simp] theorem fo84_0 : fieldOf Try.prog 84 0 = some (0, 77) := by kernel_rfl
@[simp] theorem fo84_1 : fieldOf Try.prog 84 1 = some (0, 83) := by kernel_rfl
attribute [simp] Try.underlying84
@[simp] theorem sz85 : szOf Try.prog 85 = some 2 := by kernel_rfl
@[simp] theorem ag85 : aggOf Try.prog 85 = some true := by kernel_rfl
@[simp] theorem zv85 : zeroOf Try.prog 85 = some (.agg #[.int .i32 0, .int .u32 0]) := by kernel_rfl
@[simp low] theorem zn85 (n : Nat) : zerosOf Try.prog 85 n = some (List.replicate n [.int .i32 0, .int .u32 0]).flatten := by kernel_rfl
@[simp] theorem ze85 : zerosOf Try.prog 85 1 = some [.int .i32 0, .int .u32 0] := by kernel_rfl
@[simp] theorem pl85 : placesOf Try.prog 85 = some [(0, 0), (0, 2)] := by kernel_rfl
@[simp] theorem bu85 (ps : Array (Nat × Value)) : buildV Try.prog 85 ps = if (ps.all fun (_, x) => !junkB x) = true then (Instr.fill (fun x => [(0, 0), (0, 2)].toArray[x]?) #[.int .i32 0, .int .u32 0] ps.toList).map fun cs => .agg cs else none := buildV_struct zv85 (by kernel_rfl) (by kernel_rfl)
@[simp] theorem by85 : byOf Try.prog 85 = some 8 := by kernel_rfl
@[simp] theorem fo85_0 : fieldOf Try.prog 85 0 = some (0, 77) := by kernel_rfl
@[simp] theorem fo85_1 : fieldOf Try.prog 85 1 = some (0, 83) := by kernel_rfl
attribute [simp] Try.underlying85
@[simp] theorem sz86 : szOf Try.prog 86 = some 3 := by kernel_rfl
@[simp] theorem ag86 : aggOf Try.prog 86 = some true := by kernel_rfl
@[simp] theorem zv86 : zeroOf Try.prog 86 = some (.agg #[.int .u32 0, .int .i32 0, .int .u32 0]) := by kernel_rfl
@[simp low] theorem zn86 (n : Nat) : zerosOf Try.prog 86 n = some (List.replicate n [.int .u32 0, .int .i32 0, .int .u32 0]).flatten := by kernel_rfl
@[simp] theorem ze86 : zerosOf Try.prog 86 1 = some [.int .u32 0, .int .i32 0, .int .u32 0] := by kernel_rfl
@[simp] theorem pl86 : placesOf Try.prog 86 = some [(0, 0), (0, 1), (1, 2)] := by kernel_rfl
@[simp] theorem bu86 (ps : Array (Nat × Value)) : buildV Try.prog 86 ps = if (ps.all fun (_, x) => !junkB x) = true then (Instr.fill (fun x => [(0, 0), (0, 1), (1, 2)].toArray[x]?) #[.int .u32 0, .int .i32 0, .int .u32 0] ps.toList).map fun cs => .agg cs else none := buildV_struct zv86 (by kernel_rfl) (by kernel_rfl)
@[simp] theorem by86 : byOf Try.prog 86 = some 12 := by kernel_rfl
@[simp] theorem fo86_0 : fieldOf Try.prog 86 0 = some (0, 77) := by kernel_rfl
@[simp] theorem fo86_1 : fieldOf Try.prog 86 1 = some (0, 81) := by kernel_rfl
@[simp] theorem fo86_2 : fieldOf Try.prog 86 2 = some (1, 85) := by kernel_rfl
attribute [simp] Try.underlying86
@[simp] theorem sz87 : szOf Try.prog 87 = some 3 := by kernel_rfl
@[simp] theorem ag87 : aggOf Try.prog 87 = some true := by kernel_rfl
@[simp] theorem zv87 : zeroOf Try.prog 87 = some (.agg #[.int .u32 0, .int .i32 0, .int .u32 0]) := by kernel_rfl
@[simp low] theorem zn87 (n : Nat) : zerosOf Try.prog 87 n = some (List.replicate n [.int .u32 0, .int .i32 0, .int .u32 0]).flatten := by kernel_rfl
@[simp] theorem ze87 : zerosOf Try.prog 87 1 = some [.int .u32 0, .int .i32 0, .int .u32 0] := by kernel_rfl
@[simp] theorem pl87 : placesOf Try.prog 87 = some [(0, 0), (0, 1), (1, 2)] := by kernel_rfl
@[simp] theorem bu87 (ps : Array (Nat × Value)) : buildV Try.prog 87 ps = if (ps.all fun (_, x) => !junkB x) = true then (Instr.fill (fun x => [(0, 0), (0, 1), (1, 2)].toArray[x]?) #[.int .u32 0, .int .i32 0, .int .u32 0] ps.toList).map fun cs => .agg cs else none := buildV_struct zv87 (by kernel_rfl) (by kernel_rfl)
@[simp] theorem by87 : byOf Try.prog 87 = some 12 := by kernel_rfl
@[simp] theorem fo87_0 : fieldOf Try.prog 87 0 = some (0, 77) := by kernel_rfl
@[simp] theorem fo87_1 : fieldOf Try.prog 87 1 = some (0, 81) := by kernel_rfl
@[simp] theorem fo87_2 : fieldOf Try.prog 87 2 = some (1, 85) := by kernel_rfl
attribute [simp] Try.underlying87
@[simp] theorem sz88 : szOf Try.prog 88 = some 2 := by kernel_rfl
@[simp] theorem ag88 : aggOf Try.prog 88 = some true := by kernel_rfl
@[simp] theorem zv88 : zeroOf Try.prog 88 = some (.agg #[.slice none 0 0, .slice none 0 0]) := by kernel_rfl
@[simp low] theorem zn88 (n : Nat) : zerosOf Try.prog 88 n = some (List.replicate n [.slice none 0 0, .slice none 0 0]).flatten := by kernel_rfl
@[simp] theorem ze88 : zerosOf Try.prog 88 1 = some [.slice none 0 0, .slice none 0 0] := by kernel_rfl
@[simp] theorem pl88 : placesOf Try.prog 88 = some [(0, 1), (1, 1)] := by kernel_rfl
@[simp] theorem bu88 (ps : Array (Nat × Value)) : buildV Try.prog 88 ps = if (ps.all fun (_, x) => !junkB x) = true then (Instr.fill (fun x => [(0, 1), (1, 1)].toArray[x]?) #[.slice none 0 0, .slice none 0 0] ps.toList).map fun cs => .agg cs else none := buildV_struct zv88 (by kernel_rfl) (by kernel_rfl)
@[simp] theorem by88 : byOf Try.prog 88 = some 48 := by kernel_rfl
@[simp] theorem fo88_0 : fieldOf Try.prog 88 0 = some (0, 22) := by kernel_rfl
@[simp] theorem fo88_1 : fieldOf Try.prog 88 1 = some (1, 22) := by kernel_rfl
attribute [simp] Try.underlying88
@[simp] theorem sz89 : szOf Try.prog 89 = some 2 := by kernel_rfl
@[simp] theorem ag89 : aggOf Try.prog 89 = some true := by kernel_rfl
@[simp] theorem zv89 : zeroOf Try.prog 89 = some (.agg #[.slice none 0 0, .slice none 0 0]) := by kernel_rfl
@[simp low] theorem zn89 (n : Nat) : zerosOf Try.prog 89 n = some (List.replicate n [.slice none 0 0, .slice none 0 0]).flatten := by kernel_rfl
@[simp] theorem ze89 : zerosOf Try.prog 89 1 = some [.slice none 0 0, .slice none 0 0] := by kernel_rfl
@[simp] theorem pl89 : placesOf Try.prog 89 = some [(0, 1), (1, 1)] := by kernel_rfl
@[simp] theorem bu89 (ps : Array (Nat × Value)) : buildV Try.prog 89 ps = if (ps.all fun (_, x) => !junkB x) = true then (Instr.fill (fun x => [(0, 1), (1, 1)].toArray[x]?) #[.slice none 0 0, .slice none 0 0] ps.toList).map fun cs => .agg cs else none := buildV_struct zv89 (by kernel_rfl) (by kernel_rfl)
@[simp] theorem by89 : byOf Try.prog 89 = some 48 := by kernel_rfl
@[simp] theorem fo89_0 : fieldOf Try.prog 89 0 = some (0, 22) := by kernel_rfl
@[simp] theorem fo89_1 : fieldOf Try.prog 89 1 = some (1, 22) := by kernel_rfl
attribute [simp] Try.underlying89
@[simp] theorem sz90 : szOf Try.prog 90 = some 7 := by kernel_rfl
@[simp] theorem ag90 : aggOf Try.prog 90 = some true := by kernel_rfl
@[simp] theorem zv90 : zeroOf Try.prog 90 = some (.agg #[.int .i64 0, .slice none 0 0, .int .u32 0, .int .i32 0, .int .u32 0, .slice none 0 0, .slice none 0 0]) := by kernel_rfl
@[simp low] theorem zn90 (n : Nat) : zerosOf Try.prog 90 n = some (List.replicate n [.int .i64 0, .slice none 0 0, .int .u32 0, .int .i32 0, .int .u32 0, .slice none 0 0, .slice none 0 0]).flatten := by kernel_rfl
@[simp] theorem ze90 : zerosOf Try.prog 90 1 = some [.int .i64 0, .slice none 0 0, .int .u32 0, .int .i32 0, .int .u32 0, .slice none 0 0, .slice none 0 0] := by kernel_rfl
@[simp] theorem pl90 : placesOf Try.prog 90 = some [(0, 1), (1, 1), (2, 3), (5, 2)] := by kernel_rfl
@[simp] theorem bu90 (ps : Array (Nat × Value)) : buildV Try.prog 90 ps = if (ps.all fun (_, x) => !junkB x) = true then (Instr.fill (fun x => [(0, 1), (1, 1), (2, 3), (5, 2)].toArray[x]?) #[.int .i64 0, .slice none 0 0, .int .u32 0, .int .i32 0, .int .u32 0, .slice none 0 0, .slice none 0 0] ps.toList).map fun cs => .agg cs else none := buildV_struct zv90 (by kernel_rfl) (by kernel_rfl)
@[simp] theorem by90 : byOf Try.prog 90 = some 96 := by kernel_rfl
@[simp] theorem fo90_0 : fieldOf Try.prog 90 0 = some (0, 3) := by kernel_rfl
@[simp] theorem fo90_1 : fieldOf Try.prog 90 1 = some (1, 75) := by kernel_rfl
@[simp] theorem fo90_2 : fieldOf Try.prog 90 2 = some (2, 87) := by kernel_rfl
@[simp] theorem fo90_3 : fieldOf Try.prog 90 3 = some (5, 89) := by kernel_rfl
attribute [simp] Try.underlying90
@[simp] theorem sz91 : szOf Try.prog 91 = some 7 := by kernel_rfl
@[simp] theorem ag91 : aggOf Try.prog 91 = some true := by kernel_rfl
@[simp] theorem zv91 : zeroOf Try.prog 91 = some (.agg #[.int .i64 0, .slice none 0 0, .int .u32 0, .int .i32 0, .int .u32 0, .slice none 0 0, .slice none 0 0]) := by kernel_rfl
@[simp low] theorem zn91 (n : Nat) : zerosOf Try.prog 91 n = some (List.replicate n [.int .i64 0, .slice none 0 0, .int .u32 0, .int .i32 0, .int .u32 0, .slice none 0 0, .slice none 0 0]).flatten := by kernel_rfl
@[simp] theorem ze91 : zerosOf Try.prog 91 1 = some [.int .i64 0, .slice none 0 0, .int .u32 0, .int .i32 0, .int .u32 0, .slice none 0 0, .slice none 0 0] := by kernel_rfl
@[simp] theorem pl91 : placesOf Try.prog 91 = some [(0, 1), (1, 1), (2, 3), (5, 2)] := by kernel_rfl
@[simp] theorem bu91 (ps : Array (Nat × Value)) : buildV Try.prog 91 ps = if (ps.all fun (_, x) => !junkB x) = true then (Instr.fill (fun x => [(0, 1), (1, 1), (2, 3), (5, 2)].toArray[x]?) #[.int .i64 0, .slice none 0 0, .int .u32 0, .int .i32 0, .int .u32 0, .slice none 0 0, .slice none 0 0] ps.toList).map fun cs => .agg cs else none := buildV_struct zv91 (by kernel_rfl) (by kernel_rfl)
@[simp] theorem by91 : byOf Try.prog 91 = some 96 := by kernel_rfl
@[simp] theorem fo91_0 : fieldOf Try.prog 91 0 = some (0, 3) := by kernel_rfl
@[simp] theorem fo91_1 : fieldOf Try.prog 91 1 = some (1, 75) := by kernel_rfl
@[simp] theorem fo91_2 : fieldOf Try.prog 91 2 = some (2, 87) := by kernel_rfl
@[simp] theorem fo91_3 : fieldOf Try.prog 91 3 = some (5, 89) := by kernel_rfl
attribute [simp] Try.underlying91
@[simp] theorem sz93 : szOf Try.prog 93 = some 3 := by kernel_rfl
@[simp] theorem ag93 : aggOf Try.prog 93 = some true := by kernel_rfl
@[simp] theorem zv93 : zeroOf Try.prog 93 = some (.agg #[.int .i64 0, .int .i64 0, .slice none 0 0]) := by kernel_rfl
@[simp low] theorem zn93 (n : Nat) : zerosOf Try.prog 93 n = some (List.replicate n [.int .i64 0, .int .i64 0, .slice none 0 0]).flatten := by kernel_rfl
@[simp] theorem ze93 : zerosOf Try.prog 93 1 = some [.int .i64 0, .int .i64 0, .slice none 0 0] := by kernel_rfl
@[simp] theorem pl93 : placesOf Try.prog 93 = some [(0, 1), (1, 1), (2, 1)] := by kernel_rfl
@[simp] theorem bu93 (ps : Array (Nat × Value)) : buildV Try.prog 93 ps = if (ps.all fun (_, x) => !junkB x) = true then (Instr.fill (fun x => [(0, 1), (1, 1), (2, 1)].toArray[x]?) #[.int .i64 0, .int .i64 0, .slice none 0 0] ps.toList).map fun cs => .agg cs else none := buildV_struct zv93 (by kernel_rfl) (by kernel_rfl)
@[simp] theorem by93 : byOf Try.prog 93 = some 40 := by kernel_rfl
@[simp] theorem fo93_0 : fieldOf Try.prog 93 0 = some (0, 3) := by kernel_rfl
@[simp] theorem fo93_1 : fieldOf Try.prog 93 1 = some (1, 3) := by kernel_rfl
@[simp] theorem fo93_2 : fieldOf Try.prog 93 2 = some (2, 75) := by kernel_rfl
attribute [simp] Try.underlying93
@[simp] theorem sz94 : szOf Try.prog 94 = some 3 := by kernel_rfl
@[simp] theorem ag94 : aggOf Try.prog 94 = some true := by kernel_rfl
@[simp] theorem zv94 : zeroOf Try.prog 94 = some (.agg #[.int .i64 0, .int .i64 0, .slice none 0 0]) := by kernel_rfl
@[simp low] theorem zn94 (n : Nat) : zerosOf Try.prog 94 n = some (List.replicate n [.int .i64 0, .int .i64 0, .slice none 0 0]).flatten := by kernel_rfl
@[simp] theorem ze94 : zerosOf Try.prog 94 1 = some [.int .i64 0, .int .i64 0, .slice none 0 0] := by kernel_rfl
@[simp] theorem pl94 : placesOf Try.prog 94 = some [(0, 1), (1, 1), (2, 1)] := by kernel_rfl
@[simp] theorem bu94 (ps : Array (Nat × Value)) : buildV Try.prog 94 ps = if (ps.all fun (_, x) => !junkB x) = true then (Instr.fill (fun x => [(0, 1), (1, 1), (2, 1)].toArray[x]?) #[.int .i64 0, .int .i64 0, .slice none 0 0] ps.toList).map fun cs => .agg cs else none := buildV_struct zv94 (by kernel_rfl) (by kernel_rfl)
@[simp] theorem by94 : byOf Try.prog 94 = some 40 := by kernel_rfl
@[simp] theorem fo94_0 : fieldOf Try.prog 94 0 = some (0, 3) := by kernel_rfl
@[simp] theorem fo94_1 : fieldOf Try.prog 94 1 = some (1, 3) := by kernel_rfl
@[simp] theorem fo94_2 : fieldOf Try.prog 94 2 = some (2, 75) := by kernel_rfl
attribute [simp] Try.underlying94
@[simp] theorem sz96 : szOf Try.prog 96 = some 1 := by kernel_rfl
@[simp] theorem ag96 : aggOf Try.prog 96 = some false := by kernel_rfl
@[simp] theorem zv96 : zeroOf Try.prog 96 = some (.slice none 0 0) := by kernel_rfl
@[simp low] theorem zn96 (n : Nat) : zerosOf Try.prog 96 n = some (List.replicate n [.slice none 0 0]).flatten := by kernel_rfl
@[simp] theorem ze96 : zerosOf Try.prog 96 1 = some [.slice none 0 0] := by kernel_rfl
@[simp] theorem by96 : byOf Try.prog 96 = some 24 := by kernel_rfl
attribute [simp] Try.underlying96
@[simp] theorem sz100 : szOf Try.prog 100 = some 1 := by kernel_rfl
@[simp] theorem ag100 : aggOf Try.prog 100 = some false := by kernel_rfl
@[simp] theorem zv100 : zeroOf Try.prog 100 = some (.int .u64 0) := by kernel_rfl
@[simp low] theorem zn100 (n : Nat) : zerosOf Try.prog 100 n = some (List.replicate n [.int .u64 0]).flatten := by kernel_rfl
@[simp] theorem ze100 : zerosOf Try.prog 100 1 = some [.int .u64 0] := by kernel_rfl
@[simp] theorem by100 : byOf Try.prog 100 = some 8 := by kernel_rfl
attribute [simp] Try.underlying100
@[simp] theorem sz104 : szOf Try.prog 104 = some 1 := by kernel_rfl
@[simp] theorem ag104 : aggOf Try.prog 104 = some false := by kernel_rfl
@[simp] theorem zv104 : zeroOf Try.prog 104 = some (.pointer none) := by kernel_rfl
@[simp low] theorem zn104 (n : Nat) : zerosOf Try.prog 104 n = some (List.replicate n [.pointer none]).flatten := by kernel_rfl
@[simp] theorem ze104 : zerosOf Try.prog 104 1 = some [.pointer none] := by kernel_rfl
@[simp] theorem by104 : byOf Try.prog 104 = some 8 := by kernel_rfl
attribute [simp] Try.underlying104
@[simp] theorem sz105 : szOf Try.prog 105 = some 1 := by kernel_rfl
@[simp] theorem ag105 : aggOf Try.prog 105 = some false := by kernel_rfl
@[simp] theorem zv105 : zeroOf Try.prog 105 = some (.pointer none) := by kernel_rfl
@[simp low] theorem zn105 (n : Nat) : zerosOf Try.prog 105 n = some (List.replicate n [.pointer none]).flatten := by kernel_rfl
@[simp] theorem ze105 : zerosOf Try.prog 105 1 = some [.pointer none] := by kernel_rfl
@[simp] theorem by105 : byOf Try.prog 105 = some 8 := by kernel_rfl
attribute [simp] Try.underlying105
@[simp] theorem sz107 : szOf Try.prog 107 = some 1 := by kernel_rfl
@[simp] theorem ag107 : aggOf Try.prog 107 = some false := by kernel_rfl
@[simp] theorem zv107 : zeroOf Try.prog 107 = some (.pointer none) := by kernel_rfl
@[simp low] theorem zn107 (n : Nat) : zerosOf Try.prog 107 n = some (List.replicate n [.pointer none]).flatten := by kernel_rfl
@[simp] theorem ze107 : zerosOf Try.prog 107 1 = some [.pointer none] := by kernel_rfl
@[simp] theorem by107 : byOf Try.prog 107 = some 8 := by kernel_rfl
attribute [simp] Try.underlying107
@[simp] theorem sz109 : szOf Try.prog 109 = some 1 := by kernel_rfl
@[simp] theorem ag109 : aggOf Try.prog 109 = some false := by kernel_rfl
@[simp] theorem zv109 : zeroOf Try.prog 109 = some (.pointer none) := by kernel_rfl
@[simp low] theorem zn109 (n : Nat) : zerosOf Try.prog 109 n = some (List.replicate n [.pointer none]).flatten := by kernel_rfl
@[simp] theorem ze109 : zerosOf Try.prog 109 1 = some [.pointer none] := by kernel_rfl
@[simp] theorem by109 : byOf Try.prog 109 = some 8 := by kernel_rfl
attribute [simp] Try.underlying109
@[simp] theorem sz112 : szOf Try.prog 112 = some 1 := by kernel_rfl
@[simp] theorem ag112 : aggOf Try.prog 112 = some false := by kernel_rfl
@[simp] theorem zv112 : zeroOf Try.prog 112 = some (.pointer none) := by kernel_rfl
@[simp low] theorem zn112 (n : Nat) : zerosOf Try.prog 112 n = some (List.replicate n [.pointer none]).flatten := by kernel_rfl
@[simp] theorem ze112 : zerosOf Try.prog 112 1 = some [.pointer none] := by kernel_rfl
@[simp] theorem by112 : byOf Try.prog 112 = some 8 := by kernel_rfl
attribute [simp] Try.underlying112
@[simp] theorem sz114 : szOf Try.prog 114 = some 1 := by kernel_rfl
@[simp] theorem ag114 : aggOf Try.prog 114 = some false := by kernel_rfl
@[simp] theorem zv114 : zeroOf Try.prog 114 = some (.pointer none) := by kernel_rfl
@[simp low] theorem zn114 (n : Nat) : zerosOf Try.prog 114 n = some (List.replicate n [.pointer none]).flatten := by kernel_rfl
@[simp] theorem ze114 : zerosOf Try.prog 114 1 = some [.pointer none] := by kernel_rfl
@[simp] theorem by114 : byOf Try.prog 114 = some 8 := by kernel_rfl
attribute [simp] Try.underlying114
@[simp] theorem sz116 : szOf Try.prog 116 = some 1 := by kernel_rfl
@[simp] theorem ag116 : aggOf Try.prog 116 = some false := by kernel_rfl
attribute [simp] Try.underlying116
@[simp] theorem sz123 : szOf Try.prog 123 = some 4 := by kernel_rfl
@[simp] theorem ag123 : aggOf Try.prog 123 = some true := by kernel_rfl
@[simp] theorem zv123 : zeroOf Try.prog 123 = some (.agg #[.pointer none, .pointer none, .pointer none, .string ⟨#[]⟩]) := by kernel_rfl
@[simp low] theorem zn123 (n : Nat) : zerosOf Try.prog 123 n = some (List.replicate n [.pointer none, .pointer none, .pointer none, .string ⟨#[]⟩]).flatten := by kernel_rfl
@[simp] theorem ze123 : zerosOf Try.prog 123 1 = some [.pointer none, .pointer none, .pointer none, .string ⟨#[]⟩] := by kernel_rfl
@[simp] theorem pl123 : placesOf Try.prog 123 = some [(0, 1), (1, 1), (2, 1), (3, 1)] := by kernel_rfl
@[simp] theorem bu123 (ps : Array (Nat × Value)) : buildV Try.prog 123 ps = if (ps.all fun (_, x) => !junkB x) = true then (Instr.fill (fun x => [(0, 1), (1, 1), (2, 1), (3, 1)].toArray[x]?) #[.pointer none, .pointer none, .pointer none, .string ⟨#[]⟩] ps.toList).map fun cs => .agg cs else none := buildV_struct zv123 (by kernel_rfl) (by kernel_rfl)
@[simp] theorem by123 : byOf Try.prog 123 = some 40 := by kernel_rfl
@[simp] theorem fo123_0 : fieldOf Try.prog 123 0 = some (0, 17) := by kernel_rfl
@[simp] theorem fo123_1 : fieldOf Try.prog 123 1 = some (1, 17) := by kernel_rfl
@[simp] theorem fo123_2 : fieldOf Try.prog 123 2 = some (2, 17) := by kernel_rfl
@[simp] theorem fo123_3 : fieldOf Try.prog 123 3 = some (3, 9) := by kernel_rfl
attribute [simp] Try.underlying123
@[simp] theorem sz124 : szOf Try.prog 124 = some 4 := by kernel_rfl
@[simp] theorem ag124 : aggOf Try.prog 124 = some true := by kernel_rfl
@[simp] theorem zv124 : zeroOf Try.prog 124 = some (.agg #[.pointer none, .pointer none, .pointer none, .string ⟨#[]⟩]) := by kernel_rfl
@[simp low] theorem zn124 (n : Nat) : zerosOf Try.prog 124 n = some (List.replicate n [.pointer none, .pointer none, .pointer none, .string ⟨#[]⟩]).flatten := by kernel_rfl
@[simp] theorem ze124 : zerosOf Try.prog 124 1 = some [.pointer none, .pointer none, .pointer none, .string ⟨#[]⟩] := by kernel_rfl
@[simp] theorem pl124 : placesOf Try.prog 124 = some [(0, 1), (1, 1), (2, 1), (3, 1)] := by kernel_rfl
@[simp] theorem bu124 (ps : Array (Nat × Value)) : buildV Try.prog 124 ps = if (ps.all fun (_, x) => !junkB x) = true then (Instr.fill (fun x => [(0, 1), (1, 1), (2, 1), (3, 1)].toArray[x]?) #[.pointer none, .pointer none, .pointer none, .string ⟨#[]⟩] ps.toList).map fun cs => .agg cs else none := buildV_struct zv124 (by kernel_rfl) (by kernel_rfl)
@[simp] theorem by124 : byOf Try.prog 124 = some 40 := by kernel_rfl
@[simp] theorem fo124_0 : fieldOf Try.prog 124 0 = some (0, 17) := by kernel_rfl
@[simp] theorem fo124_1 : fieldOf Try.prog 124 1 = some (1, 17) := by kernel_rfl
@[simp] theorem fo124_2 : fieldOf Try.prog 124 2 = some (2, 17) := by kernel_rfl
@[simp] theorem fo124_3 : fieldOf Try.prog 124 3 = some (3, 9) := by kernel_rfl
attribute [simp] Try.underlying124
@[simp] theorem sz125 : szOf Try.prog 125 = some 0 := by kernel_rfl
@[simp] theorem ag125 : aggOf Try.prog 125 = some true := by kernel_rfl
@[simp] theorem by125 : byOf Try.prog 125 = some 0 := by kernel_rfl
attribute [simp] Try.underlying125
@[simp] theorem sz126 : szOf Try.prog 126 = some 0 := by kernel_rfl
@[simp] theorem ag126 : aggOf Try.prog 126 = some true := by kernel_rfl
@[simp] theorem by126 : byOf Try.prog 126 = some 0 := by kernel_rfl
@[simp] theorem fo126_0 : fieldOf Try.prog 126 0 = some (0, 125) := by kernel_rfl
attribute [simp] Try.underlying126
@[simp] theorem sz127 : szOf Try.prog 127 = some 0 := by kernel_rfl
@[simp] theorem ag127 : aggOf Try.prog 127 = some true := by kernel_rfl
@[simp] theorem by127 : byOf Try.prog 127 = some 0 := by kernel_rfl
@[simp] theorem fo127_0 : fieldOf Try.prog 127 0 = some (0, 125) := by kernel_rfl
attribute [simp] Try.underlying127
@[simp] theorem sz128 : szOf Try.prog 128 = some 1 := by kernel_rfl
@[simp] theorem ag128 : aggOf Try.prog 128 = some false := by kernel_rfl
@[simp] theorem zv128 : zeroOf Try.prog 128 = some (.int .u8 0) := by kernel_rfl
@[simp low] theorem zn128 (n : Nat) : zerosOf Try.prog 128 n = some (List.replicate n [.int .u8 0]).flatten := by kernel_rfl
@[simp] theorem ze128 : zerosOf Try.prog 128 1 = some [.int .u8 0] := by kernel_rfl
@[simp] theorem by128 : byOf Try.prog 128 = some 1 := by kernel_rfl
attribute [simp] Try.underlying128
@[simp] theorem sz129 : szOf Try.prog 129 = some 1 := by kernel_rfl
@[simp] theorem ag129 : aggOf Try.prog 129 = some false := by kernel_rfl
@[simp] theorem zv129 : zeroOf Try.prog 129 = some (.int .u8 0) := by kernel_rfl
@[simp low] theorem zn129 (n : Nat) : zerosOf Try.prog 129 n = some (List.replicate n [.int .u8 0]).flatten := by kernel_rfl
@[simp] theorem ze129 : zerosOf Try.prog 129 1 = some [.int .u8 0] := by kernel_rfl
@[simp] theorem by129 : byOf Try.prog 129 = some 1 := by kernel_rfl
attribute [simp] Try.underlying129
@[simp] theorem sz131 : szOf Try.prog 131 = some 1 := by kernel_rfl
@[simp] theorem ag131 : aggOf Try.prog 131 = some false := by kernel_rfl
@[simp] theorem zv131 : zeroOf Try.prog 131 = some (.pointer none) := by kernel_rfl
@[simp low] theorem zn131 (n : Nat) : zerosOf Try.prog 131 n = some (List.replicate n [.pointer none]).flatten := by kernel_rfl
@[simp] theorem ze131 : zerosOf Try.prog 131 1 = some [.pointer none] := by kernel_rfl
@[simp] theorem by131 : byOf Try.prog 131 = some 8 := by kernel_rfl
attribute [simp] Try.underlying131
@[simp] theorem sz132 : szOf Try.prog 132 = some 1 := by kernel_rfl
@[simp] theorem ag132 : aggOf Try.prog 132 = some false := by kernel_rfl
@[simp] theorem zv132 : zeroOf Try.prog 132 = some (.int .i32 0) := by kernel_rfl
@[simp low] theorem zn132 (n : Nat) : zerosOf Try.prog 132 n = some (List.replicate n [.int .i32 0]).flatten := by kernel_rfl
@[simp] theorem ze132 : zerosOf Try.prog 132 1 = some [.int .i32 0] := by kernel_rfl
@[simp] theorem by132 : byOf Try.prog 132 = some 4 := by kernel_rfl
attribute [simp] Try.underlying132
@[simp] theorem sz133 : szOf Try.prog 133 = some 1 := by kernel_rfl
@[simp] theorem ag133 : aggOf Try.prog 133 = some false := by kernel_rfl
@[simp] theorem zv133 : zeroOf Try.prog 133 = some (.int .i32 0) := by kernel_rfl
@[simp low] theorem zn133 (n : Nat) : zerosOf Try.prog 133 n = some (List.replicate n [.int .i32 0]).flatten := by kernel_rfl
@[simp] theorem ze133 : zerosOf Try.prog 133 1 = some [.int .i32 0] := by kernel_rfl
@[simp] theorem by133 : byOf Try.prog 133 = some 4 := by kernel_rfl
attribute [simp] Try.underlying133
@[simp] theorem sz134 : szOf Try.prog 134 = some 11 := by kernel_rfl
@[simp] theorem ag134 : aggOf Try.prog 134 = some true := by kernel_rfl
@[simp] theorem fo134_0 : fieldOf Try.prog 134 0 = some (0, 12) := by kernel_rfl
@[simp] theorem fo134_1 : fieldOf Try.prog 134 1 = some (1, 12) := by kernel_rfl
@[simp] theorem fo134_2 : fieldOf Try.prog 134 2 = some (2, 79) := by kernel_rfl
@[simp] theorem fo134_3 : fieldOf Try.prog 134 3 = some (3, 128) := by kernel_rfl
@[simp] theorem fo134_4 : fieldOf Try.prog 134 4 = some (4, 5) := by kernel_rfl
@[simp] theorem fo134_5 : fieldOf Try.prog 134 5 = some (5, 5) := by kernel_rfl
@[simp] theorem fo134_6 : fieldOf Try.prog 134 6 = some (6, 129) := by kernel_rfl
@[simp] theorem fo134_7 : fieldOf Try.prog 134 7 = some (7, 130) := by kernel_rfl
@[simp] theorem fo134_8 : fieldOf Try.prog 134 8 = some (8, 131) := by kernel_rfl
@[simp] theorem fo134_9 : fieldOf Try.prog 134 9 = some (9, 132) := by kernel_rfl
@[simp] theorem fo134_10 : fieldOf Try.prog 134 10 = some (10, 133) := by kernel_rfl
attribute [simp] Try.underlying134
@[simp] theorem sz135 : szOf Try.prog 135 = some 11 := by kernel_rfl
@[simp] theorem ag135 : aggOf Try.prog 135 = some true := by kernel_rfl
@[simp] theorem fo135_0 : fieldOf Try.prog 135 0 = some (0, 12) := by kernel_rfl
@[simp] theorem fo135_1 : fieldOf Try.prog 135 1 = some (1, 12) := by kernel_rfl
@[simp] theorem fo135_2 : fieldOf Try.prog 135 2 = some (2, 79) := by kernel_rfl
@[simp] theorem fo135_3 : fieldOf Try.prog 135 3 = some (3, 128) := by kernel_rfl
@[simp] theorem fo135_4 : fieldOf Try.prog 135 4 = some (4, 5) := by kernel_rfl
@[simp] theorem fo135_5 : fieldOf Try.prog 135 5 = some (5, 5) := by kernel_rfl
@[simp] theorem fo135_6 : fieldOf Try.prog 135 6 = some (6, 129) := by kernel_rfl
@[simp] theorem fo135_7 : fieldOf Try.prog 135 7 = some (7, 130) := by kernel_rfl
@[simp] theorem fo135_8 : fieldOf Try.prog 135 8 = some (8, 131) := by kernel_rfl
@[simp] theorem fo135_9 : fieldOf Try.prog 135 9 = some (9, 132) := by kernel_rfl
@[simp] theorem fo135_10 : fieldOf Try.prog 135 10 = some (10, 133) := by kernel_rfl
attribute [simp] Try.underlying135
theorem ok3 : okFn Try.f3 = true := by kernel_rfl
theorem ok4 : okFn Try.f4 = true := by kernel_rfl
theorem ok5 : okFn Try.f5 = true := by kernel_rfl
theorem ok6 : okFn Try.f6 = true := by kernel_rfl
theorem ok7 : okFn Try.f7 = true := by kernel_rfl
theorem ok8 : okFn Try.f8 = true := by kernel_rfl
theorem ok9 : okFn Try.f9 = true := by kernel_rfl
theorem ok10 : okFn Try.f10 = true := by kernel_rfl
theorem ok11 : okFn Try.f11 = true := by kernel_rfl
theorem ok12 : okFn Try.f12 = true := by kernel_rfl
theorem ok13 : okFn Try.f13 = true := by kernel_rfl
theorem ok14 : okFn Try.f14 = true := by kernel_rfl
theorem ok15 : okFn Try.f15 = true := by kernel_rfl
theorem ok16 : okFn Try.f16 = true := by kernel_rfl
theorem ok17 : okFn Try.f17 = true := by kernel_rfl
theorem ok18 : okFn Try.f18 = true := by kernel_rfl
theorem ok19 : okFn Try.f19 = true := by kernel_rfl
theorem ok20 : okFn Try.f20 = true := by kernel_rfl
theorem ok21 : okFn Try.f21 = true := by kernel_rfl
theorem ok22 : okFn Try.f22 = true := by kernel_rfl
theorem ok23 : okFn Try.f23 = true := by kernel_rfl
theorem ok24 : okFn Try.f24 = true := by kernel_rfl
theorem ok25 : okFn Try.f25 = true := by kernel_rfl
theorem ok26 : okFn Try.f26 = true := by kernel_rfl
theorem ok27 : okFn Try.f27 = true := by kernel_rfl
theorem ok28 : okFn Try.f28 = true := by kernel_rfl
theorem ok29 : okFn Try.f29 = true := by kernel_rfl
theorem ok30 : okFn Try.f30 = true := by kernel_rfl
theorem ok31 : okFn Try.f31 = true := by kernel_rfl
theorem ok32 : okFn Try.f32 = true := by kernel_rfl
theorem ok33 : okFn Try.f33 = true := by kernel_rfl
theorem ok34 : okFn Try.f34 = true := by kernel_rfl
theorem ok35 : okFn Try.f35 = true := by kernel_rfl
theorem ok36 : okFn Try.f36 = true := by kernel_rfl
theorem ok37 : okFn Try.f37 = true := by kernel_rfl
theorem ok38 : okFn Try.f38 = true := by kernel_rfl
theorem ok39 : okFn Try.f39 = true := by kernel_rfl
theorem ok40 : okFn Try.f40 = true := by kernel_rfl
theorem ok41 : okFn Try.f41 = true := by kernel_rfl
theorem ok42 : okFn Try.f42 = true := by kernel_rfl
theorem ok43 : okFn Try.f43 = true := by kernel_rfl
theorem ok44 : okFn Try.f44 = true := by kernel_rfl
theorem ok45 : okFn Try.f45 = true := by kernel_rfl
theorem ok46 : okFn Try.f46 = true := by kernel_rfl
theorem ok47 : okFn Try.f47 = true := by kernel_rfl
theorem ok48 : okFn Try.f48 = true := by kernel_rfl
theorem ok49 : okFn Try.f49 = true := by kernel_rfl
theorem ok50 : okFn Try.f50 = true := by kernel_rfl
theorem ok51 : okFn Try.f51 = true := by kernel_rfl
theorem ok52 : okFn Try.f52 = true := by kernel_rfl
theorem ok53 : okFn Try.f53 = true := by kernel_rfl
theorem ok54 : okFn Try.f54 = true := by kernel_rfl
theorem ok55 : okFn Try.f55 = true := by kernel_rfl
theorem ok57 : okFn Try.f57 = true := by kernel_rfl
end Go.Proofs.Ytibejcomfjddfaa.AM
end
section
set_option maxHeartbeats 8000000
set_option linter.unusedVariables false
set_option linter.unusedSimpArgs false

/- sync.Once's Do as a known call: the closure is answered for by another machine's calls. -/
namespace Go.Proofs.Ytibejcomfjddfaa.AM
open Go Go.Proofs
section
variable {P : Program} {prim : CallF}
open Classical in
/-- The machine's answer, with whatever fuel. -/
noncomputable def limA (P : Program) (prim : CallF) : CallF := fun f args σ => if h : ∃ n r, acall P prim n f args σ = some r then some (Classical.choose (Classical.choose_spec h)) else none
theorem limA_ex {f : FuncId} {args : Array Value} {σ : Heap} {r : Value × Heap} (h : limA P prim f args σ = some r) : ∃ n, acall P prim n f args σ = some r := by
  unfold limA at h
  split at h
  · rename_i hx
    cases h
    exact ⟨_, Classical.choose_spec (Classical.choose_spec hx)⟩
  · cases h
theorem limA_of {f : FuncId} {args : Array Value} {σ : Heap} {r : Value × Heap} {n : Nat} (h : acall P prim n f args σ = some r) : limA P prim f args σ = some r := by
  have hx : ∃ n r, acall P prim n f args σ = some r := ⟨n, r, h⟩
  have e : limA P prim f args σ = some (Classical.choose (Classical.choose_spec hx)) := by unfold limA; rw [dif_pos hx]
  obtain ⟨m, hm⟩ := limA_ex e
  have h1 := acall_mono (Nat.le_max_left n m) _ _ _ _ h
  have h2 := acall_mono (Nat.le_max_right n m) _ _ _ _ hm
  rw [h1] at h2
  rw [e]
  exact congrArg some (Option.some.inj h2).symm
theorem limA_ok (hm : P.follows .mixedOrders = true) (hprim : CallOk P prim) : CallOk P (limA P prim) := by
  intro f args σ v σ' h
  obtain ⟨n, hn⟩ := limA_ex h
  exact acall_sound hm hprim n _ _ _ _ _ hn
end
def u32Of : Option (List Value) → Option Int
  | some [.int .u32 d] => some d
  | _ => none
def i32Of : Option (List Value) → Option Int
  | some [.int .i32 d] => some d
  | _ => none
theorem u32Of_some {r : Option (List Value)} {d : Int} (h : u32Of r = some d) : r = some [.int .u32 d] := by
  unfold u32Of at h
  split at h
  · cases h; rfl
  · cases h
theorem i32Of_some {r : Option (List Value)} {d : Int} (h : i32Of r = some d) : r = some [.int .i32 d] := by
  unfold i32Of at h
  split at h
  · cases h; rfl
  · cases h
def unitB : Value → Bool
  | .tuple vs => vs.size == 0
  | _ => false
theorem unitB_eq {v : Value} (h : unitB v = true) : v = .tuple #[] := by
  unfold unitB at h
  split at h
  · rename_i vs
    have : vs = #[] := Array.eq_empty_of_size_eq_zero (by simpa using h)
    rw [this]
  · cases h
/-- The first Do: the lock is held, the closure runs, it is done, the lock is let go. -/
def onceRun (inner : CallF) (g : FuncId) (cap : Value) (a : Addr) (σ : Heap) : Option (Value × Heap) :=
  if (writeN σ a [.int .u32 0]).isSome = true ∧ i32Of (readN σ (a.add 1) 1) = some 0 then
    match writeN σ (a.add 1) [.int .i32 1] with
    | some σ1 => match inner g #[cap] σ1 with
      | some (v, σ2) => if unitB v = true ∧ u32Of (readN σ2 a 1) = some 0 ∧ i32Of (readN σ2 (a.add 1) 1) = some 1 then
          match writeN σ2 a [.int .u32 1] with
          | some σ3 => (writeN σ3 (a.add 1) [.int .i32 0]).map fun σ4 => (.tuple #[], σ4)
          | none => none
        else none
      | none => none
    | none => none
  else none
def onceA (inner : CallF) : CallF := fun f args σ => if f = 56 then match args.toList with
  | [.pointer (some a), .func (.func g) fi cs] => if g = 57 ∧ fi.size = 0 then match cs.toList, u32Of (readN σ a 1) with
      | [cap], some d => if d = 0 then onceRun inner g cap a σ else some (.tuple #[], σ)
      | _, _ => none
    else none
  | _ => none
  else none
theorem write_one {σ σ' : Heap} {a : Addr} {v : Value} {b N : Nat} {μ : Mu} {w : World} (hS : Sim μ σ w.heap) (hm : μ a.block = some (b, N)) (h : writeN σ a [v] = some σ') (hv : scalarB v = true) :
    Sim μ σ' (w.setCell ⟨b, a.off, none⟩ v).heap ∧ Fr false μ σ w μ σ' (w.setCell ⟨b, a.off, none⟩ v) ∧ Le σ σ' ∧ σ'.length = σ.length ∧ w.frozen? ⟨b, a.off, none⟩ = false := by
  obtain ⟨_, h1, h2, h3, h4, _, h5, _⟩ := write_sim (vs' := [v]) hS hm h (.one (.scal hv))
  exact ⟨h1, h2, h3, h4, h5 0 (by simp)⟩
theorem read_one {σ : Heap} {a : Addr} {v : Value} {b N : Nat} {μ : Mu} {w : World} (hS : Sim μ σ w.heap) (hm : μ a.block = some (b, N)) (h : readN σ a 1 = some [v]) (hv : scalarB v = true) : w.cell? ⟨b, a.off, none⟩ = some v := by
  obtain ⟨_, vs', h1, h2, h3, _⟩ := read_sim hS hm h
  obtain ⟨v', h4, h5⟩ := h1.get (i := 0) (v := v) rfl
  have := h3 0 v' h4
  rw [scalar_val hv h5] at this
  exact this
theorem Sim.drew {μ : Mu} {σ : Heap} {w : World} (h : Sim μ σ w.heap) : Sim μ σ w.drew.heap := h
theorem Fr.drew {μ : Mu} {σ : Heap} {w : World} : Fr false μ σ w μ σ w.drew := ⟨fun _ _ h => h, fun _ _ _ h => .inl h, fun _ _ _ => rfl, fun h => (by cases h), Nat.le_refl _, rfl, rfl, rfl⟩
theorem onceA_ok {inner : CallF} (hin : CallOk Try.prog inner) : CallOk Try.prog (onceA inner) := by
  intro f args σ v σ' h
  unfold onceA at h
  split at h
  case isFalse => cases h
  rename_i hf
  subst hf
  have hbody : HasBody Try.prog 56 := ⟨_, _, Try.func56, rfl, by decide +kernel⟩
  split at h
  case h_2 => cases h
  rename_i a g fi cs hargs
  split at h
  case isFalse => cases h
  rename_i hg
  obtain ⟨rfl, hfi⟩ := hg
  split at h
  case h_2 => cases h
  rename_i cap d hcs hd
  have hread := u32Of_some hd
  have hfi0 : fi = #[] := Array.eq_empty_of_size_eq_zero hfi
  subst hfi0
  have hcs0 : cs = #[cap] := by rw [← Array.toArray_toList (xs := cs), hcs]
  subst hcs0
  -- the model's arguments
  have hargs' : ∀ (args' : Array Value) (μ : Mu), ValL μ args.toList args'.toList → ∃ b N cap', a.spot = none ∧ μ a.block = some (b, N) ∧ Val μ cap cap' ∧ args' = #[.pointer (some ⟨b, a.off, none⟩), .func (.func 57) #[] #[cap']] := fun args' μ hv => by
    rw [hargs] at hv
    obtain ⟨hlen, hget⟩ := hv
    obtain ⟨x, y, hx⟩ : ∃ x y, args' = #[x, y] := by
      match hq : args'.toList, hlen with
      | [x, y], _ => exact ⟨x, y, by rw [← Array.toArray_toList (xs := args'), hq]⟩
    subst hx
    obtain ⟨b, N, h1, h2, rfl⟩ := (hget 0 _ x rfl rfl).ptr_inv
    obtain ⟨fi', cs', rfl, h3, h4⟩ := (hget 1 _ y rfl rfl).func_inv
    have e1 : fi' = #[] := Array.eq_empty_of_size_eq_zero (by simpa using h3.1)
    obtain ⟨cap', e2⟩ : ∃ cap', cs' = #[cap'] := by
      have := h4.1
      match hq : cs'.toList, this with
      | [x], _ => exact ⟨x, by rw [← Array.toArray_toList (xs := cs'), hq]⟩
    subst e1; subst e2
    exact ⟨b, N, cap', h1, h2, h4.2 0 _ _ rfl rfl, rfl⟩
  split at h
  case isFalse hd0 =>
    cases h
    refine ⟨.inl hbody, .refl _, fun _ args' μ w hv hS _ => ?_⟩
    obtain ⟨b, N, cap', h1, h2, h3, rfl⟩ := hargs' args' μ hv
    refine (TW.do_done ⟨b, a.off, none⟩ d hd0 _ w (read_one hS h2 hread rfl)).mono ?_
    rintro e w' ⟨rfl, rfl⟩
    exact ⟨_, μ, rfl, .undef, hS, .refl _ _ _ _⟩
  rename_i hd0
  subst hd0
  unfold onceRun at h
  split at h
  case isFalse => cases h
  rename_i hc
  obtain ⟨hw0, hr1⟩ := hc
  have hread1 := i32Of_some hr1
  obtain ⟨σ0, hw0⟩ := Option.isSome_iff_exists.1 hw0
  split at h
  case h_2 => cases h
  rename_i σ1 hw1
  split at h
  case h_2 => cases h
  rename_i u σ2 hcall
  split at h
  case isFalse => cases h
  rename_i hc2
  obtain ⟨hu, hr2, hr3⟩ := hc2
  have hu := unitB_eq hu
  subst hu
  have hread2 := u32Of_some hr2
  have hread3 := i32Of_some hr3
  split at h
  case h_2 => cases h
  rename_i σ3 hw2
  cases hw3 : writeN σ3 (a.add 1) [.int .i32 0] with
  | none => rw [hw3] at h; cases h
  | some σ4 =>
  rw [hw3] at h
  cases h
  obtain ⟨_, hle2, hcl⟩ := hin _ _ _ _ _ hcall
  have wlen : ∀ {σ σ' : Heap} {a : Addr} {v : Value}, writeN σ a [v] = some σ' → Le σ σ' ∧ σ'.length = σ.length := fun {σ σ' a v} h => by
    unfold writeN at h
    split at h
    · rename_i x hs hx
      split at h
      · rename_i hc
        cases h
        refine ⟨⟨by simp, fun l y hy => ?_⟩, by simp⟩
        rw [List.getElem?_set]
        split
        · rename_i e
          subst e
          have hlt := get_lt hx
          rw [if_pos hlt]
          rw [hx] at hy; cases hy
          exact ⟨_, rfl, fun _ => hc.1, fun e => (by rw [hc.1] at e; cases e), fun e => (by rw [hc.1] at e; cases e)⟩
        · exact ⟨y, hy, fun _ => rfl, fun _ => rfl, id⟩
      · cases h
    · cases h
  have hle1 := wlen hw1
  have hle3 := wlen hw2
  have hle4 := wlen hw3
  have hle : Le σ σ' := (hle1.1.trans hle2).trans (hle3.1.trans hle4.1)
  refine ⟨.inl hbody, hle, fun _ args' μ w hv hS hU => ?_⟩
  obtain ⟨b, N, cap', hsp, hm, hcap, rfl⟩ := hargs' args' μ hv
  have hm1 : μ (a.add 1).block = some (b, N) := hm
  obtain ⟨_, _, _, _, hfz0⟩ := write_one hS hm hw0 rfl
  obtain ⟨k1, k2, _, _, hfz1⟩ := write_one hS hm1 hw1 rfl
  have hc0 := read_one hS hm hread rfl
  have hc1 := read_one hS hm1 hread1 rfl
  have hgb : HasBody Try.prog 57 := ⟨_, _, Try.func57, rfl, by decide +kernel⟩
  have hsize : σ2.length = σ'.length := by rw [hle4.2, hle3.2]
  have hF := hcl hgb #[cap'] μ (w.setCell ⟨b, a.off + 1, none⟩ (.int .i32 1)) (.one hcap) k1 (fun l h1 h2 => hU l (by rw [← hle1.2]; exact h1) (by rw [← hsize]; exact h2))
  refine (TW.do_first (R := fun w2 => ∃ μ', Sim μ' σ2 w2.heap ∧ Fr false μ σ1 (w.setCell ⟨b, a.off + 1, none⟩ (.int .i32 1)) μ' σ2 w2) w hc0 hc1 hfz0 hfz1 (hF.mono ?_)).mono ?_
  · rintro e w2 ⟨v', μ', rfl, g1, g2, g3⟩
    have hv' := flat_val (v := .tuple #[]) (by simp [flatB]) g1
    subst hv'
    have hm2 := g3.ext _ _ hm
    have hm3 : μ' (a.add 1).block = some (b, N) := hm2
    obtain ⟨e1, e2, _, _, z0⟩ := write_one g2 hm2 hw2 rfl
    obtain ⟨_, _, _, _, z1⟩ := write_one e1 hm3 hw3 rfl
    refine ⟨rfl, ⟨μ', g2, g3⟩, read_one g2 hm2 hread2 rfl, read_one g2 hm3 hread3 rfl, z0, ?_⟩
    simp at z1
    exact z1
  · rintro e w' ⟨rfl, w2, ⟨μ', g2, g3⟩, rfl⟩
    have hm2 := g3.ext _ _ hm
    have hm3 : μ' (a.add 1).block = some (b, N) := hm2
    obtain ⟨e1, e2, _, _, _⟩ := write_one (w := w2.drew) g2 hm2 hw2 rfl
    obtain ⟨f1, f2, _, _, _⟩ := write_one e1 hm3 hw3 rfl
    have U1 : ∀ l, σ.length ≤ l → l < σ1.length → μ l = none := fun l h1 h2 => by rw [hle1.2] at h2; omega
    have fr1 : Fr false μ σ w μ' σ2 w2 := Fr.trans U1 hle1.1 hle2 k2 g3
    have U2 : ∀ l, σ.length ≤ l → l < σ2.length → μ l = none := fun l h1 h2 => hU l h1 (by rw [← hsize]; exact h2)
    have fr2 : Fr false μ' σ2 w2 μ' σ3 _ := Fr.trans (fun l h1 h2 => by omega) (.refl _) hle3.1 Fr.drew e2
    have fr3 := Fr.trans (fun l h1 h2 => by rw [hle3.2] at h2; omega) hle3.1 hle4.1 fr2 f2
    exact ⟨_, μ', rfl, .undef, f1, Fr.trans U2 (hle1.1.trans hle2) (hle3.1.trans hle4.1) fr1 fr3⟩
end Go.Proofs.Ytibejcomfjddfaa.AM
end
section
set_option maxHeartbeats 8000000
set_option linter.unusedVariables false
set_option linter.unusedSimpArgs false

/- Words of the walks over the abstract machine: this seat's calls whose answer is known. -/
namespace Go.Proofs.Ytibejcomfjddfaa.AM
open Go Go.Proofs
theorem mixed : Try.prog.follows .mixedOrders = true := by kernel_rfl
noncomputable def prims0 : CallF := noPrim
theorem prims0_ok : CallOk Try.prog prims0 := noPrim_ok
noncomputable def prims : CallF := withPrim (onceA (limA Try.prog prims0)) prims0
theorem prims_ok : CallOk Try.prog prims := withPrim_ok (onceA_ok (limA_ok mixed prims0_ok)) prims0_ok
/-- A call that leaves what stands, and answers v. -/
def Ans (f : FuncId) (args : Array Value) (σ : Heap) (v : Value) : Prop := AC Try.prog prims f args σ fun u σ' => u = v ∧ ∃ τ, σ' = σ ++ τ
theorem Ans.mk {f : FuncId} {args : Array Value} {σ : Heap} {v : Value} (h : AC Try.prog prims f args σ fun u σ' => u = v ∧ ∃ τ, σ' = σ ++ τ) : Ans f args σ v := h
/-- At a call. -/
theorem Ans.call {f : FuncId} {args : Array Value} {σ : Heap} {v : Value} {R : Value → Heap → Prop} (h : Ans f args σ v) (hr : ∀ τ, R v (σ ++ τ)) : @CALL Try.prog prims f args σ ⟨R⟩ :=
  CALL.of h fun _ _ ⟨e, τ, e2⟩ => by subst e; subst e2; exact hr τ
theorem ex_app (σ : Heap) (τ : Heap) : ∃ ρ, σ ++ τ = σ ++ ρ := ⟨τ, rfl⟩
theorem ex_nil (σ : Heap) : ∃ ρ : Heap, σ = σ ++ ρ := ⟨[], by simp⟩
@[simp] theorem ex_self (σ : Heap) : (∃ ρ : Heap, σ = σ ++ ρ) ↔ True := ⟨fun _ => trivial, fun _ => ex_nil σ⟩
@[simp] theorem ex_same (σ τ : Heap) : (∃ ρ : Heap, τ = ρ) ↔ True := ⟨fun _ => trivial, fun _ => ⟨τ, rfl⟩⟩
end Go.Proofs.Ytibejcomfjddfaa.AM
end
section
set_option maxHeartbeats 8000000
set_option linter.unusedVariables false
set_option linter.unusedSimpArgs false

/- Words of the walks over the machine of values. -/
namespace Go.Proofs.Ytibejcomfjddfaa.VM
open Go Go.Proofs AM
theorem hC (n : Nat) : CallOk Try.prog (acall Try.prog prims n) := acall_sound mixed prims_ok n
def noP (f : FuncId) : Bool := f != 56
theorem kn_none {f : FuncId} {xs : Array Value} {σ : Heap} (h : noP f = true) : prims f xs σ = none := by
  unfold noP at h
  simp only [bne_iff_ne, ne_eq] at h
  unfold prims withPrim onceA
  rw [if_neg h]
  rfl
theorem prims_do (us : Array Value) (σ : Heap) {r : Value × Heap} (h : onceA (limA Try.prog prims0) 56 us σ = some r) : prims 56 us σ = some r := by
  unfold prims withPrim
  rw [h]
theorem w64 {n : Int} (h : -9223372036854775808 ≤ n ∧ n ≤ 9223372036854775807) : IntKind.i64.wrap n = n := IntWalk.i64_in n h
abbrev A (f : FuncId) (args : List V) (v : V) : Prop := Ans Try.prog prims f args v
abbrev AO (f : FuncId) (args : List V) (s : Nat) (rows : List (List V)) : Prop := AnsO Try.prog prims f args s rows
abbrev AK (f : FuncId) (args : List V) (v : Nat → V) (y : Ob) : Prop := AnsK Try.prog prims f args v y
def bo (b : Bool) : V := .lit (.bool b)
def i6 (n : Int) : V := .lit (.int .i64 n)
@[simp] theorem take_map_len {α β : Type} {f : α → β} {l : List α} : (l.map f).take l.length = l.map f := List.take_of_length_le (by simp)
attribute [simp] bo i6
end Go.Proofs.Ytibejcomfjddfaa.VM
end
