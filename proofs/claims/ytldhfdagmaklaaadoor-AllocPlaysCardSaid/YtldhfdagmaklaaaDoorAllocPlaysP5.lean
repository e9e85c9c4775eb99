/- What the proof of AllocPlays rests on, part 5 of 7. -/
import Derived.Test.YtldhfdagmaklaaaDoorAllocPlaysP4
import Derived.Test.YtldhfdagmaklaaaDoorAllocPlaysS
import Derived.KernelRfl
import Derived.Test.YtldhfdagmaklaaaDoorProg
section
set_option maxHeartbeats 8000000
set_option linter.unusedVariables false
set_option linter.unusedSimpArgs false
/- What is asked of the seat's types and functions. -/
namespace Go.Proofs.YtldhfdagmaklaaaDoor.AM
open Go Go.Proofs
attribute [simp] Instr.fill
@[simp] theorem sz2 : szOf Tryd.prog 2 = some 1 := by kernel_rfl
@[simp] theorem ag2 : aggOf Tryd.prog 2 = some false := by kernel_rfl
@[simp] theorem zv2 : zeroOf Tryd.prog 2 = some (.int .i64 0) := by kernel_rfl
@[simp low] theorem zn2 (n : Nat) : zerosOf Tryd.prog 2 n = some (List.replicate n [.int .i64 0]).flatten := by kernel_rfl
@[simp] theorem ze2 : zerosOf Tryd.prog 2 1 = some [.int .i64 0] := by kernel_rfl
@[simp] theorem by2 : byOf Tryd.prog 2 = some 8 := by kernel_rfl
attribute [simp] Tryd.underlying2
@[simp] theorem sz3 : szOf Tryd.prog 3 = some 1 := by kernel_rfl
@[simp] theorem ag3 : aggOf Tryd.prog 3 = some false := by kernel_rfl
@[simp] theorem zv3 : zeroOf Tryd.prog 3 = some (.int .i64 0) := by kernel_rfl
@[simp low] theorem zn3 (n : Nat) : zerosOf Tryd.prog 3 n = some (List.replicate n [.int .i64 0]).flatten := by kernel_rfl
@[simp] theorem ze3 : zerosOf Tryd.prog 3 1 = some [.int .i64 0] := by kernel_rfl
@[simp] theorem by3 : byOf Tryd.prog 3 = some 8 := by kernel_rfl
attribute [simp] Tryd.underlying3
@[simp] theorem sz4 : szOf Tryd.prog 4 = some 1 := by kernel_rfl
@[simp] theorem ag4 : aggOf Tryd.prog 4 = some false := by kernel_rfl
@[simp] theorem zv4 : zeroOf Tryd.prog 4 = some (.bool false) := by kernel_rfl
@[simp low] theorem zn4 (n : Nat) : zerosOf Tryd.prog 4 n = some (List.replicate n [.bool false]).flatten := by kernel_rfl
@[simp] theorem ze4 : zerosOf Tryd.prog 4 1 = some [.bool false] := by kernel_rfl
@[simp] theorem by4 : byOf Tryd.prog 4 = some 1 := by kernel_rfl
attribute [simp] Tryd.underlying4
@[simp] theorem sz5 : szOf Tryd.prog 5 = some 1 := by kernel_rfl
@[simp] theorem ag5 : aggOf Tryd.prog 5 = some false := by kernel_rfl
@[simp] theorem zv5 : zeroOf Tryd.prog 5 = some (.int .u8 0) := by kernel_rfl
@[simp low] theorem zn5 (n : Nat) : zerosOf Tryd.prog 5 n = some (List.replicate n [.int .u8 0]).flatten := by kernel_rfl
@[simp] theorem ze5 : zerosOf Tryd.prog 5 1 = some [.int .u8 0] := by kernel_rfl
@[simp] theorem by5 : byOf Tryd.prog 5 = some 1 := by kernel_rfl
attribute [simp] Tryd.underlying5
@[simp] theorem sz6 : szOf Tryd.prog 6 = some 1 := by kernel_rfl
@[simp] theorem ag6 : aggOf Tryd.prog 6 = some false := by kernel_rfl
@[simp] theorem zv6 : zeroOf Tryd.prog 6 = some (.int .u8 0) := by kernel_rfl
@[simp low] theorem zn6 (n : Nat) : zerosOf Tryd.prog 6 n = some (List.replicate n [.int .u8 0]).flatten := by kernel_rfl
@[simp] theorem ze6 : zerosOf Tryd.prog 6 1 = some [.int .u8 0] := by kernel_rfl
@[simp] theorem by6 : byOf Tryd.prog 6 = some 1 := by kernel_rfl
attribute [simp] Tryd.underlying6
@[simp] theorem sz7 : szOf Tryd.prog 7 = some 4 := by kernel_rfl
@[simp] theorem ag7 : aggOf Tryd.prog 7 = some true := by kernel_rfl
@[simp] theorem zv7 : zeroOf Tryd.prog 7 = some (.agg #[.int .i64 0, .int .i64 0, .bool false, .int .u8 0]) := by kernel_rfl
@[simp low] theorem zn7 (n : Nat) : zerosOf Tryd.prog 7 n = some (List.replicate n [.int .i64 0, .int .i64 0, .bool false, .int .u8 0]).flatten := by kernel_rfl
@[simp] theorem ze7 : zerosOf Tryd.prog 7 1 = some [.int .i64 0, .int .i64 0, .bool false, .int .u8 0] := by kernel_rfl
@[simp] theorem pl7 : placesOf Tryd.prog 7 = some [(0, 1), (1, 1), (2, 1), (3, 1)] := by kernel_rfl
@[simp] theorem bu7 (ps : Array (Nat × Value)) : buildV Tryd.prog 7 ps = if (ps.all fun (_, x) => !junkB x) = true then (Instr.fill (fun x => [(0, 1), (1, 1), (2, 1), (3, 1)].toArray[x]?) #[.int .i64 0, .int .i64 0, .bool false, .int .u8 0] ps.toList).map fun cs => .agg cs else none := buildV_struct zv7 (by kernel_rfl) pl7
@[simp] theorem by7 : byOf Tryd.prog 7 = some 24 := by kernel_rfl
@[simp] theorem fo7_0 : fieldOf Tryd.prog 7 0 = some (0, 2) := by kernel_rfl
@[simp] theorem fo7_1 : fieldOf Tryd.prog 7 1 = some (1, 3) := by kernel_rfl
@[simp] theorem fo7_2 : fieldOf Tryd.prog 7 2 = some (2, 4) := by kernel_rfl
@[simp] theorem fo7_3 : fieldOf Tryd.prog 7 3 = some (3, 6) := by kernel_rfl
attribute [simp] Tryd.underlying7
@[simp] theorem sz8 : szOf Tryd.prog 8 = some 4 := by kernel_rfl
@[simp] theorem ag8 : aggOf Tryd.prog 8 = some true := by kernel_rfl
@[simp] theorem zv8 : zeroOf Tryd.prog 8 = some (.agg #[.int .i64 0, .int .i64 0, .bool false, .int .u8 0]) := by kernel_rfl
@[simp low] theorem zn8 (n : Nat) : zerosOf Tryd.prog 8 n = some (List.replicate n [.int .i64 0, .int .i64 0, .bool false, .int .u8 0]).flatten := by kernel_rfl
@[simp] theorem ze8 : zerosOf Tryd.prog 8 1 = some [.int .i64 0, .int .i64 0, .bool false, .int .u8 0] := by kernel_rfl
@[simp] theorem pl8 : placesOf Tryd.prog 8 = some [(0, 1), (1, 1), (2, 1), (3, 1)] := by kernel_rfl
@[simp] theorem bu8 (ps : Array (Nat × Value)) : buildV Tryd.prog 8 ps = if (ps.all fun (_, x) => !junkB x) = true then (Instr.fill (fun x => [(0, 1), (1, 1), (2, 1), (3, 1)].toArray[x]?) #[.int .i64 0, .int .i64 0, .bool false, .int .u8 0] ps.toList).map fun cs => .agg cs else none := buildV_struct zv8 (by kernel_rfl) pl8
@[simp] theorem by8 : byOf Tryd.prog 8 = some 24 := by kernel_rfl
@[simp] theorem fo8_0 : fieldOf Tryd.prog 8 0 = some (0, 2) := by kernel_rfl
@[simp] theorem fo8_1 : fieldOf Tryd.prog 8 1 = some (1, 3) := by kernel_rfl
@[simp] theorem fo8_2 : fieldOf Tryd.prog 8 2 = some (2, 4) := by kernel_rfl
@[simp] theorem fo8_3 : fieldOf Tryd.prog 8 3 = some (3, 6) := by kernel_rfl
attribute [simp] Tryd.underlying8
@[simp] theorem sz9 : szOf Tryd.prog 9 = some 1 := by kernel_rfl
@[simp] theorem ag9 : aggOf Tryd.prog 9 = some false := by kernel_rfl
@[simp] theorem zv9 : zeroOf Tryd.prog 9 = some (.string ⟨#[]⟩) := by kernel_rfl
@[simp low] theorem zn9 (n : Nat) : zerosOf Tryd.prog 9 n = some (List.replicate n [.string ⟨#[]⟩]).flatten := by kernel_rfl
@[simp] theorem ze9 : zerosOf Tryd.prog 9 1 = some [.string ⟨#[]⟩] := by kernel_rfl
@[simp] theorem by9 : byOf Tryd.prog 9 = some 16 := by kernel_rfl
attribute [simp] Tryd.underlying9
@[simp] theorem sz10 : szOf Tryd.prog 10 = some 1 := by kernel_rfl
@[simp] theorem ag10 : aggOf Tryd.prog 10 = some false := by kernel_rfl
@[simp] theorem zv10 : zeroOf Tryd.prog 10 = some (.string ⟨#[]⟩) := by kernel_rfl
@[simp low] theorem zn10 (n : Nat) : zerosOf Tryd.prog 10 n = some (List.replicate n [.string ⟨#[]⟩]).flatten := by kernel_rfl
@[simp] theorem ze10 : zerosOf Tryd.prog 10 1 = some [.string ⟨#[]⟩] := by kernel_rfl
@[simp] theorem by10 : byOf Tryd.prog 10 = some 16 := by kernel_rfl
attribute [simp] Tryd.underlying10
@[simp] theorem sz11 : szOf Tryd.prog 11 = some 1 := by kernel_rfl
@[simp] theorem ag11 : aggOf Tryd.prog 11 = some false := by kernel_rfl
@[simp] theorem zv11 : zeroOf Tryd.prog 11 = some (.string ⟨#[]⟩) := by kernel_rfl
@[simp low] theorem zn11 (n : Nat) : zerosOf Tryd.prog 11 n = some (List.replicate n [.string ⟨#[]⟩]).flatten := by kernel_rfl
@[simp] theorem ze11 : zerosOf Tryd.prog 11 1 = some [.string ⟨#[]⟩] := by kernel_rfl
@[simp] theorem by11 : byOf Tryd.prog 11 = some 16 := by kernel_rfl
attribute [simp] Tryd.underlying11
@[simp] theorem sz12 : szOf Tryd.prog 12 = some 1 := by kernel_rfl
@[simp] theorem ag12 : aggOf Tryd.prog 12 = some false := by kernel_rfl
@[simp] theorem zv12 : zeroOf Tryd.prog 12 = some (.int .u64 0) := by kernel_rfl
@[simp low] theorem zn12 (n : Nat) : zerosOf Tryd.prog 12 n = some (List.replicate n [.int .u64 0]).flatten := by kernel_rfl
@[simp] theorem ze12 : zerosOf Tryd.prog 12 1 = some [.int .u64 0] := by kernel_rfl
@[simp] theorem by12 : byOf Tryd.prog 12 = some 8 := by kernel_rfl
attribute [simp] Tryd.underlying12
@[simp] theorem sz13 : szOf Tryd.prog 13 = some 2 := by kernel_rfl
@[simp] theorem ag13 : aggOf Tryd.prog 13 = some true := by kernel_rfl
@[simp] theorem zv13 : zeroOf Tryd.prog 13 = some (.agg #[.string ⟨#[]⟩, .int .u64 0]) := by kernel_rfl
@[simp low] theorem zn13 (n : Nat) : zerosOf Tryd.prog 13 n = some (List.replicate n [.string ⟨#[]⟩, .int .u64 0]).flatten := by kernel_rfl
@[simp] theorem ze13 : zerosOf Tryd.prog 13 1 = some [.string ⟨#[]⟩, .int .u64 0] := by kernel_rfl
@[simp] theorem pl13 : placesOf Tryd.prog 13 = some [(0, 1), (1, 1)] := by kernel_rfl
@[simp] theorem bu13 (ps : Array (Nat × Value)) : buildV Tryd.prog 13 ps = if (ps.all fun (_, x) => !junkB x) = true then (Instr.fill (fun x => [(0, 1), (1, 1)].toArray[x]?) #[.string ⟨#[]⟩, .int .u64 0] ps.toList).map fun cs => .agg cs else none := buildV_struct zv13 (by kernel_rfl) pl13
@[simp] theorem by13 : byOf Tryd.prog 13 = some 24 := by kernel_rfl
@[simp] theorem fo13_0 : fieldOf Tryd.prog 13 0 = some (0, 9) := by kernel_rfl
@[simp] theorem fo13_1 : fieldOf Tryd.prog 13 1 = some (1, 12) := by kernel_rfl
attribute [simp] Tryd.underlying13
@[simp] theorem sz14 : szOf Tryd.prog 14 = some 2 := by kernel_rfl
@[simp] theorem ag14 : aggOf Tryd.prog 14 = some true := by kernel_rfl
@[simp] theorem zv14 : zeroOf Tryd.prog 14 = some (.agg #[.string ⟨#[]⟩, .int .u64 0]) := by kernel_rfl
@[simp low] theorem zn14 (n : Nat) : zerosOf Tryd.prog 14 n = some (List.replicate n [.string ⟨#[]⟩, .int .u64 0]).flatten := by kernel_rfl
@[simp] theorem ze14 : zerosOf Tryd.prog 14 1 = some [.string ⟨#[]⟩, .int .u64 0] := by kernel_rfl
@[simp] theorem pl14 : placesOf Tryd.prog 14 = some [(0, 1), (1, 1)] := by kernel_rfl
@[simp] theorem bu14 (ps : Array (Nat × Value)) : buildV Tryd.prog 14 ps = if (ps.all fun (_, x) => !junkB x) = true then (Instr.fill (fun x => [(0, 1), (1, 1)].toArray[x]?) #[.string ⟨#[]⟩, .int .u64 0] ps.toList).map fun cs => .agg cs else none := buildV_struct zv14 (by kernel_rfl) pl14
@[simp] theorem by14 : byOf Tryd.prog 14 = some 24 := by kernel_rfl
@[simp] theorem fo14_0 : fieldOf Tryd.prog 14 0 = some (0, 9) := by kernel_rfl
@[simp] theorem fo14_1 : fieldOf Tryd.prog 14 1 = some (1, 12) := by kernel_rfl
attribute [simp] Tryd.underlying14
@[simp] theorem sz15 : szOf Tryd.prog 15 = some 1 := by kernel_rfl
@[simp] theorem ag15 : aggOf Tryd.prog 15 = some false := by kernel_rfl
@[simp] theorem zv15 : zeroOf Tryd.prog 15 = some (.pointer none) := by kernel_rfl
@[simp low] theorem zn15 (n : Nat) : zerosOf Tryd.prog 15 n = some (List.replicate n [.pointer none]).flatten := by kernel_rfl
@[simp] theorem ze15 : zerosOf Tryd.prog 15 1 = some [.pointer none] := by kernel_rfl
@[simp] theorem by15 : byOf Tryd.prog 15 = some 8 := by kernel_rfl
attribute [simp] Tryd.underlying15
@[simp] theorem sz16 : szOf Tryd.prog 16 = some 1 := by kernel_rfl
@[simp] theorem ag16 : aggOf Tryd.prog 16 = some false := by kernel_rfl
@[simp] theorem zv16 : zeroOf Tryd.prog 16 = some (.pointer none) := by kernel_rfl
@[simp low] theorem zn16 (n : Nat) : zerosOf Tryd.prog 16 n = some (List.replicate n [.pointer none]).flatten := by kernel_rfl
@[simp] theorem ze16 : zerosOf Tryd.prog 16 1 = some [.pointer none] := by kernel_rfl
@[simp] theorem by16 : byOf Tryd.prog 16 = some 8 := by kernel_rfl
attribute [simp] Tryd.underlying16
@[simp] theorem sz17 : szOf Tryd.prog 17 = some 1 := by kernel_rfl
@[simp] theorem ag17 : aggOf Tryd.prog 17 = some false := by kernel_rfl
@[simp] theorem zv17 : zeroOf Tryd.prog 17 = some (.pointer none) := by kernel_rfl
@[simp low] theorem zn17 (n : Nat) : zerosOf Tryd.prog 17 n = some (List.replicate n [.pointer none]).flatten := by kernel_rfl
@[simp] theorem ze17 : zerosOf Tryd.prog 17 1 = some [.pointer none] := by kernel_rfl
@[simp] theorem by17 : byOf Tryd.prog 17 = some 8 := by kernel_rfl
attribute [simp] Tryd.underlying17
@[simp] theorem sz18 : szOf Tryd.prog 18 = some 1 := by kernel_rfl
@[simp] theorem ag18 : aggOf Tryd.prog 18 = some true := by kernel_rfl
@[simp] theorem zv18 : zeroOf Tryd.prog 18 = some (.agg #[.pointer none]) := by kernel_rfl
@[simp low] theorem zn18 (n : Nat) : zerosOf Tryd.prog 18 n = some (List.replicate n [.pointer none]).flatten := by kernel_rfl
@[simp] theorem ze18 : zerosOf Tryd.prog 18 1 = some [.pointer none] := by kernel_rfl
@[simp] theorem pl18 : placesOf Tryd.prog 18 = some [(0, 1)] := by kernel_rfl
@[simp] theorem bu18 (ps : Array (Nat × Value)) : buildV Tryd.prog 18 ps = if (ps.all fun (_, x) => !junkB x) = true then (Instr.fill (fun x => [(0, 1)].toArray[x]?) #[.pointer none] ps.toList).map fun cs => .agg cs else none := buildV_struct zv18 (by kernel_rfl) pl18
@[simp] theorem by18 : byOf Tryd.prog 18 = some 8 := by kernel_rfl
@[simp] theorem fo18_0 : fieldOf Tryd.prog 18 0 = some (0, 17) := by kernel_rfl
attribute [simp] Tryd.underlying18
@[simp] theorem sz19 : szOf Tryd.prog 19 = some 1 := by kernel_rfl
@[simp] theorem ag19 : aggOf Tryd.prog 19 = some true := by kernel_rfl
@[simp] theorem zv19 : zeroOf Tryd.prog 19 = some (.agg #[.pointer none]) := by kernel_rfl
@[simp low] theorem zn19 (n : Nat) : zerosOf Tryd.prog 19 n = some (List.replicate n [.pointer none]).flatten := by kernel_rfl
@[simp] theorem ze19 : zerosOf Tryd.prog 19 1 = some [.pointer none] := by kernel_rfl
@[simp] theorem pl19 : placesOf Tryd.prog 19 = some [(0, 1)] := by kernel_rfl
@[simp] theorem bu19 (ps : Array (Nat × Value)) : buildV Tryd.prog 19 ps = if (ps.all fun (_, x) => !junkB x) = true then (Instr.fill (fun x => [(0, 1)].toArray[x]?) #[.pointer none] ps.toList).map fun cs => .agg cs else none := buildV_struct zv19 (by kernel_rfl) pl19
@[simp] theorem by19 : byOf Tryd.prog 19 = some 8 := by kernel_rfl
@[simp] theorem fo19_0 : fieldOf Tryd.prog 19 0 = some (0, 17) := by kernel_rfl
attribute [simp] Tryd.underlying19
@[simp] theorem sz21 : szOf Tryd.prog 21 = some 1 := by kernel_rfl
@[simp] theorem ag21 : aggOf Tryd.prog 21 = some false := by kernel_rfl
@[simp] theorem zv21 : zeroOf Tryd.prog 21 = some (.int .i32 0) := by kernel_rfl
@[simp low] theorem zn21 (n : Nat) : zerosOf Tryd.prog 21 n = some (List.replicate n [.int .i32 0]).flatten := by kernel_rfl
@[simp] theorem ze21 : zerosOf Tryd.prog 21 1 = some [.int .i32 0] := by kernel_rfl
@[simp] theorem by21 : byOf Tryd.prog 21 = some 4 := by kernel_rfl
attribute [simp] Tryd.underlying21
@[simp] theorem sz22 : szOf Tryd.prog 22 = some 1 := by kernel_rfl
@[simp] theorem ag22 : aggOf Tryd.prog 22 = some false := by kernel_rfl
@[simp] theorem zv22 : zeroOf Tryd.prog 22 = some (.slice none 0 0) := by kernel_rfl
@[simp low] theorem zn22 (n : Nat) : zerosOf Tryd.prog 22 n = some (List.replicate n [.slice none 0 0]).flatten := by kernel_rfl
@[simp] theorem ze22 : zerosOf Tryd.prog 22 1 = some [.slice none 0 0] := by kernel_rfl
@[simp] theorem by22 : byOf Tryd.prog 22 = some 24 := by kernel_rfl
attribute [simp] Tryd.underlying22
@[simp] theorem sz23 : szOf Tryd.prog 23 = some 1 := by kernel_rfl
@[simp] theorem ag23 : aggOf Tryd.prog 23 = some false := by kernel_rfl
@[simp] theorem zv23 : zeroOf Tryd.prog 23 = some (.slice none 0 0) := by kernel_rfl
@[simp low] theorem zn23 (n : Nat) : zerosOf Tryd.prog 23 n = some (List.replicate n [.slice none 0 0]).flatten := by kernel_rfl
@[simp] theorem ze23 : zerosOf Tryd.prog 23 1 = some [.slice none 0 0] := by kernel_rfl
@[simp] theorem by23 : byOf Tryd.prog 23 = some 24 := by kernel_rfl
attribute [simp] Tryd.underlying23
@[simp] theorem sz24 : szOf Tryd.prog 24 = some 1 := by kernel_rfl
@[simp] theorem ag24 : aggOf Tryd.prog 24 = some false := by kernel_rfl
@[simp] theorem zv24 : zeroOf Tryd.prog 24 = some (.pointer none) := by kernel_rfl
@[simp low] theorem zn24 (n : Nat) : zerosOf Tryd.prog 24 n = some (List.replicate n [.pointer none]).flatten := by kernel_rfl
@[simp] theorem ze24 : zerosOf Tryd.prog 24 1 = some [.pointer none] := by kernel_rfl
@[simp] theorem by24 : byOf Tryd.prog 24 = some 8 := by kernel_rfl
attribute [simp] Tryd.underlying24
@[simp] theorem sz25 : szOf Tryd.prog 25 = some 1 := by kernel_rfl
@[simp] theorem ag25 : aggOf Tryd.prog 25 = some false := by kernel_rfl
@[simp] theorem zv25 : zeroOf Tryd.prog 25 = some (.int .i64 0) := by kernel_rfl
@[simp low] theorem zn25 (n : Nat) : zerosOf Tryd.prog 25 n = some (List.replicate n [.int .i64 0]).flatten := by kernel_rfl
@[simp] theorem ze25 : zerosOf Tryd.prog 25 1 = some [.int .i64 0] := by kernel_rfl
@[simp] theorem by25 : byOf Tryd.prog 25 = some 8 := by kernel_rfl
attribute [simp] Tryd.underlying25
@[simp] theorem sz29 : szOf Tryd.prog 29 = some 3 := by kernel_rfl
@[simp] theorem ag29 : aggOf Tryd.prog 29 = some true := by kernel_rfl
@[simp] theorem zv29 : zeroOf Tryd.prog 29 = some (.agg #[.int .i64 0, .int .i64 0, .slice none 0 0]) := by kernel_rfl
@[simp low] theorem zn29 (n : Nat) : zerosOf Tryd.prog 29 n = some (List.replicate n [.int .i64 0, .int .i64 0, .slice none 0 0]).flatten := by kernel_rfl
@[simp] theorem ze29 : zerosOf Tryd.prog 29 1 = some [.int .i64 0, .int .i64 0, .slice none 0 0] := by kernel_rfl
@[simp] theorem pl29 : placesOf Tryd.prog 29 = some [(0, 1), (1, 1), (2, 1)] := by kernel_rfl
@[simp] theorem bu29 (ps : Array (Nat × Value)) : buildV Tryd.prog 29 ps = if (ps.all fun (_, x) => !junkB x) = true then (Instr.fill (fun x => [(0, 1), (1, 1), (2, 1)].toArray[x]?) #[.int .i64 0, .int .i64 0, .slice none 0 0] ps.toList).map fun cs => .agg cs else none := buildV_struct zv29 (by kernel_rfl) pl29
@[simp] theorem by29 : byOf Tryd.prog 29 = some 40 := by kernel_rfl
@[simp] theorem fo29_0 : fieldOf Tryd.prog 29 0 = some (0, 3) := by kernel_rfl
@[simp] theorem fo29_1 : fieldOf Tryd.prog 29 1 = some (1, 3) := by kernel_rfl
@[simp] theorem fo29_2 : fieldOf Tryd.prog 29 2 = some (2, 22) := by kernel_rfl
attribute [simp] Tryd.underlying29
@[simp] theorem sz30 : szOf Tryd.prog 30 = some 3 := by kernel_rfl
@[simp] theorem ag30 : aggOf Tryd.prog 30 = some true := by kernel_rfl
@[simp] theorem zv30 : zeroOf Tryd.prog 30 = some (.agg #[.int .i64 0, .int .i64 0, .slice none 0 0]) := by kernel_rfl
@[simp low] theorem zn30 (n : Nat) : zerosOf Tryd.prog 30 n = some (List.replicate n [.int .i64 0, .int .i64 0, .slice none 0 0]).flatten := by kernel_rfl
@[simp] theorem ze30 : zerosOf Tryd.prog 30 1 = some [.int .i64 0, .int .i64 0, .slice none 0 0] := by kernel_rfl
@[simp] theorem pl30 : placesOf Tryd.prog 30 = some [(0, 1), (1, 1), (2, 1)] := by kernel_rfl
@[simp] theorem bu30 (ps : Array (Nat × Value)) : buildV Tryd.prog 30 ps = if (ps.all fun (_, x) => !junkB x) = true then (Instr.fill (fun x => [(0, 1), (1, 1), (2, 1)].toArray[x]?) #[.int .i64 0, .int .i64 0, .slice none 0 0] ps.toList).map fun cs => .agg cs else none := buildV_struct zv30 (by kernel_rfl) pl30
@[simp] theorem by30 : byOf Tryd.prog 30 = some 40 := by kernel_rfl
@[simp] theorem fo30_0 : fieldOf Tryd.prog 30 0 = some (0, 3) := by kernel_rfl
@[simp] theorem fo30_1 : fieldOf Tryd.prog 30 1 = some (1, 3) := by kernel_rfl
@[simp] theorem fo30_2 : fieldOf Tryd.prog 30 2 = some (2, 22) := by kernel_rfl
attribute [simp] Tryd.underlying30
@[simp] theorem sz31 : szOf Tryd.prog 31 = some 1 := by kernel_rfl
@[simp] theorem ag31 : aggOf Tryd.prog 31 = some false := by kernel_rfl
@[simp] theorem zv31 : zeroOf Tryd.prog 31 = some (.pointer none) := by kernel_rfl
@[simp low] theorem zn31 (n : Nat) : zerosOf Tryd.prog 31 n = some (List.replicate n [.pointer none]).flatten := by kernel_rfl
@[simp] theorem ze31 : zerosOf Tryd.prog 31 1 = some [.pointer none] := by kernel_rfl
@[simp] theorem by31 : byOf Tryd.prog 31 = some 8 := by kernel_rfl
attribute [simp] Tryd.underlying31
@[simp] theorem sz34 : szOf Tryd.prog 34 = some 1 := by kernel_rfl
@[simp] theorem ag34 : aggOf Tryd.prog 34 = some false := by kernel_rfl
@[simp] theorem zv34 : zeroOf Tryd.prog 34 = some (.int .u64 0) := by kernel_rfl
@[simp low] theorem zn34 (n : Nat) : zerosOf Tryd.prog 34 n = some (List.replicate n [.int .u64 0]).flatten := by kernel_rfl
@[simp] theorem ze34 : zerosOf Tryd.prog 34 1 = some [.int .u64 0] := by kernel_rfl
@[simp] theorem by34 : byOf Tryd.prog 34 = some 8 := by kernel_rfl
attribute [simp] Tryd.underlying34
@[simp] theorem sz42 : szOf Tryd.prog 42 = some 1 := by kernel_rfl
@[simp] theorem ag42 : aggOf Tryd.prog 42 = some false := by kernel_rfl
@[simp] theorem zv42 : zeroOf Tryd.prog 42 = some (.slice none 0 0) := by kernel_rfl
@[simp low] theorem zn42 (n : Nat) : zerosOf Tryd.prog 42 n = some (List.replicate n [.slice none 0 0]).flatten := by kernel_rfl
@[simp] theorem ze42 : zerosOf Tryd.prog 42 1 = some [.slice none 0 0] := by kernel_rfl
@[simp] theorem by42 : byOf Tryd.prog 42 = some 24 := by kernel_rfl
attribute [simp] Tryd.underlying42
@[simp] theorem sz55 : szOf Tryd.prog 55 = some 3 := by kernel_rfl
@[simp] theorem ag55 : aggOf Tryd.prog 55 = some true := by kernel_rfl
@[simp] theorem zv55 : zeroOf Tryd.prog 55 = some (.agg #[.pointer none, .pointer none, .pointer none]) := by kernel_rfl
@[simp low] theorem zn55 (n : Nat) : zerosOf Tryd.prog 55 n = some (List.replicate n [.pointer none, .pointer none, .pointer none]).flatten := by kernel_rfl
@[simp] theorem ze55 : zerosOf Tryd.prog 55 1 = some [.pointer none, .pointer none, .pointer none] := by kernel_rfl
@[simp] theorem pl55 : placesOf Tryd.prog 55 = some [(0, 1), (1, 1), (2, 1)] := by kernel_rfl
@[simp] theorem bu55 (ps : Array (Nat × Value)) : buildV Tryd.prog 55 ps = if (ps.all fun (_, x) => !junkB x) = true then (Instr.fill (fun x => [(0, 1), (1, 1), (2, 1)].toArray[x]?) #[.pointer none, .pointer none, .pointer none] ps.toList).map fun cs => .agg cs else none := buildV_struct zv55 (by kernel_rfl) pl55
@[simp] theorem by55 : byOf Tryd.prog 55 = some 24 := by kernel_rfl
@[simp] theorem fo55_0 : fieldOf Tryd.prog 55 0 = some (0, 31) := by kernel_rfl
@[simp] theorem fo55_1 : fieldOf Tryd.prog 55 1 = some (1, 31) := by kernel_rfl
@[simp] theorem fo55_2 : fieldOf Tryd.prog 55 2 = some (2, 31) := by kernel_rfl
attribute [simp] Tryd.underlying55
@[simp] theorem sz56 : szOf Tryd.prog 56 = some 3 := by kernel_rfl
@[simp] theorem ag56 : aggOf Tryd.prog 56 = some true := by kernel_rfl
@[simp] theorem zv56 : zeroOf Tryd.prog 56 = some (.agg #[.pointer none, .pointer none, .pointer none]) := by kernel_rfl
@[simp low] theorem zn56 (n : Nat) : zerosOf Tryd.prog 56 n = some (List.replicate n [.pointer none, .pointer none, .pointer none]).flatten := by kernel_rfl
@[simp] theorem ze56 : zerosOf Tryd.prog 56 1 = some [.pointer none, .pointer none, .pointer none] := by kernel_rfl
@[simp] theorem pl56 : placesOf Tryd.prog 56 = some [(0, 1), (1, 1), (2, 1)] := by kernel_rfl
@[simp] theorem bu56 (ps : Array (Nat × Value)) : buildV Tryd.prog 56 ps = if (ps.all fun (_, x) => !junkB x) = true then (Instr.fill (fun x => [(0, 1), (1, 1), (2, 1)].toArray[x]?) #[.pointer none, .pointer none, .pointer none] ps.toList).map fun cs => .agg cs else none := buildV_struct zv56 (by kernel_rfl) pl56
@[simp] theorem by56 : byOf Tryd.prog 56 = some 24 := by kernel_rfl
@[simp] theorem fo56_0 : fieldOf Tryd.prog 56 0 = some (0, 31) := by kernel_rfl
@[simp] theorem fo56_1 : fieldOf Tryd.prog 56 1 = some (1, 31) := by kernel_rfl
@[simp] theorem fo56_2 : fieldOf Tryd.prog 56 2 = some (2, 31) := by kernel_rfl
attribute [simp] Tryd.underlying56
@[simp] theorem sz57 : szOf Tryd.prog 57 = some 4 := by kernel_rfl
@[simp] theorem ag57 : aggOf Tryd.prog 57 = some true := by kernel_rfl
@[simp] theorem zv57 : zeroOf Tryd.prog 57 = some (.agg #[.int .i64 0, .pointer none, .pointer none, .pointer none]) := by kernel_rfl
@[simp low] theorem zn57 (n : Nat) : zerosOf Tryd.prog 57 n = some (List.replicate n [.int .i64 0, .pointer none, .pointer none, .pointer none]).flatten := by kernel_rfl
@[simp] theorem ze57 : zerosOf Tryd.prog 57 1 = some [.int .i64 0, .pointer none, .pointer none, .pointer none] := by kernel_rfl
@[simp] theorem pl57 : placesOf Tryd.prog 57 = some [(0, 1), (1, 3)] := by kernel_rfl
@[simp] theorem bu57 (ps : Array (Nat × Value)) : buildV Tryd.prog 57 ps = if (ps.all fun (_, x) => !junkB x) = true then (Instr.fill (fun x => [(0, 1), (1, 3)].toArray[x]?) #[.int .i64 0, .pointer none, .pointer none, .pointer none] ps.toList).map fun cs => .agg cs else none := buildV_struct zv57 (by kernel_rfl) pl57
@[simp] theorem by57 : byOf Tryd.prog 57 = some 32 := by kernel_rfl
@[simp] theorem fo57_0 : fieldOf Tryd.prog 57 0 = some (0, 3) := by kernel_rfl
@[simp] theorem fo57_1 : fieldOf Tryd.prog 57 1 = some (1, 56) := by kernel_rfl
attribute [simp] Tryd.underlying57
@[simp] theorem sz58 : szOf Tryd.prog 58 = some 4 := by kernel_rfl
@[simp] theorem ag58 : aggOf Tryd.prog 58 = some true := by kernel_rfl
@[simp] theorem zv58 : zeroOf Tryd.prog 58 = some (.agg #[.int .i64 0, .pointer none, .pointer none, .pointer none]) := by kernel_rfl
@[simp low] theorem zn58 (n : Nat) : zerosOf Tryd.prog 58 n = some (List.replicate n [.int .i64 0, .pointer none, .pointer none, .pointer none]).flatten := by kernel_rfl
@[simp] theorem ze58 : zerosOf Tryd.prog 58 1 = some [.int .i64 0, .pointer none, .pointer none, .pointer none] := by kernel_rfl
@[simp] theorem pl58 : placesOf Tryd.prog 58 = some [(0, 1), (1, 3)] := by kernel_rfl
@[simp] theorem bu58 (ps : Array (Nat × Value)) : buildV Tryd.prog 58 ps = if (ps.all fun (_, x) => !junkB x) = true then (Instr.fill (fun x => [(0, 1), (1, 3)].toArray[x]?) #[.int .i64 0, .pointer none, .pointer none, .pointer none] ps.toList).map fun cs => .agg cs else none := buildV_struct zv58 (by kernel_rfl) pl58
@[simp] theorem by58 : byOf Tryd.prog 58 = some 32 := by kernel_rfl
@[simp] theorem fo58_0 : fieldOf Tryd.prog 58 0 = some (0, 3) := by kernel_rfl
@[simp] theorem fo58_1 : fieldOf Tryd.prog 58 1 = some (1, 56) := by kernel_rfl
attribute [simp] Tryd.underlying58
@[simp] theorem sz62 : szOf Tryd.prog 62 = some 1 := by kernel_rfl
@[simp] theorem ag62 : aggOf Tryd.prog 62 = some false := by kernel_rfl
@[simp] theorem zv62 : zeroOf Tryd.prog 62 = some (.slice none 0 0) := by kernel_rfl
@[simp low] theorem zn62 (n : Nat) : zerosOf Tryd.prog 62 n = some (List.replicate n [.slice none 0 0]).flatten := by kernel_rfl
@[simp] theorem ze62 : zerosOf Tryd.prog 62 1 = some [.slice none 0 0] := by kernel_rfl
@[simp] theorem by62 : byOf Tryd.prog 62 = some 24 := by kernel_rfl
attribute [simp] Tryd.underlying62
@[simp] theorem sz63 : szOf Tryd.prog 63 = some 2 := by kernel_rfl
@[simp] theorem ag63 : aggOf Tryd.prog 63 = some true := by kernel_rfl
@[simp] theorem zv63 : zeroOf Tryd.prog 63 = some (.agg #[.int .i64 0, .slice none 0 0]) := by kernel_rfl
@[simp low] theorem zn63 (n : Nat) : zerosOf Tryd.prog 63 n = some (List.replicate n [.int .i64 0, .slice none 0 0]).flatten := by kernel_rfl
@[simp] theorem ze63 : zerosOf Tryd.prog 63 1 = some [.int .i64 0, .slice none 0 0] := by kernel_rfl
@[simp] theorem pl63 : placesOf Tryd.prog 63 = some [(0, 1), (1, 1)] := by kernel_rfl
@[simp] theorem bu63 (ps : Array (Nat × Value)) : buildV Tryd.prog 63 ps = if (ps.all fun (_, x) => !junkB x) = true then (Instr.fill (fun x => [(0, 1), (1, 1)].toArray[x]?) #[.int .i64 0, .slice none 0 0] ps.toList).map fun cs => .agg cs else none := buildV_struct zv63 (by kernel_rfl) pl63
@[simp] theorem by63 : byOf Tryd.prog 63 = some 32 := by kernel_rfl
@[simp] theorem fo63_0 : fieldOf Tryd.prog 63 0 = some (0, 3) := by kernel_rfl
@[simp] theorem fo63_1 : fieldOf Tryd.prog 63 1 = some (1, 62) := by kernel_rfl
attribute [simp] Tryd.underlying63
@[simp] theorem sz64 : szOf Tryd.prog 64 = some 2 := by kernel_rfl
@[simp] theorem ag64 : aggOf Tryd.prog 64 = some true := by kernel_rfl
@[simp] theorem zv64 : zeroOf Tryd.prog 64 = some (.agg #[.int .i64 0, .slice none 0 0]) := by kernel_rfl
@[simp low] theorem zn64 (n : Nat) : zerosOf Tryd.prog 64 n = some (List.replicate n [.int .i64 0, .slice none 0 0]).flatten := by kernel_rfl
@[simp] theorem ze64 : zerosOf Tryd.prog 64 1 = some [.int .i64 0, .slice none 0 0] := by kernel_rfl
@[simp] theorem pl64 : placesOf Tryd.prog 64 = some [(0, 1), (1, 1)] := by kernel_rfl
@[simp] theorem bu64 (ps : Array (Nat × Value)) : buildV Tryd.prog 64 ps = if (ps.all fun (_, x) => !junkB x) = true then (Instr.fill (fun x => [(0, 1), (1, 1)].toArray[x]?) #[.int .i64 0, .slice none 0 0] ps.toList).map fun cs => .agg cs else none := buildV_struct zv64 (by kernel_rfl) pl64
@[simp] theorem by64 : byOf Tryd.prog 64 = some 32 := by kernel_rfl
@[simp] theorem fo64_0 : fieldOf Tryd.prog 64 0 = some (0, 3) := by kernel_rfl
@[simp] theorem fo64_1 : fieldOf Tryd.prog 64 1 = some (1, 62) := by kernel_rfl
attribute [simp] Tryd.underlying64
@[simp] theorem sz83 : szOf Tryd.prog 83 = some 1 := by kernel_rfl
@[simp] theorem ag83 : aggOf Tryd.prog 83 = some false := by kernel_rfl
@[simp] theorem zv83 : zeroOf Tryd.prog 83 = some (.slice none 0 0) := by kernel_rfl
@[simp low] theorem zn83 (n : Nat) : zerosOf Tryd.prog 83 n = some (List.replicate n [.slice none 0 0]).flatten := by kernel_rfl
@[simp] theorem ze83 : zerosOf Tryd.prog 83 1 = some [.slice none 0 0] := by kernel_rfl
@[simp] theorem by83 : byOf Tryd.prog 83 = some 24 := by kernel_rfl
attribute [simp] Tryd.underlying83
@[simp] theorem sz86 : szOf Tryd.prog 86 = some 64 := by kernel_rfl
@[simp] theorem ag86 : aggOf Tryd.prog 86 = some true := by kernel_rfl
@[simp] theorem by86 : byOf Tryd.prog 86 = some 64 := by kernel_rfl
attribute [simp] Tryd.underlying86
@[simp] theorem sz87 : szOf Tryd.prog 87 = some 1 := by kernel_rfl
@[simp] theorem ag87 : aggOf Tryd.prog 87 = some false := by kernel_rfl
@[simp] theorem zv87 : zeroOf Tryd.prog 87 = some (.int .u64 0) := by kernel_rfl
@[simp low] theorem zn87 (n : Nat) : zerosOf Tryd.prog 87 n = some (List.replicate n [.int .u64 0]).flatten := by kernel_rfl
@[simp] theorem ze87 : zerosOf Tryd.prog 87 1 = some [.int .u64 0] := by kernel_rfl
@[simp] theorem by87 : byOf Tryd.prog 87 = some 8 := by kernel_rfl
attribute [simp] Tryd.underlying87
@[simp] theorem sz92 : szOf Tryd.prog 92 = some 1 := by kernel_rfl
@[simp] theorem ag92 : aggOf Tryd.prog 92 = some false := by kernel_rfl
@[simp] theorem zv92 : zeroOf Tryd.prog 92 = some (.int .i64 0) := by kernel_rfl
@[simp low] theorem zn92 (n : Nat) : zerosOf Tryd.prog 92 n = some (List.replicate n [.int .i64 0]).flatten := by kernel_rfl
@[simp] theorem ze92 : zerosOf Tryd.prog 92 1 = some [.int .i64 0] := by kernel_rfl
@[simp] theorem by92 : byOf Tryd.prog 92 = some 8 := by kernel_rfl
attribute [simp] Tryd.underlying92
@[simp] theorem sz101 : szOf Tryd.prog 101 = some 1 := by kernel_rfl
@[simp] theorem ag101 : aggOf Tryd.prog 101 = some false := by kernel_rfl
@[simp] theorem zv101 : zeroOf Tryd.prog 101 = some (.int .u32 0) := by kernel_rfl
@[simp low] theorem zn101 (n : Nat) : zerosOf Tryd.prog 101 n = some (List.replicate n [.int .u32 0]).flatten := by kernel_rfl
@[simp] theorem ze101 : zerosOf Tryd.prog 101 1 = some [.int .u32 0] := by kernel_rfl
@[simp] theorem by101 : byOf Tryd.prog 101 = some 4 := by kernel_rfl
attribute [simp] Tryd.underlying101
@[simp] theorem sz102 : szOf Tryd.prog 102 = some 1 := by kernel_rfl
@[simp] theorem ag102 : aggOf Tryd.prog 102 = some false := by kernel_rfl
@[simp] theorem zv102 : zeroOf Tryd.prog 102 = some (.int .u64 0) := by kernel_rfl
@[simp low] theorem zn102 (n : Nat) : zerosOf Tryd.prog 102 n = some (List.replicate n [.int .u64 0]).flatten := by kernel_rfl
@[simp] theorem ze102 : zerosOf Tryd.prog 102 1 = some [.int .u64 0] := by kernel_rfl
@[simp] theorem by102 : byOf Tryd.prog 102 = some 8 := by kernel_rfl
attribute [simp] Tryd.underlying102
@[simp] theorem sz106 : szOf Tryd.prog 106 = some 1 := by kernel_rfl
@[simp] theorem ag106 : aggOf Tryd.prog 106 = some false := by kernel_rfl
@[simp] theorem zv106 : zeroOf Tryd.prog 106 = some (.pointer none) := by kernel_rfl
@[simp low] theorem zn106 (n : Nat) : zerosOf Tryd.prog 106 n = some (List.replicate n [.pointer none]).flatten := by kernel_rfl
@[simp] theorem ze106 : zerosOf Tryd.prog 106 1 = some [.pointer none] := by kernel_rfl
@[simp] theorem by106 : byOf Tryd.prog 106 = some 8 := by kernel_rfl
attribute [simp] Tryd.underlying106
@[simp] theorem sz108 : szOf Tryd.prog 108 = some 1 := by kernel_rfl
@[simp] theorem ag108 : aggOf Tryd.prog 108 = some false := by kernel_rfl
@[simp] theorem zv108 : zeroOf Tryd.prog 108 = some (.pointer none) := by kernel_rfl
@[simp low] theorem zn108 (n : Nat) : zerosOf Tryd.prog 108 n = some (List.replicate n [.pointer none]).flatten := by kernel_rfl
@[simp] theorem ze108 : zerosOf Tryd.prog 108 1 = some [.pointer none] := by kernel_rfl
@[simp] theorem by108 : byOf Tryd.prog 108 = some 8 := by kernel_rfl
attribute [simp] Tryd.underlying108
@[simp] theorem sz112 : szOf Tryd.prog 112 = some 4 := by kernel_rfl
@[simp] theorem ag112 : aggOf Tryd.prog 112 = some true := by kernel_rfl
@[simp] theorem zv112 : zeroOf Tryd.prog 112 = some (.agg #[.pointer none, .pointer none, .pointer none, .string ⟨#[]⟩]) := by kernel_rfl
@[simp low] theorem zn112 (n : Nat) : zerosOf Tryd.prog 112 n = some (List.replicate n [.pointer none, .pointer none, .pointer none, .string ⟨#[]⟩]).flatten := by kernel_rfl
@[simp] theorem ze112 : zerosOf Tryd.prog 112 1 = some [.pointer none, .pointer none, .pointer none, .string ⟨#[]⟩] := by kernel_rfl
@[simp] theorem pl112 : placesOf Tryd.prog 112 = some [(0, 1), (1, 1), (2, 1), (3, 1)] := by kernel_rfl
@[simp] theorem bu112 (ps : Array (Nat × Value)) : buildV Tryd.prog 112 ps = if (ps.all fun (_, x) => !junkB x) = true then (Instr.fill (fun x => [(0, 1), (1, 1), (2, 1), (3, 1)].toArray[x]?) #[.pointer none, .pointer none, .pointer none, .string ⟨#[]⟩] ps.toList).map fun cs => .agg cs else none := buildV_struct zv112 (by kernel_rfl) pl112
@[simp] theorem by112 : byOf Tryd.prog 112 = some 40 := by kernel_rfl
@[simp] theorem fo112_0 : fieldOf Tryd.prog 112 0 = some (0, 17) := by kernel_rfl
@[simp] theorem fo112_1 : fieldOf Tryd.prog 112 1 = some (1, 17) := by kernel_rfl
@[simp] theorem fo112_2 : fieldOf Tryd.prog 112 2 = some (2, 17) := by kernel_rfl
@[simp] theorem fo112_3 : fieldOf Tryd.prog 112 3 = some (3, 9) := by kernel_rfl
attribute [simp] Tryd.underlying112
@[simp] theorem sz113 : szOf Tryd.prog 113 = some 4 := by kernel_rfl
@[simp] theorem ag113 : aggOf Tryd.prog 113 = some true := by kernel_rfl
@[simp] theorem zv113 : zeroOf Tryd.prog 113 = some (.agg #[.pointer none, .pointer none, .pointer none, .string ⟨#[]⟩]) := by kernel_rfl
@[simp low] theorem zn113 (n : Nat) : zerosOf Tryd.prog 113 n = some (List.replicate n [.pointer none, .pointer none, .pointer none, .string ⟨#[]⟩]).flatten := by kernel_rfl
@[simp] theorem ze113 : zerosOf Tryd.prog 113 1 = some [.pointer none, .pointer none, .pointer none, .string ⟨#[]⟩] := by kernel_rfl
@[simp] theorem pl113 : placesOf Tryd.prog 113 = some [(0, 1), (1, 1), (2, 1), (3, 1)] := by kernel_rfl
@[simp] theorem bu113 (ps : Array (Nat × Value)) : buildV Tryd.prog 113 ps = if (ps.all fun (_, x) => !junkB x) = true then (Instr.fill (fun x => [(0, 1), (1, 1), (2, 1), (3, 1)].toArray[x]?) #[.pointer none, .pointer none, .pointer none, .string ⟨#[]⟩] ps.toList).map fun cs => .agg cs else none := buildV_struct zv113 (by kernel_rfl) pl113
@[simp] theorem by113 : byOf Tryd.prog 113 = some 40 := by kernel_rfl
@[simp] theorem fo113_0 : fieldOf Tryd.prog 113 0 = some (0, 17) := by kernel_rfl
@[simp] theorem fo113_1 : fieldOf Tryd.prog 113 1 = some (1, 17) := by kernel_rfl
@[simp] theorem fo113_2 : fieldOf Tryd.prog 113 2 = some (2, 17) := by kernel_rfl
@[simp] theorem fo113_3 : fieldOf Tryd.prog 113 3 = some (3, 9) := by kernel_rfl
attribute [simp] Tryd.underlying113
@[simp] theorem sz114 : szOf Tryd.prog 114 = some 0 := by kernel_rfl
@[simp] theorem ag114 : aggOf Tryd.prog 114 = some true := by kernel_rfl
@[simp] theorem by114 : byOf Tryd.prog 114 = some 0 := by kernel_rfl
attribute [simp] Tryd.underlying114
@[simp] theorem sz115 : szOf Tryd.prog 115 = some 0 := by kernel_rfl
@[simp] theorem ag115 : aggOf Tryd.prog 115 = some true := by kernel_rfl
@[simp] theorem by115 : byOf Tryd.prog 115 = some 0 := by kernel_rfl
@[simp] theorem fo115_0 : fieldOf Tryd.prog 115 0 = some (0, 114) := by kernel_rfl
attribute [simp] Tryd.underlying115
@[simp] theorem sz116 : szOf Tryd.prog 116 = some 0 := by kernel_rfl
@[simp] theorem ag116 : aggOf Tryd.prog 116 = some true := by kernel_rfl
@[simp] theorem by116 : byOf Tryd.prog 116 = some 0 := by kernel_rfl
@[simp] theorem fo116_0 : fieldOf Tryd.prog 116 0 = some (0, 114) := by kernel_rfl
attribute [simp] Tryd.underlying116
@[simp] theorem sz117 : szOf Tryd.prog 117 = some 1 := by kernel_rfl
@[simp] theorem ag117 : aggOf Tryd.prog 117 = some false := by kernel_rfl
@[simp] theorem zv117 : zeroOf Tryd.prog 117 = some (.int .u8 0) := by kernel_rfl
@[simp low] theorem zn117 (n : Nat) : zerosOf Tryd.prog 117 n = some (List.replicate n [.int .u8 0]).flatten := by kernel_rfl
@[simp] theorem ze117 : zerosOf Tryd.prog 117 1 = some [.int .u8 0] := by kernel_rfl
@[simp] theorem by117 : byOf Tryd.prog 117 = some 1 := by kernel_rfl
attribute [simp] Tryd.underlying117
@[simp] theorem sz118 : szOf Tryd.prog 118 = some 1 := by kernel_rfl
@[simp] theorem ag118 : aggOf Tryd.prog 118 = some false := by kernel_rfl
@[simp] theorem zv118 : zeroOf Tryd.prog 118 = some (.int .u8 0) := by kernel_rfl
@[simp low] theorem zn118 (n : Nat) : zerosOf Tryd.prog 118 n = some (List.replicate n [.int .u8 0]).flatten := by kernel_rfl
@[simp] theorem ze118 : zerosOf Tryd.prog 118 1 = some [.int .u8 0] := by kernel_rfl
@[simp] theorem by118 : byOf Tryd.prog 118 = some 1 := by kernel_rfl
attribute [simp] Tryd.underlying118
@[simp] theorem sz120 : szOf Tryd.prog 120 = some 1 := by kernel_rfl
@[simp] theorem ag120 : aggOf Tryd.prog 120 = some false := by kernel_rfl
@[simp] theorem zv120 : zeroOf Tryd.prog 120 = some (.pointer none) := by kernel_rfl
@[simp low] theorem zn120 (n : Nat) : zerosOf Tryd.prog 120 n = some (List.replicate n [.pointer none]).flatten := by kernel_rfl
@[simp] theorem ze120 : zerosOf Tryd.prog 120 1 = some [.pointer none] := by kernel_rfl
@[simp] theorem by120 : byOf Tryd.prog 120 = some 8 := by kernel_rfl
attribute [simp] Tryd.underlying120
@[simp] theorem sz121 : szOf Tryd.prog 121 = some 1 := by kernel_rfl
@[simp] theorem ag121 : aggOf Tryd.prog 121 = some false := by kernel_rfl
@[simp] theorem zv121 : zeroOf Tryd.prog 121 = some (.int .i32 0) := by kernel_rfl
@[simp low] theorem zn121 (n : Nat) : zerosOf Tryd.prog 121 n = some (List.replicate n [.int .i32 0]).flatten := by kernel_rfl
@[simp] theorem ze121 : zerosOf Tryd.prog 121 1 = some [.int .i32 0] := by kernel_rfl
@[simp] theorem by121 : byOf Tryd.prog 121 = some 4 := by kernel_rfl
attribute [simp] Tryd.underlying121
@[simp] theorem sz122 : szOf Tryd.prog 122 = some 1 := by kernel_rfl
@[simp] theorem ag122 : aggOf Tryd.prog 122 = some false := by kernel_rfl
@[simp] theorem zv122 : zeroOf Tryd.prog 122 = some (.int .i32 0) := by kernel_rfl
@[simp low] theorem zn122 (n : Nat) : zerosOf Tryd.prog 122 n = some (List.replicate n [.int .i32 0]).flatten := by kernel_rfl
@[simp] theorem ze122 : zerosOf Tryd.prog 122 1 = some [.int .i32 0] := by kernel_rfl
@[simp] theorem by122 : byOf Tryd.prog 122 = some 4 := by kernel_rfl
attribute [simp] Tryd.underlying122
@[simp] theorem sz123 : szOf Tryd.prog 123 = some 11 := by kernel_rfl
@[simp] theorem ag123 : aggOf Tryd.prog 123 = some true := by kernel_rfl
@[simp] theorem fo123_0 : fieldOf Tryd.prog 123 0 = some (0, 12) := by kernel_rfl
@[simp] theorem fo123_1 : fieldOf Tryd.prog 123 1 = some (1, 12) := by kernel_rfl
@[simp] theorem fo123_2 : fieldOf Tryd.prog 123 2 = some (2, 101) := by kernel_rfl
@[simp] theorem fo123_3 : fieldOf Tryd.prog 123 3 = some (3, 117) := by kernel_rfl
@[simp] theorem fo123_4 : fieldOf Tryd.prog 123 4 = some (4, 5) := by kernel_rfl
@[simp] theorem fo123_5 : fieldOf Tryd.prog 123 5 = some (5, 5) := by kernel_rfl
@[simp] theorem fo123_6 : fieldOf Tryd.prog 123 6 = some (6, 118) := by kernel_rfl
@[simp] theorem fo123_7 : fieldOf Tryd.prog 123 7 = some (7, 119) := by kernel_rfl
@[simp] theorem fo123_8 : fieldOf Tryd.prog 123 8 = some (8, 120) := by kernel_rfl
@[simp] theorem fo123_9 : fieldOf Tryd.prog 123 9 = some (9, 121) := by kernel_rfl
@[simp] theorem fo123_10 : fieldOf Tryd.prog 123 10 = some (10, 122) := by kernel_rfl
attribute [simp] Tryd.underlying123
@[simp] theorem sz124 : szOf Tryd.prog 124 = some 11 := by kernel_rfl
@[simp] theorem ag124 : aggOf Tryd.prog 124 = some true := by kernel_rfl
@[simp] theorem fo124_0 : fieldOf Tryd.prog 124 0 = some (0, 12) := by kernel_rfl
@[simp] theorem fo124_1 : fieldOf Tryd.prog 124 1 = some (1, 12) := by kernel_rfl
@[simp] theorem fo124_2 : fieldOf Tryd.prog 124 2 = some (2, 101) := by kernel_rfl
@[simp] theorem fo124_3 : fieldOf Tryd.prog 124 3 = some (3, 117) := by kernel_rfl
@[simp] theorem fo124_4 : fieldOf Tryd.prog 124 4 = some (4, 5) := by kernel_rfl
@[simp] theorem fo124_5 : fieldOf Tryd.prog 124 5 = some (5, 5) := by kernel_rfl
@[simp] theorem fo124_6 : fieldOf Tryd.prog 124 6 = some (6, 118) := by kernel_rfl
@[simp] theorem fo124_7 : fieldOf Tryd.prog 124 7 = some (7, 119) := by kernel_rfl
@[simp] theorem fo124_8 : fieldOf Tryd.prog 124 8 = some (8, 120) := by kernel_rfl
@[simp] theorem fo124_9 : fieldOf Tryd.prog 124 9 = some (9, 121) := by kernel_rfl
@[simp] theorem fo124_10 : fieldOf Tryd.prog 124 10 = some (10, 122) := by kernel_rfl
attribute [simp] Tryd.underlying124
@[simp] theorem sz125 : szOf Tryd.prog 125 = some 1 := by kernel_rfl
@[simp] theorem ag125 : aggOf Tryd.prog 125 = some false := by kernel_rfl
attribute [simp] Tryd.underlying125
theorem ok3 : okFn Tryd.f3 = true := by kernel_rfl
theorem ok4 : okFn Tryd.f4 = true := by kernel_rfl
theorem ok5 : okFn Tryd.f5 = true := by kernel_rfl
theorem ok6 : okFn Tryd.f6 = true := by kernel_rfl
theorem ok7 : okFn Tryd.f7 = true := by kernel_rfl
theorem ok8 : okFn Tryd.f8 = true := by kernel_rfl
theorem ok9 : okFn Tryd.f9 = true := by kernel_rfl
theorem ok10 : okFn Tryd.f10 = true := by kernel_rfl
theorem ok11 : okFn Tryd.f11 = true := by kernel_rfl
theorem ok12 : okFn Tryd.f12 = true := by kernel_rfl
theorem ok13 : okFn Tryd.f13 = true := by kernel_rfl
theorem ok14 : okFn Tryd.f14 = true := by kernel_rfl
theorem ok15 : okFn Tryd.f15 = true := by kernel_rfl
theorem ok16 : okFn Tryd.f16 = true := by kernel_rfl
theorem ok17 : okFn Tryd.f17 = true := by kernel_rfl
theorem ok18 : okFn Tryd.f18 = true := by kernel_rfl
theorem ok19 : okFn Tryd.f19 = true := by kernel_rfl
theorem ok20 : okFn Tryd.f20 = true := by kernel_rfl
theorem ok21 : okFn Tryd.f21 = true := by kernel_rfl
theorem ok22 : okFn Tryd.f22 = true := by kernel_rfl
theorem ok23 : okFn Tryd.f23 = true := by kernel_rfl
theorem ok24 : okFn Tryd.f24 = true := by kernel_rfl
theorem ok25 : okFn Tryd.f25 = true := by kernel_rfl
theorem ok26 : okFn Tryd.f26 = true := by kernel_rfl
theorem ok27 : okFn Tryd.f27 = true := by kernel_rfl
theorem ok28 : okFn Tryd.f28 = true := by kernel_rfl
theorem ok29 : okFn Tryd.f29 = true := by kernel_rfl
theorem ok30 : okFn Tryd.f30 = true := by kernel_rfl
theorem ok31 : okFn Tryd.f31 = true := by kernel_rfl
theorem ok32 : okFn Tryd.f32 = true := by kernel_rfl
theorem ok33 : okFn Tryd.f33 = true := by kernel_rfl
theorem ok35 : okFn Tryd.f35 = true := by kernel_rfl
theorem ok36 : okFn Tryd.f36 = true := by kernel_rfl
theorem ok37 : okFn Tryd.f37 = true := by kernel_rfl
theorem ok38 : okFn Tryd.f38 = true := by kernel_rfl
theorem ok39 : okFn Tryd.f39 = true := by kernel_rfl
theorem ok40 : okFn Tryd.f40 = true := by kernel_rfl
theorem ok41 : okFn Tryd.f41 = true := by kernel_rfl
theorem ok42 : okFn Tryd.f42 = true := by kernel_rfl
theorem ok43 : okFn Tryd.f43 = true := by kernel_rfl
theorem ok44 : okFn Tryd.f44 = true := by kernel_rfl
theorem ok45 : okFn Tryd.f45 = true := by kernel_rfl
theorem ok46 : okFn Tryd.f46 = true := by kernel_rfl
theorem ok47 : okFn Tryd.f47 = true := by kernel_rfl
theorem ok48 : okFn Tryd.f48 = true := by kernel_rfl
theorem ok49 : okFn Tryd.f49 = true := by kernel_rfl
theorem ok50 : okFn Tryd.f50 = true := by kernel_rfl
theorem ok54 : okFn Tryd.f54 = true := by kernel_rfl
theorem ok55 : okFn Tryd.f55 = true := by kernel_rfl
theorem ok56 : okFn Tryd.f56 = true := by kernel_rfl
theorem ok57 : okFn Tryd.f57 = true := by kernel_rfl
end Go.Proofs.YtldhfdagmaklaaaDoor.AM
end
section
set_option maxHeartbeats 8000000
set_option linter.unusedVariables false
set_option linter.unusedSimpArgs false

/- alloc.twice answered at once: a list of at most twelve numbers, is one of them twice in it? -/
namespace Go.Proofs.YtldhfdagmaklaaaDoor.AM
open Go Go.Proofs
theorem mixed : Tryd.prog.follows .mixedOrders = true := by kernel_rfl
/-- A cell's number. -/
def intV : Value → Option Int
  | .int .i64 n => some n
  | _ => none
/-- Its answer. -/
noncomputable def twA : CallF := fun f args σ => if f = 34 then match args.toList with
  | [x] => match srcOf Tryd.prog σ 1 22 x with
    | some (n, cs) => if n ≤ 12 then (cs.mapM intV).map fun l => (.bool (TW.twB l), σ) else none
    | none => none
  | _ => none
  else none
noncomputable def prims : CallF := twA
theorem mapM_int : ∀ {cs : List Value} {l : List Int}, cs.mapM intV = some l → l.length = cs.length ∧ ∀ (j : Nat) (v : Value), cs[j]? = some v → v = .int .i64 (l[j]?.getD 0)
  | [], l, h => by
    simp at h; subst h
    exact ⟨rfl, fun j v hv => by simp at hv⟩
  | c :: cs, l, h => by
    rw [List.mapM_cons] at h
    cases hc : intV c with
    | none => rw [hc] at h; simp at h
    | some x =>
      cases hr : cs.mapM intV with
      | none => rw [hc, hr] at h; simp at h
      | some xs =>
        rw [hc, hr] at h
        simp at h; subst h
        obtain ⟨h1, h2⟩ := mapM_int hr
        refine ⟨by simp [h1], fun j v hv => ?_⟩
        cases j with
        | zero =>
          simp at hv; subst hv
          unfold intV at hc
          split at hc
          · cases hc; rfl
          · cases hc
        | succ j =>
          simp at hv
          simpa using h2 j v hv
theorem tw_fin {zs : List Int} {σ : Heap} {w : World} {μ : Mu} {args' : Array Value} (hS : Sim μ σ w.heap) (h : Calls Tryd.prog 34 args' w fun e w' => e = .returned (.bool (TW.twB zs)) ∧ RowKit.Below w.heap.size w w') :
    Calls Tryd.prog 34 args' w fun e w' => ∃ v' μ', e = .returned v' ∧ Val μ' (.bool (TW.twB zs)) v' ∧ Sim μ' σ w'.heap ∧ Fr false μ σ w μ' σ w' := by
  refine Calls.mono h fun e w' ⟨he, hb⟩ => ?_
  exact ⟨_, μ, he, .scal rfl, ⟨fun l b N h => Nat.lt_of_lt_of_le (hS.lt l b N h) hb.size, hS.inj, fun l b N x h1 h2 h3 => by rw [hb.block b (hS.lt l b N h1)]; exact hS.blk l b N x h1 h2 h3, hS.glob⟩, ⟨fun _ _ h => h, fun _ _ _ h => .inl h, fun b hb2 _ => hb.block b hb2, fun h => (by cases h), hb.size, hb.os, hb.tape, hb.output⟩⟩
theorem prims_ok : CallOk Tryd.prog prims := by
  intro f args σ v σ' h
  unfold prims twA at h
  split at h
  case isFalse => cases h
  rename_i hf
  subst hf
  split at h
  case h_2 => cases h
  rename_i x hargs
  split at h
  case h_2 => cases h
  rename_i n cs hsrc
  split at h
  case isFalse => cases h
  rename_i hn
  cases hl : cs.mapM intV with
  | none => rw [hl] at h; cases h
  | some zs =>
    rw [hl] at h
    cases h
    obtain ⟨hzl, hzs⟩ := mapM_int hl
    refine ⟨.inl ⟨_, _, Tryd.func34, rfl, by decide +kernel⟩, .refl _, fun _ args' μ w hv hS _ => ?_⟩
    rw [hargs] at hv
    obtain ⟨hlen, hget⟩ := hv
    obtain ⟨x', hx'⟩ : ∃ x', args' = #[x'] := by
      match hq : args'.toList, hlen with
      | [s1], _ => exact ⟨s1, by rw [← Array.toArray_toList (xs := args'), hq]⟩
    subst hx'
    have hval : Val μ x x' := hget 0 _ x' rfl rfl
    refine tw_fin hS ?_
    unfold srcOf at hsrc
    split at hsrc
    · rename_i e a m c hu
      cases hr : readN σ a (m * 1) with
      | none => rw [hr] at hsrc; cases hsrc
      | some vs =>
        rw [hr] at hsrc
        cases hsrc
        rw [Nat.mul_one] at hr
        rcases hval.sl_inv with ⟨_, h0, a', c', rfl⟩ | ⟨b, N, _, hm, hsl⟩
        · subst h0
          have hv0 : cs = [] := by
            unfold readN at hr
            split at hr
            · split at hr
              · cases hr; simp
              · cases hr
            · cases hr
          subst hv0
          have hz0 : zs = [] := List.eq_nil_of_length_eq_zero (by rw [hzl]; rfl)
          subst hz0
          exact TW.twice_calls _ [] (by simp) w ⟨some a', c', rfl, fun h => absurd rfl h⟩
        · obtain ⟨_, vs', hvl, hvn, hcell, C, el, fr, hblk, hC, hoff⟩ := read_sim hS hm hr
          have hx : ∃ c', x' = .slice (some ⟨b, a.off, none⟩) n c' := by
            rcases hsl with ⟨_, e⟩ | ⟨_, _, c', _, _, _, _, _, _, _, e⟩ <;> exact ⟨_, e⟩
          obtain ⟨c', rfl⟩ := hx
          have hzm : zs.length = n := by rw [hzl, hvn]
          refine TW.twice_calls _ zs (by omega) w ⟨some ⟨b, a.off, none⟩, c', by rw [hzm], fun _ => ⟨b, a.off, rfl, (Array.getElem?_eq_some_iff.1 hblk).1, fun j hj => ?_⟩⟩
          have hjv : j < cs.length := by omega
          obtain ⟨hl1, hl2⟩ := hvl
          have hjv' : j < vs'.length := by omega
          have h1 := hzs j _ (List.getElem?_eq_getElem hjv)
          have h2 := hl2 j _ _ (List.getElem?_eq_getElem hjv) (List.getElem?_eq_getElem hjv')
          rw [h1] at h2
          have h3 := scalar_val (v := .int .i64 (zs[j]?.getD 0)) rfl h2
          have h4 := hcell j _ (List.getElem?_eq_getElem hjv')
          rw [h4, h3]
    · cases hsrc
      have hz0 : zs = [] := List.eq_nil_of_length_eq_zero (by rw [hzl]; rfl)
      subst hz0
      have := scalar_val (v := .slice none 0 0) rfl hval
      subst this
      exact TW.twice_calls _ [] (by simp) w ⟨none, 0, rfl, fun h => absurd rfl h⟩
    · rename_i s hu
      rw [Tryd.underlying22] at hu
      cases hu
    · cases hsrc
end Go.Proofs.YtldhfdagmaklaaaDoor.AM
end
section
set_option maxHeartbeats 8000000
set_option linter.unusedVariables false
set_option linter.unusedSimpArgs false

/- Words of the walks over the abstract machine: this seat's calls whose answer is known. -/
namespace Go.Proofs.YtldhfdagmaklaaaDoor.AM
open Go Go.Proofs
/-- A call that leaves what stands, and answers v. -/
def Ans (f : FuncId) (args : Array Value) (σ : Heap) (v : Value) : Prop := AC Tryd.prog prims f args σ fun u σ' => u = v ∧ ∃ τ, σ' = σ ++ τ
theorem Ans.mk {f : FuncId} {args : Array Value} {σ : Heap} {v : Value} (h : AC Tryd.prog prims f args σ fun u σ' => u = v ∧ ∃ τ, σ' = σ ++ τ) : Ans f args σ v := h
/-- At a call. -/
theorem Ans.call {f : FuncId} {args : Array Value} {σ : Heap} {v : Value} {R : Value → Heap → Prop} (h : Ans f args σ v) (hr : ∀ τ, R v (σ ++ τ)) : @CALL Tryd.prog prims f args σ ⟨R⟩ :=
  CALL.of h fun _ _ ⟨e, τ, e2⟩ => by subst e; subst e2; exact hr τ
theorem ex_app (σ : Heap) (τ : Heap) : ∃ ρ, σ ++ τ = σ ++ ρ := ⟨τ, rfl⟩
theorem ex_nil (σ : Heap) : ∃ ρ : Heap, σ = σ ++ ρ := ⟨[], by simp⟩
@[simp] theorem ex_self (σ : Heap) : (∃ ρ : Heap, σ = σ ++ ρ) ↔ True := ⟨fun _ => trivial, fun _ => ex_nil σ⟩
@[simp] theorem ex_same (σ τ : Heap) : (∃ ρ : Heap, τ = ρ) ↔ True := ⟨fun _ => trivial, fun _ => ⟨τ, rfl⟩⟩
end Go.Proofs.YtldhfdagmaklaaaDoor.AM
end
section
set_option maxHeartbeats 8000000
set_option linter.unusedVariables false
set_option linter.unusedSimpArgs false

/- Words of the walks over the machine of values. -/
namespace Go.Proofs.YtldhfdagmaklaaaDoor.VM
open Go Go.Proofs AM
theorem hC (n : Nat) : CallOk Tryd.prog (acall Tryd.prog prims n) := acall_sound mixed prims_ok n
def noP (f : FuncId) : Bool := f != 34
theorem kn_none {f : FuncId} {xs : Array Value} {σ : Heap} (h : noP f = true) : prims f xs σ = none := by
  unfold noP at h
  simp only [bne_iff_ne, ne_eq] at h
  unfold prims twA
  rw [if_neg h]
theorem prims_tw (us : Array Value) (σ : Heap) : prims 34 us σ = twA 34 us σ := rfl
theorem w64 {n : Int} (h : -9223372036854775808 ≤ n ∧ n ≤ 9223372036854775807) : IntKind.i64.wrap n = n := IntWalk.i64_in n h
abbrev A (f : FuncId) (args : List V) (v : V) : Prop := Ans Tryd.prog prims f args v
abbrev AO (f : FuncId) (args : List V) (s : Nat) (rows : List (List V)) : Prop := AnsO Tryd.prog prims f args s rows
abbrev AK (f : FuncId) (args : List V) (v : Nat → V) (y : Ob) : Prop := AnsK Tryd.prog prims f args v y
def bo (b : Bool) : V := .lit (.bool b)
def i6 (n : Int) : V := .lit (.int .i64 n)
@[simp] theorem take_map_len {α β : Type} {f : α → β} {l : List α} : (l.map f).take l.length = l.map f := List.take_of_length_le (by simp)
attribute [simp] bo i6
end Go.Proofs.YtldhfdagmaklaaaDoor.VM
end
