/- What the proof of CommandReads rests on, part 5 of 7. -/
import Derived.Test.YtenbclcfhjdcaaaDoorCommandReadsP4
import Derived.Test.YtenbclcfhjdcaaaDoorCommandReadsS
import Derived.KernelRfl
import Derived.Test.YtenbclcfhjdcaaaDoorProg
section
set_option maxHeartbeats 8000000
set_option linter.unusedVariables false
set_option linter.unusedSimpArgs false
/- What is asked of the seat's types and functions. -/
namespace Go.Proofs.YtenbclcfhjdcaaaDoor.AM
open Go Go.Proofs
attribute [simp] Instr.fill
@[simp] theorem sz2 : szOf Tryd.prog 2 = some 1 := by kernel_rfl
@[simp] theorem ag2 : aggOf Tryd.prog 2 = some false := by kernel_rfl
@[simp] theorem zv2 : zeroOf Tryd.prog 2 = some (.int .i64 0) := by kernel_rfl
@[simp low] theorem zn2 (n : Nat) : zerosOf Tryd.prog 2 n = some (List.replicate n [.int .i64 0]).flatten := by kernel_rfl
@[simp] theorem ze2 : zerosOf Tryd.prog 2 1 = some [.int .i64 0] := by kernel_rfl
@[simp] theorem by2 : byOf Tryd.prog 2 = some 8 := by kernel_rfl
attribute [simp] Tryd.underlying2
@[simp] theorem sz3 : szOf Tryd.prog 3 = some 1 := by kernel_rfl
@[simp] theorem ag3 : aggOf Tryd.prog 3 = some false := by kernel_rfl
@[simp] theorem zv3 : zeroOf Tryd.prog 3 = some (.int .i64 0) := by kernel_rfl
@[simp low] theorem zn3 (n : Nat) : zerosOf Tryd.prog 3 n = some (List.replicate n [.int .i64 0]).flatten := by kernel_rfl
@[simp] theorem ze3 : zerosOf Tryd.prog 3 1 = some [.int .i64 0] := by kernel_rfl
@[simp] theorem by3 : byOf Tryd.prog 3 = some 8 := by kernel_rfl
attribute [simp] Tryd.underlying3
@[simp] theorem sz4 : szOf Tryd.prog 4 = some 1 := by kernel_rfl
@[simp] theorem ag4 : aggOf Tryd.prog 4 = some false := by kernel_rfl
@[simp] theorem zv4 : zeroOf Tryd.prog 4 = some (.bool false) := by kernel_rfl
@[simp low] theorem zn4 (n : Nat) : zerosOf Tryd.prog 4 n = some (List.replicate n [.bool false]).flatten := by kernel_rfl
@[simp] theorem ze4 : zerosOf Tryd.prog 4 1 = some [.bool false] := by kernel_rfl
@[simp] theorem by4 : byOf Tryd.prog 4 = some 1 := by kernel_rfl
attribute [simp] Tryd.underlying4
@[simp] theorem sz5 : szOf Tryd.prog 5 = some 1 := by kernel_rfl
@[simp] theorem ag5 : aggOf Tryd.prog 5 = some false := by kernel_rfl
@[simp] theorem zv5 : zeroOf Tryd.prog 5 = some (.int .u8 0) := by kernel_rfl
@[simp low] theorem zn5 (n : Nat) : zerosOf Tryd.prog 5 n = some (List.replicate n [.int .u8 0]).flatten := by kernel_rfl
@[simp] theorem ze5 : zerosOf Tryd.prog 5 1 = some [.int .u8 0] := by kernel_rfl
@[simp] theorem by5 : byOf Tryd.prog 5 = some 1 := by kernel_rfl
attribute [simp] Tryd.underlying5
@[simp] theorem sz6 : szOf Tryd.prog 6 = some 1 := by kernel_rfl
@[simp] theorem ag6 : aggOf Tryd.prog 6 = some false := by kernel_rfl
@[simp] theorem zv6 : zeroOf Tryd.prog 6 = some (.int .u8 0) := by kernel_rfl
@[simp low] theorem zn6 (n : Nat) : zerosOf Tryd.prog 6 n = some (List.replicate n [.int .u8 0]).flatten := by kernel_rfl
@[simp] theorem ze6 : zerosOf Tryd.prog 6 1 = some [.int .u8 0] := by kernel_rfl
@[simp] theorem by6 : byOf Tryd.prog 6 = some 1 := by kernel_rfl
attribute [simp] Tryd.underlying6
@[simp] theorem sz7 : szOf Tryd.prog 7 = some 4 := by kernel_rfl
@[simp] theorem ag7 : aggOf Tryd.prog 7 = some true := by kernel_rfl
@[simp] theorem zv7 : zeroOf Tryd.prog 7 = some (.agg #[.int .i64 0, .int .i64 0, .bool false, .int .u8 0]) := by kernel_rfl
@[simp low] theorem zn7 (n : Nat) : zerosOf Tryd.prog 7 n = some (List.replicate n [.int .i64 0, .int .i64 0, .bool false, .int .u8 0]).flatten := by kernel_rfl
@[simp] theorem ze7 : zerosOf Tryd.prog 7 1 = some [.int .i64 0, .int .i64 0, .bool false, .int .u8 0] := by kernel_rfl
@[simp] theorem pl7 : placesOf Tryd.prog 7 = some [(0, 1), (1, 1), (2, 1), (3, 1)] := by kernel_rfl
@[simp] theorem bu7 (ps : Array (Nat × Value)) : buildV Tryd.prog 7 ps = if (ps.all fun (_, x) => !junkB x) = true then (Instr.fill (fun x => [(0, 1), (1, 1), (2, 1), (3, 1)].toArray[x]?) #[.int .i64 0, .int .i64 0, .bool false, .int .u8 0] ps.toList).map fun cs => .agg cs else none := buildV_struct zv7 (by kernel_rfl) (by kernel_rfl)
@[simp] theorem by7 : byOf Tryd.prog 7 = some 24 := by kernel_rfl
@[simp] theorem fo7_0 : fieldOf Tryd.prog 7 0 = some (0, 2) := by kernel_rfl
@[simp] theorem fo7_1 : fieldOf Tryd.prog 7 1 = some (1, 3) := by kernel_rfl
@[simp] theorem fo7_2 : fieldOf Tryd.prog 7 2 = some (2, 4) := by kernel_rfl
@[simp] theorem fo7_3 : fieldOf Tryd.prog 7 3 = some (3, 6) := by kernel_rfl
attribute [simp] Tryd.underlying7
@[simp] theorem sz8 : szOf Tryd.prog 8 = some 4 := by kernel_rfl
@[simp] theorem ag8 : aggOf Tryd.prog 8 = some true := by kernel_rfl
@[simp] theorem zv8 : zeroOf Tryd.prog 8 = some (.agg #[.int .i64 0, .int .i64 0, .bool false, .int .u8 0]) := by kernel_rfl
@[simp low] theorem zn8 (n : Nat) : zerosOf Tryd.prog 8 n = some (List.replicate n [.int .i64 0, .int .i64 0, .bool false, .int .u8 0]).flatten := by kernel_rfl
@[simp] theorem ze8 : zerosOf Tryd.prog 8 1 = some [.int .i64 0, .int .i64 0, .bool false, .int .u8 0] := by kernel_rfl
@[simp] theorem pl8 : placesOf Tryd.prog 8 = some [(0, 1), (1, 1), (2, 1), (3, 1)] := by kernel_rfl
@[simp] theorem bu8 (ps : Array (Nat × Value)) : buildV Tryd.prog 8 ps = if (ps.all fun (_, x) => !junkB x) = true then (Instr.fill (fun x => [(0, 1), (1, 1), (2, 1), (3, 1)].toArray[x]?) #[.int .i64 0, .int .i64 0, .bool false, .int .u8 0] ps.toList).map fun cs => .agg cs else none := buildV_struct zv8 (by kernel_rfl) (by kernel_rfl)
@[simp] theorem by8 : byOf Tryd.prog 8 = some 24 := by kernel_rfl
@[simp] theorem fo8_0 : fieldOf Tryd.prog 8 0 = some (0, 2) := by kernel_rfl
@[simp] theorem fo8_1 : fieldOf Tryd.prog 8 1 = some (1, 3) := by kernel_rfl
@[simp] theorem fo8_2 : fieldOf Tryd.prog 8 2 = some (2, 4) := by kernel_rfl
@[simp] theorem fo8_3 : fieldOf Tryd.prog 8 3 = some (3, 6) := by kernel_rfl
attribute [simp] Tryd.underlying8
@[simp] theorem sz9 : szOf Tryd.prog 9 = some 1 := by kernel_rfl
@[simp] theorem ag9 : aggOf Tryd.prog 9 = some false := by kernel_rfl
@[simp] theorem zv9 : zeroOf Tryd.prog 9 = some (.string ⟨#[]⟩) := by kernel_rfl
@[simp low] theorem zn9 (n : Nat) : zerosOf Tryd.prog 9 n = some (List.replicate n [.string ⟨#[]⟩]).flatten := by kernel_rfl
@[simp] theorem ze9 : zerosOf Tryd.prog 9 1 = some [.string ⟨#[]⟩] := by kernel_rfl
@[simp] theorem by9 : byOf Tryd.prog 9 = some 16 := by kernel_rfl
attribute [simp] Tryd.underlying9
@[simp] theorem sz10 : szOf Tryd.prog 10 = some 1 := by kernel_rfl
@[simp] theorem ag10 : aggOf Tryd.prog 10 = some false := by kernel_rfl
@[simp] theorem zv10 : zeroOf Tryd.prog 10 = some (.string ⟨#[]⟩) := by kernel_rfl
@[simp low] theorem zn10 (n : Nat) : zerosOf Tryd.prog 10 n = some (List.replicate n [.string ⟨#[]⟩]).flatten := by kernel_rfl
@[simp] theorem ze10 : zerosOf Tryd.prog 10 1 = some [.string ⟨#[]⟩] := by kernel_rfl
@[simp] theorem by10 : byOf Tryd.prog 10 = some 16 := by kernel_rfl
attribute [simp] Tryd.underlying10
@[simp] theorem sz11 : szOf Tryd.prog 11 = some 1 := by kernel_rfl
@[simp] theorem ag11 : aggOf Tryd.prog 11 = some false := by kernel_rfl
@[simp] theorem zv11 : zeroOf Tryd.prog 11 = some (.string ⟨#[]⟩) := by kernel_rfl
@[simp low] theorem zn11 (n : Nat) : zerosOf Tryd.prog 11 n = some (List.replicate n [.string ⟨#[]⟩]).flatten := by kernel_rfl
@[simp] theorem ze11 : zerosOf Tryd.prog 11 1 = some [.string ⟨#[]⟩] := by kernel_rfl
@[simp] theorem by11 : byOf Tryd.prog 11 = some 16 := by kernel_rfl
attribute [simp] Tryd.underlying11
@[simp] theorem sz12 : szOf Tryd.prog 12 = some 1 := by kernel_rfl
@[simp] theorem ag12 : aggOf Tryd.prog 12 = some false := by kernel_rfl
@[simp] theorem zv12 : zeroOf Tryd.prog 12 = some (.int .u64 0) := by kernel_rfl
@[simp low] theorem zn12 (n : Nat) : zerosOf Tryd.prog 12 n = some (List.replicate n [.int .u64 0]).flatten := by kernel_rfl
@[simp] theorem ze12 : zerosOf Tryd.prog 12 1 = some [.int .u64 0] := by kernel_rfl
@[simp] theorem by12 : byOf Tryd.prog 12 = some 8 := by kernel_rfl
attribute [simp] Tryd.underlying12
@[simp] theorem sz13 : szOf Tryd.prog 13 = some 2 := by kernel_rfl
@[simp] theorem ag13 : aggOf Tryd.prog 13 = some true := by kernel_rfl
@[simp] theorem zv13 : zeroOf Tryd.prog 13 = some (.agg #[.string ⟨#[]⟩, .int .u64 0]) := by kernel_rfl
@[simp low] theorem zn13 (n : Nat) : zerosOf Tryd.prog 13 n = some (List.replicate n [.string ⟨#[]⟩, .int .u64 0]).flatten := by kernel_rfl
@[simp] theorem ze13 : zerosOf Tryd.prog 13 1 = some [.string ⟨#[]⟩, .int .u64 0] := by kernel_rfl
@[simp] theorem pl13 : placesOf Tryd.prog 13 = some [(0, 1), (1, 1)] := by kernel_rfl
@[simp] theorem bu13 (ps : Array (Nat × Value)) : buildV Tryd.prog 13 ps = if (ps.all fun (_, x) => !junkB x) = true then (Instr.fill (fun x => [(0, 1), (1, 1)].toArray[x]?) #[.string ⟨#[]⟩, .int .u64 0] ps.toList).map fun cs => .agg cs else none := buildV_struct zv13 (by kernel_rfl) (by kernel_rfl)
@[simp] theorem by13 : byOf Tryd.prog 13 = some 24 := by kernel_rfl
@[simp] theorem fo13_0 : fieldOf Tryd.prog 13 0 = some (0, 9) := by kernel_rfl
@[simp] theorem fo13_1 : fieldOf Tryd.prog 13 1 = some (1, 12) := by kernel_rfl
attribute [simp] Tryd.underlying13
@[simp] theorem sz14 : szOf Tryd.prog 14 = some 2 := by kernel_rfl
@[simp] theorem ag14 : aggOf Tryd.prog 14 = some true := by kernel_rfl
@[simp] theorem zv14 : zeroOf Tryd.prog 14 = some (.agg #[.string ⟨#[]⟩, .int .u64 0]) := by kernel_rfl
@[simp low] theorem zn14 (n : Nat) : zerosOf Tryd.prog 14 n = some (List.replicate n [.string ⟨#[]⟩, .int .u64 0]).flatten := by kernel_rfl
@[simp] theorem ze14 : zerosOf Tryd.prog 14 1 = some [.string ⟨#[]⟩, .int .u64 0] := by kernel_rfl
@[simp] theorem pl14 : placesOf Tryd.prog 14 = some [(0, 1), (1, 1)] := by kernel_rfl
@[simp] theorem bu14 (ps : Array (Nat × Value)) : buildV Tryd.prog 14 ps = if (ps.all fun (_, x) => !junkB x) = true then (Instr.fill (fun x => [(0, 1), (1, 1)].toArray[x]?) #[.string ⟨#[]⟩, .int .u64 0] ps.toList).map fun cs => .agg cs else none := buildV_struct zv14 (by kernel_rfl) (by kernel_rfl)
@[simp] theorem by14 : byOf Tryd.prog 14 = some 24 := by kernel_rfl
@[simp] theorem fo14_0 : fieldOf Tryd.prog 14 0 = some (0, 9) := by kernel_rfl
@[simp] theorem fo14_1 : fieldOf Tryd.prog 14 1 = some (1, 12) := by kernel_rfl
attribute [simp] Tryd.underlying14
@[simp] theorem sz15 : szOf Tryd.prog 15 = some 1 := by kernel_rfl
@[simp] theorem ag15 : aggOf Tryd.prog 15 = some false := by kernel_rfl
@[simp] theorem zv15 : zeroOf Tryd.prog 15 = some (.pointer none) := by kernel_rfl
@[simp low] theorem zn15 (n : Nat) : zerosOf Tryd.prog 15 n = some (List.replicate n [.pointer none]).flatten := by kernel_rfl
@[simp] theorem ze15 : zerosOf Tryd.prog 15 1 = some [.pointer none] := by kernel_rfl
@[simp] theorem by15 : byOf Tryd.prog 15 = some 8 := by kernel_rfl
attribute [simp] Tryd.underlying15
@[simp] theorem sz16 : szOf Tryd.prog 16 = some 1 := by kernel_rfl
@[simp] theorem ag16 : aggOf Tryd.prog 16 = some false := by kernel_rfl
@[simp] theorem zv16 : zeroOf Tryd.prog 16 = some (.pointer none) := by kernel_rfl
@[simp low] theorem zn16 (n : Nat) : zerosOf Tryd.prog 16 n = some (List.replicate n [.pointer none]).flatten := by kernel_rfl
@[simp] theorem ze16 : zerosOf Tryd.prog 16 1 = some [.pointer none] := by kernel_rfl
@[simp] theorem by16 : byOf Tryd.prog 16 = some 8 := by kernel_rfl
attribute [simp] Tryd.underlying16
@[simp] theorem sz17 : szOf Tryd.prog 17 = some 1 := by kernel_rfl
@[simp] theorem ag17 : aggOf Tryd.prog 17 = some false := by kernel_rfl
@[simp] theorem zv17 : zeroOf Tryd.prog 17 = some (.pointer none) := by kernel_rfl
@[simp low] theorem zn17 (n : Nat) : zerosOf Tryd.prog 17 n = some (List.replicate n [.pointer none]).flatten := by kernel_rfl
@[simp] theorem ze17 : zerosOf Tryd.prog 17 1 = some [.pointer none] := by kernel_rfl
@[simp] theorem by17 : byOf Tryd.prog 17 = some 8 := by kernel_rfl
attribute [simp] Tryd.underlying17
@[simp] theorem sz18 : szOf Tryd.prog 18 = some 1 := by kernel_rfl
@[simp] theorem ag18 : aggOf Tryd.prog 18 = some true := by kernel_rfl
@[simp] theorem zv18 : zeroOf Tryd.prog 18 = some (.agg #[.pointer none]) := by kernel_rfl
@[simp low] theorem zn18 (n : Nat) : zerosOf Tryd.prog 18 n = some (List.replicate n [.pointer none]).flatten := by kernel_rfl
@[simp] theorem ze18 : zerosOf Tryd.prog 18 1 = some [.pointer none] := by kernel_rfl
@[simp] theorem pl18 : placesOf Tryd.prog 18 = some [(0, 1)] := by kernel_rfl
@[simp] theorem bu18 (ps : Array (Nat × Value)) : buildV Tryd.prog 18 ps = if (ps.all fun (_, x) => !junkB x) = true then (Instr.fill (fun x => [(0, 1)].toArray[x]?) #[.pointer none] ps.toList).map fun cs => .agg cs else none := buildV_struct zv18 (by kernel_rfl) (by kernel_rfl)
@[simp] theorem by18 : byOf Tryd.prog 18 = some 8 := by kernel_rfl
@[simp] theorem fo18_0 : fieldOf Tryd.prog 18 0 = some (0, 17) := by kernel_rfl
attribute [simp] Tryd.underlying18
@[simp] theorem sz19 : szOf Tryd.prog 19 = some 1 := by kernel_rfl
@[simp] theorem ag19 : aggOf Tryd.prog 19 = some true := by kernel_rfl
@[simp] theorem zv19 : zeroOf Tryd.prog 19 = some (.agg #[.pointer none]) := by kernel_rfl
@[simp low] theorem zn19 (n : Nat) : zerosOf Tryd.prog 19 n = some (List.replicate n [.pointer none]).flatten := by kernel_rfl
@[simp] theorem ze19 : zerosOf Tryd.prog 19 1 = some [.pointer none] := by kernel_rfl
@[simp] theorem pl19 : placesOf Tryd.prog 19 = some [(0, 1)] := by kernel_rfl
@[simp] theorem bu19 (ps : Array (Nat × Value)) : buildV Tryd.prog 19 ps = if (ps.all fun (_, x) => !junkB x) = true then (Instr.fill (fun x => [(0, 1)].toArray[x]?) #[.pointer none] ps.toList).map fun cs => .agg cs else none := buildV_struct zv19 (by kernel_rfl) (by kernel_rfl)
@[simp] theorem by19 : byOf Tryd.prog 19 = some 8 := by kernel_rfl
@[simp] theorem fo19_0 : fieldOf Tryd.prog 19 0 = some (0, 17) := by kernel_rfl
attribute [simp] Tryd.underlying19
@[simp] theorem sz21 : szOf Tryd.prog 21 = some 1 := by kernel_rfl
@[simp] theorem ag21 : aggOf Tryd.prog 21 = some false := by kernel_rfl
@[simp] theorem zv21 : zeroOf Tryd.prog 21 = some (.int .i32 0) := by kernel_rfl
@[simp low] theorem zn21 (n : Nat) : zerosOf Tryd.prog 21 n = some (List.replicate n [.int .i32 0]).flatten := by kernel_rfl
@[simp] theorem ze21 : zerosOf Tryd.prog 21 1 = some [.int .i32 0] := by kernel_rfl
@[simp] theorem by21 : byOf Tryd.prog 21 = some 4 := by kernel_rfl
attribute [simp] Tryd.underlying21
@[simp] theorem sz22 : szOf Tryd.prog 22 = some 1 := by kernel_rfl
@[simp] theorem ag22 : aggOf Tryd.prog 22 = some false := by kernel_rfl
@[simp] theorem zv22 : zeroOf Tryd.prog 22 = some (.slice none 0 0) := by kernel_rfl
@[simp low] theorem zn22 (n : Nat) : zerosOf Tryd.prog 22 n = some (List.replicate n [.slice none 0 0]).flatten := by kernel_rfl
@[simp] theorem ze22 : zerosOf Tryd.prog 22 1 = some [.slice none 0 0] := by kernel_rfl
@[simp] theorem by22 : byOf Tryd.prog 22 = some 24 := by kernel_rfl
attribute [simp] Tryd.underlying22
@[simp] theorem sz23 : szOf Tryd.prog 23 = some 1 := by kernel_rfl
@[simp] theorem ag23 : aggOf Tryd.prog 23 = some false := by kernel_rfl
@[simp] theorem zv23 : zeroOf Tryd.prog 23 = some (.pointer none) := by kernel_rfl
@[simp low] theorem zn23 (n : Nat) : zerosOf Tryd.prog 23 n = some (List.replicate n [.pointer none]).flatten := by kernel_rfl
@[simp] theorem ze23 : zerosOf Tryd.prog 23 1 = some [.pointer none] := by kernel_rfl
@[simp] theorem by23 : byOf Tryd.prog 23 = some 8 := by kernel_rfl
attribute [simp] Tryd.underlying23
@[simp] theorem sz24 : szOf Tryd.prog 24 = some 1 := by kernel_rfl
@[simp] theorem ag24 : aggOf Tryd.prog 24 = some false := by kernel_rfl
@[simp] theorem zv24 : zeroOf Tryd.prog 24 = some (.int .i64 0) := by kernel_rfl
@[simp low] theorem zn24 (n : Nat) : zerosOf Tryd.prog 24 n = some (List.replicate n [.int .i64 0]).flatten := by kernel_rfl
@[simp] theorem ze24 : zerosOf Tryd.prog 24 1 = some [.int .i64 0] := by kernel_rfl
@[simp] theorem by24 : byOf Tryd.prog 24 = some 8 := by kernel_rfl
attribute [simp] Tryd.underlying24
@[simp] theorem sz29 : szOf Tryd.prog 29 = some 1 := by kernel_rfl
@[simp] theorem ag29 : aggOf Tryd.prog 29 = some false := by kernel_rfl
@[simp] theorem zv29 : zeroOf Tryd.prog 29 = some (.slice none 0 0) := by kernel_rfl
@[simp low] theorem zn29 (n : Nat) : zerosOf Tryd.prog 29 n = some (List.replicate n [.slice none 0 0]).flatten := by kernel_rfl
@[simp] theorem ze29 : zerosOf Tryd.prog 29 1 = some [.slice none 0 0] := by kernel_rfl
@[simp] theorem by29 : byOf Tryd.prog 29 = some 24 := by kernel_rfl
attribute [simp] Tryd.underlying29
@[simp] theorem sz30 : szOf Tryd.prog 30 = some 1 := by kernel_rfl
@[simp] theorem ag30 : aggOf Tryd.prog 30 = some false := by kernel_rfl
@[simp] theorem zv30 : zeroOf Tryd.prog 30 = some (.slice none 0 0) := by kernel_rfl
@[simp low] theorem zn30 (n : Nat) : zerosOf Tryd.prog 30 n = some (List.replicate n [.slice none 0 0]).flatten := by kernel_rfl
@[simp] theorem ze30 : zerosOf Tryd.prog 30 1 = some [.slice none 0 0] := by kernel_rfl
@[simp] theorem by30 : byOf Tryd.prog 30 = some 24 := by kernel_rfl
attribute [simp] Tryd.underlying30
@[simp] theorem sz32 : szOf Tryd.prog 32 = some 1 := by kernel_rfl
@[simp] theorem ag32 : aggOf Tryd.prog 32 = some false := by kernel_rfl
@[simp] theorem zv32 : zeroOf Tryd.prog 32 = some (.slice none 0 0) := by kernel_rfl
@[simp low] theorem zn32 (n : Nat) : zerosOf Tryd.prog 32 n = some (List.replicate n [.slice none 0 0]).flatten := by kernel_rfl
@[simp] theorem ze32 : zerosOf Tryd.prog 32 1 = some [.slice none 0 0] := by kernel_rfl
@[simp] theorem by32 : byOf Tryd.prog 32 = some 24 := by kernel_rfl
attribute [simp] Tryd.underlying32
@[simp] theorem sz33 : szOf Tryd.prog 33 = some 2 := by kernel_rfl
@[simp] theorem ag33 : aggOf Tryd.prog 33 = some true := by kernel_rfl
@[simp] theorem zv33 : zeroOf Tryd.prog 33 = some (.agg #[.int .i64 0, .slice none 0 0]) := by kernel_rfl
@[simp low] theorem zn33 (n : Nat) : zerosOf Tryd.prog 33 n = some (List.replicate n [.int .i64 0, .slice none 0 0]).flatten := by kernel_rfl
@[simp] theorem ze33 : zerosOf Tryd.prog 33 1 = some [.int .i64 0, .slice none 0 0] := by kernel_rfl
@[simp] theorem pl33 : placesOf Tryd.prog 33 = some [(0, 1), (1, 1)] := by kernel_rfl
@[simp] theorem bu33 (ps : Array (Nat × Value)) : buildV Tryd.prog 33 ps = if (ps.all fun (_, x) => !junkB x) = true then (Instr.fill (fun x => [(0, 1), (1, 1)].toArray[x]?) #[.int .i64 0, .slice none 0 0] ps.toList).map fun cs => .agg cs else none := buildV_struct zv33 (by kernel_rfl) (by kernel_rfl)
@[simp] theorem by33 : byOf Tryd.prog 33 = some 32 := by kernel_rfl
@[simp] theorem fo33_0 : fieldOf Tryd.prog 33 0 = some (0, 3) := by kernel_rfl
@[simp] theorem fo33_1 : fieldOf Tryd.prog 33 1 = some (1, 32) := by kernel_rfl
attribute [simp] Tryd.underlying33
@[simp] theorem sz34 : szOf Tryd.prog 34 = some 2 := by kernel_rfl
@[simp] theorem ag34 : aggOf Tryd.prog 34 = some true := by kernel_rfl
@[simp] theorem zv34 : zeroOf Tryd.prog 34 = some (.agg #[.int .i64 0, .slice none 0 0]) := by kernel_rfl
@[simp low] theorem zn34 (n : Nat) : zerosOf Tryd.prog 34 n = some (List.replicate n [.int .i64 0, .slice none 0 0]).flatten := by kernel_rfl
@[simp] theorem ze34 : zerosOf Tryd.prog 34 1 = some [.int .i64 0, .slice none 0 0] := by kernel_rfl
@[simp] theorem pl34 : placesOf Tryd.prog 34 = some [(0, 1), (1, 1)] := by kernel_rfl
@[simp] theorem bu34 (ps : Array (Nat × Value)) : buildV Tryd.prog 34 ps = if (ps.all fun (_, x) => !junkB x) = true then (Instr.fill (fun x => [(0, 1), (1, 1)].toArray[x]?) #[.int .i64 0, .slice none 0 0] ps.toList).map fun cs => .agg cs else none := buildV_struct zv34 (by kernel_rfl) (by kernel_rfl)
@[simp] theorem by34 : byOf Tryd.prog 34 = some 32 := by kernel_rfl
@[simp] theorem fo34_0 : fieldOf Tryd.prog 34 0 = some (0, 3) := by kernel_rfl
@[simp] theorem fo34_1 : fieldOf Tryd.prog 34 1 = some (1, 32) := by kernel_rfl
attribute [simp] Tryd.underlying34
@[simp] theorem sz39 : szOf Tryd.prog 39 = some 1 := by kernel_rfl
@[simp] theorem ag39 : aggOf Tryd.prog 39 = some false := by kernel_rfl
@[simp] theorem zv39 : zeroOf Tryd.prog 39 = some (.slice none 0 0) := by kernel_rfl
@[simp low] theorem zn39 (n : Nat) : zerosOf Tryd.prog 39 n = some (List.replicate n [.slice none 0 0]).flatten := by kernel_rfl
@[simp] theorem ze39 : zerosOf Tryd.prog 39 1 = some [.slice none 0 0] := by kernel_rfl
@[simp] theorem by39 : byOf Tryd.prog 39 = some 24 := by kernel_rfl
attribute [simp] Tryd.underlying39
@[simp] theorem sz44 : szOf Tryd.prog 44 = some 1 := by kernel_rfl
@[simp] theorem ag44 : aggOf Tryd.prog 44 = some false := by kernel_rfl
@[simp] theorem zv44 : zeroOf Tryd.prog 44 = some (.int .u64 0) := by kernel_rfl
@[simp low] theorem zn44 (n : Nat) : zerosOf Tryd.prog 44 n = some (List.replicate n [.int .u64 0]).flatten := by kernel_rfl
@[simp] theorem ze44 : zerosOf Tryd.prog 44 1 = some [.int .u64 0] := by kernel_rfl
@[simp] theorem by44 : byOf Tryd.prog 44 = some 8 := by kernel_rfl
attribute [simp] Tryd.underlying44
@[simp] theorem sz54 : szOf Tryd.prog 54 = some 1 := by kernel_rfl
@[simp] theorem ag54 : aggOf Tryd.prog 54 = some false := by kernel_rfl
@[simp] theorem zv54 : zeroOf Tryd.prog 54 = some (.slice none 0 0) := by kernel_rfl
@[simp low] theorem zn54 (n : Nat) : zerosOf Tryd.prog 54 n = some (List.replicate n [.slice none 0 0]).flatten := by kernel_rfl
@[simp] theorem ze54 : zerosOf Tryd.prog 54 1 = some [.slice none 0 0] := by kernel_rfl
@[simp] theorem by54 : byOf Tryd.prog 54 = some 24 := by kernel_rfl
attribute [simp] Tryd.underlying54
@[simp] theorem sz57 : szOf Tryd.prog 57 = some 5 := by kernel_rfl
@[simp] theorem ag57 : aggOf Tryd.prog 57 = some true := by kernel_rfl
@[simp] theorem zv57 : zeroOf Tryd.prog 57 = some (.agg #[.int .i64 0, .int .i64 0, .int .i64 0, .int .i64 0, .slice none 0 0]) := by kernel_rfl
@[simp low] theorem zn57 (n : Nat) : zerosOf Tryd.prog 57 n = some (List.replicate n [.int .i64 0, .int .i64 0, .int .i64 0, .int .i64 0, .slice none 0 0]).flatten := by kernel_rfl
@[simp] theorem ze57 : zerosOf Tryd.prog 57 1 = some [.int .i64 0, .int .i64 0, .int .i64 0, .int .i64 0, .slice none 0 0] := by kernel_rfl
@[simp] theorem pl57 : placesOf Tryd.prog 57 = some [(0, 1), (1, 1), (2, 1), (3, 1), (4, 1)] := by kernel_rfl
@[simp] theorem bu57 (ps : Array (Nat × Value)) : buildV Tryd.prog 57 ps = if (ps.all fun (_, x) => !junkB x) = true then (Instr.fill (fun x => [(0, 1), (1, 1), (2, 1), (3, 1), (4, 1)].toArray[x]?) #[.int .i64 0, .int .i64 0, .int .i64 0, .int .i64 0, .slice none 0 0] ps.toList).map fun cs => .agg cs else none := buildV_struct zv57 (by kernel_rfl) (by kernel_rfl)
@[simp] theorem by57 : byOf Tryd.prog 57 = some 56 := by kernel_rfl
@[simp] theorem fo57_0 : fieldOf Tryd.prog 57 0 = some (0, 3) := by kernel_rfl
@[simp] theorem fo57_1 : fieldOf Tryd.prog 57 1 = some (1, 3) := by kernel_rfl
@[simp] theorem fo57_2 : fieldOf Tryd.prog 57 2 = some (2, 3) := by kernel_rfl
@[simp] theorem fo57_3 : fieldOf Tryd.prog 57 3 = some (3, 3) := by kernel_rfl
@[simp] theorem fo57_4 : fieldOf Tryd.prog 57 4 = some (4, 39) := by kernel_rfl
attribute [simp] Tryd.underlying57
@[simp] theorem sz58 : szOf Tryd.prog 58 = some 5 := by kernel_rfl
@[simp] theorem ag58 : aggOf Tryd.prog 58 = some true := by kernel_rfl
@[simp] theorem zv58 : zeroOf Tryd.prog 58 = some (.agg #[.int .i64 0, .int .i64 0, .int .i64 0, .int .i64 0, .slice none 0 0]) := by kernel_rfl
@[simp low] theorem zn58 (n : Nat) : zerosOf Tryd.prog 58 n = some (List.replicate n [.int .i64 0, .int .i64 0, .int .i64 0, .int .i64 0, .slice none 0 0]).flatten := by kernel_rfl
@[simp] theorem ze58 : zerosOf Tryd.prog 58 1 = some [.int .i64 0, .int .i64 0, .int .i64 0, .int .i64 0, .slice none 0 0] := by kernel_rfl
@[simp] theorem pl58 : placesOf Tryd.prog 58 = some [(0, 1), (1, 1), (2, 1), (3, 1), (4, 1)] := by kernel_rfl
@[simp] theorem bu58 (ps : Array (Nat × Value)) : buildV Tryd.prog 58 ps = if (ps.all fun (_, x) => !junkB x) = true then (Instr.fill (fun x => [(0, 1), (1, 1), (2, 1), (3, 1), (4, 1)].toArray[x]?) #[.int .i64 0, .int .i64 0, .int .i64 0, .int .i64 0, .slice none 0 0] ps.toList).map fun cs => .agg cs else none := buildV_struct zv58 (by kernel_rfl) (by kernel_rfl)
@[simp] theorem by58 : byOf Tryd.prog 58 = some 56 := by kernel_rfl
@[simp] theorem fo58_0 : fieldOf Tryd.prog 58 0 = some (0, 3) := by kernel_rfl
@[simp] theorem fo58_1 : fieldOf Tryd.prog 58 1 = some (1, 3) := by kernel_rfl
@[simp] theorem fo58_2 : fieldOf Tryd.prog 58 2 = some (2, 3) := by kernel_rfl
@[simp] theorem fo58_3 : fieldOf Tryd.prog 58 3 = some (3, 3) := by kernel_rfl
@[simp] theorem fo58_4 : fieldOf Tryd.prog 58 4 = some (4, 39) := by kernel_rfl
attribute [simp] Tryd.underlying58
@[simp] theorem sz59 : szOf Tryd.prog 59 = some 5 := by kernel_rfl
@[simp] theorem ag59 : aggOf Tryd.prog 59 = some true := by kernel_rfl
@[simp] theorem zv59 : zeroOf Tryd.prog 59 = some (.agg #[.int .i64 0, .int .i64 0, .int .i64 0, .int .i64 0, .slice none 0 0]) := by kernel_rfl
@[simp low] theorem zn59 (n : Nat) : zerosOf Tryd.prog 59 n = some (List.replicate n [.int .i64 0, .int .i64 0, .int .i64 0, .int .i64 0, .slice none 0 0]).flatten := by kernel_rfl
@[simp] theorem ze59 : zerosOf Tryd.prog 59 1 = some [.int .i64 0, .int .i64 0, .int .i64 0, .int .i64 0, .slice none 0 0] := by kernel_rfl
@[simp] theorem pl59 : placesOf Tryd.prog 59 = some [(0, 1), (1, 1), (2, 1), (3, 1), (4, 1)] := by kernel_rfl
@[simp] theorem bu59 (ps : Array (Nat × Value)) : buildV Tryd.prog 59 ps = if (ps.all fun (_, x) => !junkB x) = true then (Instr.fill (fun x => [(0, 1), (1, 1), (2, 1), (3, 1), (4, 1)].toArray[x]?) #[.int .i64 0, .int .i64 0, .int .i64 0, .int .i64 0, .slice none 0 0] ps.toList).map fun cs => .agg cs else none := buildV_struct zv59 (by kernel_rfl) (by kernel_rfl)
@[simp] theorem by59 : byOf Tryd.prog 59 = some 56 := by kernel_rfl
@[simp] theorem fo59_0 : fieldOf Tryd.prog 59 0 = some (0, 3) := by kernel_rfl
@[simp] theorem fo59_1 : fieldOf Tryd.prog 59 1 = some (1, 3) := by kernel_rfl
@[simp] theorem fo59_2 : fieldOf Tryd.prog 59 2 = some (2, 3) := by kernel_rfl
@[simp] theorem fo59_3 : fieldOf Tryd.prog 59 3 = some (3, 3) := by kernel_rfl
@[simp] theorem fo59_4 : fieldOf Tryd.prog 59 4 = some (4, 39) := by kernel_rfl
attribute [simp] Tryd.underlying59
@[simp] theorem sz65 : szOf Tryd.prog 65 = some 12 := by kernel_rfl
@[simp] theorem ag65 : aggOf Tryd.prog 65 = some true := by kernel_rfl
@[simp] theorem zv65 : zeroOf Tryd.prog 65 = some (.agg #[.string ⟨#[]⟩, .string ⟨#[]⟩, .string ⟨#[]⟩, .string ⟨#[]⟩, .string ⟨#[]⟩, .string ⟨#[]⟩, .string ⟨#[]⟩, .string ⟨#[]⟩, .string ⟨#[]⟩, .string ⟨#[]⟩, .string ⟨#[]⟩, .string ⟨#[]⟩]) := by kernel_rfl
@[simp low] theorem zn65 (n : Nat) : zerosOf Tryd.prog 65 n = some (List.replicate n [.string ⟨#[]⟩, .string ⟨#[]⟩, .string ⟨#[]⟩, .string ⟨#[]⟩, .string ⟨#[]⟩, .string ⟨#[]⟩, .string ⟨#[]⟩, .string ⟨#[]⟩, .string ⟨#[]⟩, .string ⟨#[]⟩, .string ⟨#[]⟩, .string ⟨#[]⟩]).flatten := by kernel_rfl
@[simp] theorem ze65 : zerosOf Tryd.prog 65 1 = some [.string ⟨#[]⟩, .string ⟨#[]⟩, .string ⟨#[]⟩, .string ⟨#[]⟩, .string ⟨#[]⟩, .string ⟨#[]⟩, .string ⟨#[]⟩, .string ⟨#[]⟩, .string ⟨#[]⟩, .string ⟨#[]⟩, .string ⟨#[]⟩, .string ⟨#[]⟩] := by kernel_rfl
@[simp] theorem pl65 : placesOf Tryd.prog 65 = some [(0, 1), (1, 1), (2, 1), (3, 1), (4, 1), (5, 1), (6, 1), (7, 1), (8, 1), (9, 1), (10, 1), (11, 1)] := by kernel_rfl
@[simp] theorem by65 : byOf Tryd.prog 65 = some 192 := by kernel_rfl
attribute [simp] Tryd.underlying65
@[simp] theorem sz73 : szOf Tryd.prog 73 = some 1 := by kernel_rfl
@[simp] theorem ag73 : aggOf Tryd.prog 73 = some false := by kernel_rfl
@[simp] theorem zv73 : zeroOf Tryd.prog 73 = some (.slice none 0 0) := by kernel_rfl
@[simp low] theorem zn73 (n : Nat) : zerosOf Tryd.prog 73 n = some (List.replicate n [.slice none 0 0]).flatten := by kernel_rfl
@[simp] theorem ze73 : zerosOf Tryd.prog 73 1 = some [.slice none 0 0] := by kernel_rfl
@[simp] theorem by73 : byOf Tryd.prog 73 = some 24 := by kernel_rfl
attribute [simp] Tryd.underlying73
@[simp] theorem sz79 : szOf Tryd.prog 79 = some 1 := by kernel_rfl
@[simp] theorem ag79 : aggOf Tryd.prog 79 = some false := by kernel_rfl
@[simp] theorem zv79 : zeroOf Tryd.prog 79 = some (.slice none 0 0) := by kernel_rfl
@[simp low] theorem zn79 (n : Nat) : zerosOf Tryd.prog 79 n = some (List.replicate n [.slice none 0 0]).flatten := by kernel_rfl
@[simp] theorem ze79 : zerosOf Tryd.prog 79 1 = some [.slice none 0 0] := by kernel_rfl
@[simp] theorem by79 : byOf Tryd.prog 79 = some 24 := by kernel_rfl
attribute [simp] Tryd.underlying79
@[simp] theorem sz80 : szOf Tryd.prog 80 = some 2 := by kernel_rfl
@[simp] theorem ag80 : aggOf Tryd.prog 80 = some true := by kernel_rfl
@[simp] theorem zv80 : zeroOf Tryd.prog 80 = some (.agg #[.int .i64 0, .slice none 0 0]) := by kernel_rfl
@[simp low] theorem zn80 (n : Nat) : zerosOf Tryd.prog 80 n = some (List.replicate n [.int .i64 0, .slice none 0 0]).flatten := by kernel_rfl
@[simp] theorem ze80 : zerosOf Tryd.prog 80 1 = some [.int .i64 0, .slice none 0 0] := by kernel_rfl
@[simp] theorem pl80 : placesOf Tryd.prog 80 = some [(0, 1), (1, 1)] := by kernel_rfl
@[simp] theorem bu80 (ps : Array (Nat × Value)) : buildV Tryd.prog 80 ps = if (ps.all fun (_, x) => !junkB x) = true then (Instr.fill (fun x => [(0, 1), (1, 1)].toArray[x]?) #[.int .i64 0, .slice none 0 0] ps.toList).map fun cs => .agg cs else none := buildV_struct zv80 (by kernel_rfl) (by kernel_rfl)
@[simp] theorem by80 : byOf Tryd.prog 80 = some 32 := by kernel_rfl
@[simp] theorem fo80_0 : fieldOf Tryd.prog 80 0 = some (0, 3) := by kernel_rfl
@[simp] theorem fo80_1 : fieldOf Tryd.prog 80 1 = some (1, 79) := by kernel_rfl
attribute [simp] Tryd.underlying80
@[simp] theorem sz81 : szOf Tryd.prog 81 = some 2 := by kernel_rfl
@[simp] theorem ag81 : aggOf Tryd.prog 81 = some true := by kernel_rfl
@[simp] theorem zv81 : zeroOf Tryd.prog 81 = some (.agg #[.int .i64 0, .slice none 0 0]) := by kernel_rfl
@[simp low] theorem zn81 (n : Nat) : zerosOf Tryd.prog 81 n = some (List.replicate n [.int .i64 0, .slice none 0 0]).flatten := by kernel_rfl
@[simp] theorem ze81 : zerosOf Tryd.prog 81 1 = some [.int .i64 0, .slice none 0 0] := by kernel_rfl
@[simp] theorem pl81 : placesOf Tryd.prog 81 = some [(0, 1), (1, 1)] := by kernel_rfl
@[simp] theorem bu81 (ps : Array (Nat × Value)) : buildV Tryd.prog 81 ps = if (ps.all fun (_, x) => !junkB x) = true then (Instr.fill (fun x => [(0, 1), (1, 1)].toArray[x]?) #[.int .i64 0, .slice none 0 0] ps.toList).map fun cs => .agg cs else none := buildV_struct zv81 (by kernel_rfl) (by kernel_rfl)
@[simp] theorem by81 : byOf Tryd.prog 81 = some 32 := by kernel_rfl
@[simp] theorem fo81_0 : fieldOf Tryd.prog 81 0 = some (0, 3) := by kernel_rfl
@[simp] theorem fo81_1 : fieldOf Tryd.prog 81 1 = some (1, 79) := by kernel_rfl
attribute [simp] Tryd.underlying81
@[simp] theorem sz82 : szOf Tryd.prog 82 = some 2 := by kernel_rfl
@[simp] theorem ag82 : aggOf Tryd.prog 82 = some true := by kernel_rfl
@[simp] theorem zv82 : zeroOf Tryd.prog 82 = some (.agg #[.int .i64 0, .int .i64 0]) := by kernel_rfl
@[simp low] theorem zn82 (n : Nat) : zerosOf Tryd.prog 82 n = some (List.replicate n [.int .i64 0, .int .i64 0]).flatten := by kernel_rfl
@[simp] theorem ze82 : zerosOf Tryd.prog 82 1 = some [.int .i64 0, .int .i64 0] := by kernel_rfl
@[simp] theorem pl82 : placesOf Tryd.prog 82 = some [(0, 1), (1, 1)] := by kernel_rfl
@[simp] theorem bu82 (ps : Array (Nat × Value)) : buildV Tryd.prog 82 ps = if (ps.all fun (_, x) => !junkB x) = true then (Instr.fill (fun x => [(0, 1), (1, 1)].toArray[x]?) #[.int .i64 0, .int .i64 0] ps.toList).map fun cs => .agg cs else none := buildV_struct zv82 (by kernel_rfl) (by kernel_rfl)
@[simp] theorem by82 : byOf Tryd.prog 82 = some 16 := by kernel_rfl
@[simp] theorem fo82_0 : fieldOf Tryd.prog 82 0 = some (0, 3) := by kernel_rfl
@[simp] theorem fo82_1 : fieldOf Tryd.prog 82 1 = some (1, 3) := by kernel_rfl
attribute [simp] Tryd.underlying82
@[simp] theorem sz83 : szOf Tryd.prog 83 = some 2 := by kernel_rfl
@[simp] theorem ag83 : aggOf Tryd.prog 83 = some true := by kernel_rfl
@[simp] theorem zv83 : zeroOf Tryd.prog 83 = some (.agg #[.int .i64 0, .int .i64 0]) := by kernel_rfl
@[simp low] theorem zn83 (n : Nat) : zerosOf Tryd.prog 83 n = some (List.replicate n [.int .i64 0, .int .i64 0]).flatten := by kernel_rfl
@[simp] theorem ze83 : zerosOf Tryd.prog 83 1 = some [.int .i64 0, .int .i64 0] := by kernel_rfl
@[simp] theorem pl83 : placesOf Tryd.prog 83 = some [(0, 1), (1, 1)] := by kernel_rfl
@[simp] theorem bu83 (ps : Array (Nat × Value)) : buildV Tryd.prog 83 ps = if (ps.all fun (_, x) => !junkB x) = true then (Instr.fill (fun x => [(0, 1), (1, 1)].toArray[x]?) #[.int .i64 0, .int .i64 0] ps.toList).map fun cs => .agg cs else none := buildV_struct zv83 (by kernel_rfl) (by kernel_rfl)
@[simp] theorem by83 : byOf Tryd.prog 83 = some 16 := by kernel_rfl
@[simp] theorem fo83_0 : fieldOf Tryd.prog 83 0 = some (0, 3) := by kernel_rfl
@[simp] theorem fo83_1 : fieldOf Tryd.prog 83 1 = some (1, 3) := by kernel_rfl
attribute [simp] Tryd.underlying83
@[simp] theorem sz86 : szOf Tryd.prog 86 = some 1 := by kernel_rfl
@[simp] theorem ag86 : aggOf Tryd.prog 86 = some false := by kernel_rfl
@[simp] theorem zv86 : zeroOf Tryd.prog 86 = some (.slice none 0 0) := by kernel_rfl
@[simp low] theorem zn86 (n : Nat) : zerosOf Tryd.prog 86 n = some (List.replicate n [.slice none 0 0]).flatten := by kernel_rfl
@[simp] theorem ze86 : zerosOf Tryd.prog 86 1 = some [.slice none 0 0] := by kernel_rfl
@[simp] theorem by86 : byOf Tryd.prog 86 = some 24 := by kernel_rfl
attribute [simp] Tryd.underlying86
@[simp] theorem sz90 : szOf Tryd.prog 90 = some 1 := by kernel_rfl
@[simp] theorem ag90 : aggOf Tryd.prog 90 = some false := by kernel_rfl
@[simp] theorem zv90 : zeroOf Tryd.prog 90 = some (.slice none 0 0) := by kernel_rfl
@[simp low] theorem zn90 (n : Nat) : zerosOf Tryd.prog 90 n = some (List.replicate n [.slice none 0 0]).flatten := by kernel_rfl
@[simp] theorem ze90 : zerosOf Tryd.prog 90 1 = some [.slice none 0 0] := by kernel_rfl
@[simp] theorem by90 : byOf Tryd.prog 90 = some 24 := by kernel_rfl
attribute [simp] Tryd.underlying90
@[simp] theorem sz93 : szOf Tryd.prog 93 = some 1 := by kernel_rfl
@[simp] theorem ag93 : aggOf Tryd.prog 93 = some false := by kernel_rfl
@[simp] theorem zv93 : zeroOf Tryd.prog 93 = some (.pointer none) := by kernel_rfl
@[simp low] theorem zn93 (n : Nat) : zerosOf Tryd.prog 93 n = some (List.replicate n [.pointer none]).flatten := by kernel_rfl
@[simp] theorem ze93 : zerosOf Tryd.prog 93 1 = some [.pointer none] := by kernel_rfl
@[simp] theorem by93 : byOf Tryd.prog 93 = some 8 := by kernel_rfl
attribute [simp] Tryd.underlying93
@[simp] theorem sz98 : szOf Tryd.prog 98 = some 3 := by kernel_rfl
@[simp] theorem ag98 : aggOf Tryd.prog 98 = some true := by kernel_rfl
@[simp] theorem zv98 : zeroOf Tryd.prog 98 = some (.agg #[.int .i64 0, .int .i64 0, .int .i64 0]) := by kernel_rfl
@[simp low] theorem zn98 (n : Nat) : zerosOf Tryd.prog 98 n = some (List.replicate n [.int .i64 0, .int .i64 0, .int .i64 0]).flatten := by kernel_rfl
@[simp] theorem ze98 : zerosOf Tryd.prog 98 1 = some [.int .i64 0, .int .i64 0, .int .i64 0] := by kernel_rfl
@[simp] theorem pl98 : placesOf Tryd.prog 98 = some [(0, 1), (1, 1), (2, 1)] := by kernel_rfl
@[simp] theorem by98 : byOf Tryd.prog 98 = some 24 := by kernel_rfl
attribute [simp] Tryd.underlying98
@[simp] theorem sz100 : szOf Tryd.prog 100 = some 1 := by kernel_rfl
@[simp] theorem ag100 : aggOf Tryd.prog 100 = some false := by kernel_rfl
@[simp] theorem zv100 : zeroOf Tryd.prog 100 = some (.slice none 0 0) := by kernel_rfl
@[simp low] theorem zn100 (n : Nat) : zerosOf Tryd.prog 100 n = some (List.replicate n [.slice none 0 0]).flatten := by kernel_rfl
@[simp] theorem ze100 : zerosOf Tryd.prog 100 1 = some [.slice none 0 0] := by kernel_rfl
@[simp] theorem by100 : byOf Tryd.prog 100 = some 24 := by kernel_rfl
attribute [simp] Tryd.underlying100
@[simp] theorem sz110 : szOf Tryd.prog 110 = some 1 := by kernel_rfl
@[simp] theorem ag110 : aggOf Tryd.prog 110 = some false := by kernel_rfl
@[simp] theorem zv110 : zeroOf Tryd.prog 110 = some (.int .u64 0) := by kernel_rfl
@[simp low] theorem zn110 (n : Nat) : zerosOf Tryd.prog 110 n = some (List.replicate n [.int .u64 0]).flatten := by kernel_rfl
@[simp] theorem ze110 : zerosOf Tryd.prog 110 1 = some [.int .u64 0] := by kernel_rfl
@[simp] theorem by110 : byOf Tryd.prog 110 = some 8 := by kernel_rfl
attribute [simp] Tryd.underlying110
@[simp] theorem sz111 : szOf Tryd.prog 111 = some 64 := by kernel_rfl
@[simp] theorem ag111 : aggOf Tryd.prog 111 = some true := by kernel_rfl
@[simp] theorem by111 : byOf Tryd.prog 111 = some 64 := by kernel_rfl
attribute [simp] Tryd.underlying111
@[simp] theorem sz112 : szOf Tryd.prog 112 = some 1 := by kernel_rfl
@[simp] theorem ag112 : aggOf Tryd.prog 112 = some false := by kernel_rfl
@[simp] theorem zv112 : zeroOf Tryd.prog 112 = some (.pointer none) := by kernel_rfl
@[simp low] theorem zn112 (n : Nat) : zerosOf Tryd.prog 112 n = some (List.replicate n [.pointer none]).flatten := by kernel_rfl
@[simp] theorem ze112 : zerosOf Tryd.prog 112 1 = some [.pointer none] := by kernel_rfl
@[simp] theorem by112 : byOf Tryd.prog 112 = some 8 := by kernel_rfl
attribute [simp] Tryd.underlying112
@[simp] theorem sz115 : szOf Tryd.prog 115 = some 1 := by kernel_rfl
@[simp] theorem ag115 : aggOf Tryd.prog 115 = some false := by kernel_rfl
@[simp] theorem zv115 : zeroOf Tryd.prog 115 = some (.slice none 0 0) := by kernel_rfl
@[simp low] theorem zn115 (n : Nat) : zerosOf Tryd.prog 115 n = some (List.replicate n [.slice none 0 0]).flatten := by kernel_rfl
@[simp] theorem ze115 : zerosOf Tryd.prog 115 1 = some [.slice none 0 0] := by kernel_rfl
@[simp] theorem by115 : byOf Tryd.prog 115 = some 24 := by kernel_rfl
attribute [simp] Tryd.underlying115
@[simp] theorem sz116 : szOf Tryd.prog 116 = some 256 := by kernel_rfl
@[simp] theorem ag116 : aggOf Tryd.prog 116 = some true := by kernel_rfl
@[simp] theorem by116 : byOf Tryd.prog 116 = some 256 := by kernel_rfl
attribute [simp] Tryd.underlying116
@[simp] theorem sz119 : szOf Tryd.prog 119 = some 1 := by kernel_rfl
@[simp] theorem ag119 : aggOf Tryd.prog 119 = some false := by kernel_rfl
@[simp] theorem zv119 : zeroOf Tryd.prog 119 = some (.pointer none) := by kernel_rfl
@[simp low] theorem zn119 (n : Nat) : zerosOf Tryd.prog 119 n = some (List.replicate n [.pointer none]).flatten := by kernel_rfl
@[simp] theorem ze119 : zerosOf Tryd.prog 119 1 = some [.pointer none] := by kernel_rfl
@[simp] theorem by119 : byOf Tryd.prog 119 = some 8 := by kernel_rfl
attribute [simp] Tryd.underlying119
@[simp] theorem sz120 : szOf Tryd.prog 120 = some 1 := by kernel_rfl
@[simp] theorem ag120 : aggOf Tryd.prog 120 = some true := by kernel_rfl
@[simp] theorem zv120 : zeroOf Tryd.prog 120 = some (.agg #[.slice none 0 0]) := by kernel_rfl
@[simp low] theorem zn120 (n : Nat) : zerosOf Tryd.prog 120 n = some (List.replicate n [.slice none 0 0]).flatten := by kernel_rfl
@[simp] theorem ze120 : zerosOf Tryd.prog 120 1 = some [.slice none 0 0] := by kernel_rfl
@[simp] theorem pl120 : placesOf Tryd.prog 120 = some [(0, 1)] := by kernel_rfl
@[simp] theorem bu120 (ps : Array (Nat × Value)) : buildV Tryd.prog 120 ps = if (ps.all fun (_, x) => !junkB x) = true then (Instr.fill (fun x => [(0, 1)].toArray[x]?) #[.slice none 0 0] ps.toList).map fun cs => .agg cs else none := buildV_struct zv120 (by kernel_rfl) (by kernel_rfl)
@[simp] theorem by120 : byOf Tryd.prog 120 = some 24 := by kernel_rfl
@[simp] theorem fo120_0 : fieldOf Tryd.prog 120 0 = some (0, 39) := by kernel_rfl
attribute [simp] Tryd.underlying120
@[simp] theorem sz121 : szOf Tryd.prog 121 = some 1 := by kernel_rfl
@[simp] theorem ag121 : aggOf Tryd.prog 121 = some true := by kernel_rfl
@[simp] theorem zv121 : zeroOf Tryd.prog 121 = some (.agg #[.slice none 0 0]) := by kernel_rfl
@[simp low] theorem zn121 (n : Nat) : zerosOf Tryd.prog 121 n = some (List.replicate n [.slice none 0 0]).flatten := by kernel_rfl
@[simp] theorem ze121 : zerosOf Tryd.prog 121 1 = some [.slice none 0 0] := by kernel_rfl
@[simp] theorem pl121 : placesOf Tryd.prog 121 = some [(0, 1)] := by kernel_rfl
@[simp] theorem bu121 (ps : Array (Nat × Value)) : buildV Tryd.prog 121 ps = if (ps.all fun (_, x) => !junkB x) = true then (Instr.fill (fun x => [(0, 1)].toArray[x]?) #[.slice none 0 0] ps.toList).map fun cs => .agg cs else none := buildV_struct zv121 (by kernel_rfl) (by kernel_rfl)
@[simp] theorem by121 : byOf Tryd.prog 121 = some 24 := by kernel_rfl
@[simp] theorem fo121_0 : fieldOf Tryd.prog 121 0 = some (0, 39) := by kernel_rfl
attribute [simp] Tryd.underlying121
@[simp] theorem sz122 : szOf Tryd.prog 122 = some 2 := by kernel_rfl
@[simp] theorem ag122 : aggOf Tryd.prog 122 = some true := by kernel_rfl
@[simp] theorem zv122 : zeroOf Tryd.prog 122 = some (.agg #[.slice none 0 0, .int .i64 0]) := by kernel_rfl
@[simp low] theorem zn122 (n : Nat) : zerosOf Tryd.prog 122 n = some (List.replicate n [.slice none 0 0, .int .i64 0]).flatten := by kernel_rfl
@[simp] theorem ze122 : zerosOf Tryd.prog 122 1 = some [.slice none 0 0, .int .i64 0] := by kernel_rfl
@[simp] theorem pl122 : placesOf Tryd.prog 122 = some [(0, 1), (1, 1)] := by kernel_rfl
@[simp] theorem bu122 (ps : Array (Nat × Value)) : buildV Tryd.prog 122 ps = if (ps.all fun (_, x) => !junkB x) = true then (Instr.fill (fun x => [(0, 1), (1, 1)].toArray[x]?) #[.slice none 0 0, .int .i64 0] ps.toList).map fun cs => .agg cs else none := buildV_struct zv122 (by kernel_rfl) (by kernel_rfl)
@[simp] theorem by122 : byOf Tryd.prog 122 = some 32 := by kernel_rfl
@[simp] theorem fo122_0 : fieldOf Tryd.prog 122 0 = some (0, 121) := by kernel_rfl
@[simp] theorem fo122_1 : fieldOf Tryd.prog 122 1 = some (1, 24) := by kernel_rfl
attribute [simp] Tryd.underlying122
@[simp] theorem sz123 : szOf Tryd.prog 123 = some 2 := by kernel_rfl
@[simp] theorem ag123 : aggOf Tryd.prog 123 = some true := by kernel_rfl
@[simp] theorem zv123 : zeroOf Tryd.prog 123 = some (.agg #[.slice none 0 0, .int .i64 0]) := by kernel_rfl
@[simp low] theorem zn123 (n : Nat) : zerosOf Tryd.prog 123 n = some (List.replicate n [.slice none 0 0, .int .i64 0]).flatten := by kernel_rfl
@[simp] theorem ze123 : zerosOf Tryd.prog 123 1 = some [.slice none 0 0, .int .i64 0] := by kernel_rfl
@[simp] theorem pl123 : placesOf Tryd.prog 123 = some [(0, 1), (1, 1)] := by kernel_rfl
@[simp] theorem bu123 (ps : Array (Nat × Value)) : buildV Tryd.prog 123 ps = if (ps.all fun (_, x) => !junkB x) = true then (Instr.fill (fun x => [(0, 1), (1, 1)].toArray[x]?) #[.slice none 0 0, .int .i64 0] ps.toList).map fun cs => .agg cs else none := buildV_struct zv123 (by kernel_rfl) (by kernel_rfl)
@[simp] theorem by123 : byOf Tryd.prog 123 = some 32 := by kernel_rfl
@[simp] theorem fo123_0 : fieldOf Tryd.prog 123 0 = some (0, 121) := by kernel_rfl
@[simp] theorem fo123_1 : fieldOf Tryd.prog 123 1 = some (1, 24) := by kernel_rfl
attribute [simp] Tryd.underlying123
@[simp] theorem sz127 : szOf Tryd.prog 127 = some 1 := by kernel_rfl
@[simp] theorem ag127 : aggOf Tryd.prog 127 = some false := by kernel_rfl
@[simp] theorem zv127 : zeroOf Tryd.prog 127 = some (.slice none 0 0) := by kernel_rfl
@[simp low] theorem zn127 (n : Nat) : zerosOf Tryd.prog 127 n = some (List.replicate n [.slice none 0 0]).flatten := by kernel_rfl
@[simp] theorem ze127 : zerosOf Tryd.prog 127 1 = some [.slice none 0 0] := by kernel_rfl
@[simp] theorem by127 : byOf Tryd.prog 127 = some 24 := by kernel_rfl
attribute [simp] Tryd.underlying127
@[simp] theorem sz128 : szOf Tryd.prog 128 = some 2 := by kernel_rfl
@[simp] theorem ag128 : aggOf Tryd.prog 128 = some true := by kernel_rfl
@[simp] theorem zv128 : zeroOf Tryd.prog 128 = some (.agg #[.int .i64 0, .int .i64 0]) := by kernel_rfl
@[simp low] theorem zn128 (n : Nat) : zerosOf Tryd.prog 128 n = some (List.replicate n [.int .i64 0, .int .i64 0]).flatten := by kernel_rfl
@[simp] theorem ze128 : zerosOf Tryd.prog 128 1 = some [.int .i64 0, .int .i64 0] := by kernel_rfl
@[simp] theorem pl128 : placesOf Tryd.prog 128 = some [(0, 1), (1, 1)] := by kernel_rfl
@[simp] theorem bu128 (ps : Array (Nat × Value)) : buildV Tryd.prog 128 ps = if (ps.all fun (_, x) => !junkB x) = true then (Instr.fill (fun x => [(0, 1), (1, 1)].toArray[x]?) #[.int .i64 0, .int .i64 0] ps.toList).map fun cs => .agg cs else none := buildV_struct zv128 (by kernel_rfl) (by kernel_rfl)
@[simp] theorem by128 : byOf Tryd.prog 128 = some 16 := by kernel_rfl
@[simp] theorem fo128_0 : fieldOf Tryd.prog 128 0 = some (0, 3) := by kernel_rfl
@[simp] theorem fo128_1 : fieldOf Tryd.prog 128 1 = some (1, 3) := by kernel_rfl
attribute [simp] Tryd.underlying128
@[simp] theorem sz129 : szOf Tryd.prog 129 = some 2 := by kernel_rfl
@[simp] theorem ag129 : aggOf Tryd.prog 129 = some true := by kernel_rfl
@[simp] theorem zv129 : zeroOf Tryd.prog 129 = some (.agg #[.int .i64 0, .int .i64 0]) := by kernel_rfl
@[simp low] theorem zn129 (n : Nat) : zerosOf Tryd.prog 129 n = some (List.replicate n [.int .i64 0, .int .i64 0]).flatten := by kernel_rfl
@[simp] theorem ze129 : zerosOf Tryd.prog 129 1 = some [.int .i64 0, .int .i64 0] := by kernel_rfl
@[simp] theorem pl129 : placesOf Tryd.prog 129 = some [(0, 1), (1, 1)] := by kernel_rfl
@[simp] theorem bu129 (ps : Array (Nat × Value)) : buildV Tryd.prog 129 ps = if (ps.all fun (_, x) => !junkB x) = true then (Instr.fill (fun x => [(0, 1), (1, 1)].toArray[x]?) #[.int .i64 0, .int .i64 0] ps.toList).map fun cs => .agg cs else none := buildV_struct zv129 (by kernel_rfl) (by kernel_rfl)
@[simp] theorem by129 : byOf Tryd.prog 129 = some 16 := by kernel_rfl
@[simp] theorem fo129_0 : fieldOf Tryd.prog 129 0 = some (0, 3) := by kernel_rfl
@[simp] theorem fo129_1 : fieldOf Tryd.prog 129 1 = some (1, 3) := by kernel_rfl
attribute [simp] Tryd.underlying129
@[simp] theorem sz130 : szOf Tryd.prog 130 = some 1 := by kernel_rfl
@[simp] theorem ag130 : aggOf Tryd.prog 130 = some false := by kernel_rfl
@[simp] theorem zv130 : zeroOf Tryd.prog 130 = some (.int .u32 0) := by kernel_rfl
@[simp low] theorem zn130 (n : Nat) : zerosOf Tryd.prog 130 n = some (List.replicate n [.int .u32 0]).flatten := by kernel_rfl
@[simp] theorem ze130 : zerosOf Tryd.prog 130 1 = some [.int .u32 0] := by kernel_rfl
@[simp] theorem by130 : byOf Tryd.prog 130 = some 4 := by kernel_rfl
attribute [simp] Tryd.underlying130
@[simp] theorem sz132 : szOf Tryd.prog 132 = some 1 := by kernel_rfl
@[simp] theorem ag132 : aggOf Tryd.prog 132 = some false := by kernel_rfl
@[simp] theorem zv132 : zeroOf Tryd.prog 132 = some (.pointer none) := by kernel_rfl
@[simp low] theorem zn132 (n : Nat) : zerosOf Tryd.prog 132 n = some (List.replicate n [.pointer none]).flatten := by kernel_rfl
@[simp] theorem ze132 : zerosOf Tryd.prog 132 1 = some [.pointer none] := by kernel_rfl
@[simp] theorem by132 : byOf Tryd.prog 132 = some 8 := by kernel_rfl
attribute [simp] Tryd.underlying132
@[simp] theorem sz133 : szOf Tryd.prog 133 = some 1 := by kernel_rfl
@[simp] theorem ag133 : aggOf Tryd.prog 133 = some false := by kernel_rfl
@[simp] theorem zv133 : zeroOf Tryd.prog 133 = some (.pointer none) := by kernel_rfl
@[simp low] theorem zn133 (n : Nat) : zerosOf Tryd.prog 133 n = some (List.replicate n [.pointer none]).flatten := by kernel_rfl
@[simp] theorem ze133 : zerosOf Tryd.prog 133 1 = some [.pointer none] := by kernel_rfl
@[simp] theorem by133 : byOf Tryd.prog 133 = some 8 := by kernel_rfl
attribute [simp] Tryd.underlying133
@[simp] theorem sz134 : szOf Tryd.prog 134 = some 1 := by kernel_rfl
@[simp] theorem ag134 : aggOf Tryd.prog 134 = some false := by kernel_rfl
@[simp] theorem zv134 : zeroOf Tryd.prog 134 = some (.slice none 0 0) := by kernel_rfl
@[simp low] theorem zn134 (n : Nat) : zerosOf Tryd.prog 134 n = some (List.replicate n [.slice none 0 0]).flatten := by kernel_rfl
@[simp] theorem ze134 : zerosOf Tryd.prog 134 1 = some [.slice none 0 0] := by kernel_rfl
@[simp] theorem by134 : byOf Tryd.prog 134 = some 24 := by kernel_rfl
attribute [simp] Tryd.underlying134
@[simp] theorem sz135 : szOf Tryd.prog 135 = some 1 := by kernel_rfl
@[simp] theorem ag135 : aggOf Tryd.prog 135 = some false := by kernel_rfl
@[simp] theorem zv135 : zeroOf Tryd.prog 135 = some (.slice none 0 0) := by kernel_rfl
@[simp low] theorem zn135 (n : Nat) : zerosOf Tryd.prog 135 n = some (List.replicate n [.slice none 0 0]).flatten := by kernel_rfl
@[simp] theorem ze135 : zerosOf Tryd.prog 135 1 = some [.slice none 0 0] := by kernel_rfl
@[simp] theorem by135 : byOf Tryd.prog 135 = some 24 := by kernel_rfl
attribute [simp] Tryd.underlying135
@[simp] theorem sz136 : szOf Tryd.prog 136 = some 3 := by kernel_rfl
@[simp] theorem ag136 : aggOf Tryd.prog 136 = some true := by kernel_rfl
@[simp] theorem zv136 : zeroOf Tryd.prog 136 = some (.agg #[.slice none 0 0, .slice none 0 0, .int .i64 0]) := by kernel_rfl
@[simp low] theorem zn136 (n : Nat) : zerosOf Tryd.prog 136 n = some (List.replicate n [.slice none 0 0, .slice none 0 0, .int .i64 0]).flatten := by kernel_rfl
@[simp] theorem ze136 : zerosOf Tryd.prog 136 1 = some [.slice none 0 0, .slice none 0 0, .int .i64 0] := by kernel_rfl
@[simp] theorem pl136 : placesOf Tryd.prog 136 = some [(0, 1), (1, 1), (2, 1)] := by kernel_rfl
@[simp] theorem bu136 (ps : Array (Nat × Value)) : buildV Tryd.prog 136 ps = if (ps.all fun (_, x) => !junkB x) = true then (Instr.fill (fun x => [(0, 1), (1, 1), (2, 1)].toArray[x]?) #[.slice none 0 0, .slice none 0 0, .int .i64 0] ps.toList).map fun cs => .agg cs else none := buildV_struct zv136 (by kernel_rfl) (by kernel_rfl)
@[simp] theorem by136 : byOf Tryd.prog 136 = some 56 := by kernel_rfl
@[simp] theorem fo136_0 : fieldOf Tryd.prog 136 0 = some (0, 134) := by kernel_rfl
@[simp] theorem fo136_1 : fieldOf Tryd.prog 136 1 = some (1, 135) := by kernel_rfl
@[simp] theorem fo136_2 : fieldOf Tryd.prog 136 2 = some (2, 3) := by kernel_rfl
attribute [simp] Tryd.underlying136
@[simp] theorem sz137 : szOf Tryd.prog 137 = some 3 := by kernel_rfl
@[simp] theorem ag137 : aggOf Tryd.prog 137 = some true := by kernel_rfl
@[simp] theorem zv137 : zeroOf Tryd.prog 137 = some (.agg #[.slice none 0 0, .slice none 0 0, .int .i64 0]) := by kernel_rfl
@[simp low] theorem zn137 (n : Nat) : zerosOf Tryd.prog 137 n = some (List.replicate n [.slice none 0 0, .slice none 0 0, .int .i64 0]).flatten := by kernel_rfl
@[simp] theorem ze137 : zerosOf Tryd.prog 137 1 = some [.slice none 0 0, .slice none 0 0, .int .i64 0] := by kernel_rfl
@[simp] theorem pl137 : placesOf Tryd.prog 137 = some [(0, 1), (1, 1), (2, 1)] := by kernel_rfl
@[simp] theorem bu137 (ps : Array (Nat × Value)) : buildV Tryd.prog 137 ps = if (ps.all fun (_, x) => !junkB x) = true then (Instr.fill (fun x => [(0, 1), (1, 1), (2, 1)].toArray[x]?) #[.slice none 0 0, .slice none 0 0, .int .i64 0] ps.toList).map fun cs => .agg cs else none := buildV_struct zv137 (by kernel_rfl) (by kernel_rfl)
@[simp] theorem by137 : byOf Tryd.prog 137 = some 56 := by kernel_rfl
@[simp] theorem fo137_0 : fieldOf Tryd.prog 137 0 = some (0, 134) := by kernel_rfl
@[simp] theorem fo137_1 : fieldOf Tryd.prog 137 1 = some (1, 135) := by kernel_rfl
@[simp] theorem fo137_2 : fieldOf Tryd.prog 137 2 = some (2, 3) := by kernel_rfl
attribute [simp] Tryd.underlying137
@[simp] theorem sz138 : szOf Tryd.prog 138 = some 1 := by kernel_rfl
@[simp] theorem ag138 : aggOf Tryd.prog 138 = some false := by kernel_rfl
@[simp] theorem zv138 : zeroOf Tryd.prog 138 = some (.int .u16 0) := by kernel_rfl
@[simp low] theorem zn138 (n : Nat) : zerosOf Tryd.prog 138 n = some (List.replicate n [.int .u16 0]).flatten := by kernel_rfl
@[simp] theorem ze138 : zerosOf Tryd.prog 138 1 = some [.int .u16 0] := by kernel_rfl
@[simp] theorem by138 : byOf Tryd.prog 138 = some 2 := by kernel_rfl
attribute [simp] Tryd.underlying138
@[simp] theorem sz139 : szOf Tryd.prog 139 = some 3 := by kernel_rfl
@[simp] theorem ag139 : aggOf Tryd.prog 139 = some true := by kernel_rfl
@[simp] theorem zv139 : zeroOf Tryd.prog 139 = some (.agg #[.int .u16 0, .int .u16 0, .int .u16 0]) := by kernel_rfl
@[simp low] theorem zn139 (n : Nat) : zerosOf Tryd.prog 139 n = some (List.replicate n [.int .u16 0, .int .u16 0, .int .u16 0]).flatten := by kernel_rfl
@[simp] theorem ze139 : zerosOf Tryd.prog 139 1 = some [.int .u16 0, .int .u16 0, .int .u16 0] := by kernel_rfl
@[simp] theorem pl139 : placesOf Tryd.prog 139 = some [(0, 1), (1, 1), (2, 1)] := by kernel_rfl
@[simp] theorem bu139 (ps : Array (Nat × Value)) : buildV Tryd.prog 139 ps = if (ps.all fun (_, x) => !junkB x) = true then (Instr.fill (fun x => [(0, 1), (1, 1), (2, 1)].toArray[x]?) #[.int .u16 0, .int .u16 0, .int .u16 0] ps.toList).map fun cs => .agg cs else none := buildV_struct zv139 (by kernel_rfl) (by kernel_rfl)
@[simp] theorem by139 : byOf Tryd.prog 139 = some 6 := by kernel_rfl
@[simp] theorem fo139_0 : fieldOf Tryd.prog 139 0 = some (0, 138) := by kernel_rfl
@[simp] theorem fo139_1 : fieldOf Tryd.prog 139 1 = some (1, 138) := by kernel_rfl
@[simp] theorem fo139_2 : fieldOf Tryd.prog 139 2 = some (2, 138) := by kernel_rfl
attribute [simp] Tryd.underlying139
@[simp] theorem sz140 : szOf Tryd.prog 140 = some 3 := by kernel_rfl
@[simp] theorem ag140 : aggOf Tryd.prog 140 = some true := by kernel_rfl
@[simp] theorem zv140 : zeroOf Tryd.prog 140 = some (.agg #[.int .u16 0, .int .u16 0, .int .u16 0]) := by kernel_rfl
@[simp low] theorem zn140 (n : Nat) : zerosOf Tryd.prog 140 n = some (List.replicate n [.int .u16 0, .int .u16 0, .int .u16 0]).flatten := by kernel_rfl
@[simp] theorem ze140 : zerosOf Tryd.prog 140 1 = some [.int .u16 0, .int .u16 0, .int .u16 0] := by kernel_rfl
@[simp] theorem pl140 : placesOf Tryd.prog 140 = some [(0, 1), (1, 1), (2, 1)] := by kernel_rfl
@[simp] theorem bu140 (ps : Array (Nat × Value)) : buildV Tryd.prog 140 ps = if (ps.all fun (_, x) => !junkB x) = true then (Instr.fill (fun x => [(0, 1), (1, 1), (2, 1)].toArray[x]?) #[.int .u16 0, .int .u16 0, .int .u16 0] ps.toList).map fun cs => .agg cs else none := buildV_struct zv140 (by kernel_rfl) (by kernel_rfl)
@[simp] theorem by140 : byOf Tryd.prog 140 = some 6 := by kernel_rfl
@[simp] theorem fo140_0 : fieldOf Tryd.prog 140 0 = some (0, 138) := by kernel_rfl
@[simp] theorem fo140_1 : fieldOf Tryd.prog 140 1 = some (1, 138) := by kernel_rfl
@[simp] theorem fo140_2 : fieldOf Tryd.prog 140 2 = some (2, 138) := by kernel_rfl
attribute [simp] Tryd.underlying140
@[simp] theorem sz142 : szOf Tryd.prog 142 = some 3 := by kernel_rfl
@[simp] theorem ag142 : aggOf Tryd.prog 142 = some true := by kernel_rfl
@[simp] theorem zv142 : zeroOf Tryd.prog 142 = some (.agg #[.int .u32 0, .int .u32 0, .int .u32 0]) := by kernel_rfl
@[simp low] theorem zn142 (n : Nat) : zerosOf Tryd.prog 142 n = some (List.replicate n [.int .u32 0, .int .u32 0, .int .u32 0]).flatten := by kernel_rfl
@[simp] theorem ze142 : zerosOf Tryd.prog 142 1 = some [.int .u32 0, .int .u32 0, .int .u32 0] := by kernel_rfl
@[simp] theorem pl142 : placesOf Tryd.prog 142 = some [(0, 1), (1, 1), (2, 1)] := by kernel_rfl
@[simp] theorem bu142 (ps : Array (Nat × Value)) : buildV Tryd.prog 142 ps = if (ps.all fun (_, x) => !junkB x) = true then (Instr.fill (fun x => [(0, 1), (1, 1), (2, 1)].toArray[x]?) #[.int .u32 0, .int .u32 0, .int .u32 0] ps.toList).map fun cs => .agg cs else none := buildV_struct zv142 (by kernel_rfl) (by kernel_rfl)
@[simp] theorem by142 : byOf Tryd.prog 142 = some 12 := by kernel_rfl
@[simp] theorem fo142_0 : fieldOf Tryd.prog 142 0 = some (0, 130) := by kernel_rfl
@[simp] theorem fo142_1 : fieldOf Tryd.prog 142 1 = some (1, 130) := by kernel_rfl
@[simp] theorem fo142_2 : fieldOf Tryd.prog 142 2 = some (2, 130) := by kernel_rfl
attribute [simp] Tryd.underlying142
@[simp] theorem sz143 : szOf Tryd.prog 143 = some 3 := by kernel_rfl
@[simp] theorem ag143 : aggOf Tryd.prog 143 = some true := by kernel_rfl
@[simp] theorem zv143 : zeroOf Tryd.prog 143 = some (.agg #[.int .u32 0, .int .u32 0, .int .u32 0]) := by kernel_rfl
@[simp low] theorem zn143 (n : Nat) : zerosOf Tryd.prog 143 n = some (List.replicate n [.int .u32 0, .int .u32 0, .int .u32 0]).flatten := by kernel_rfl
@[simp] theorem ze143 : zerosOf Tryd.prog 143 1 = some [.int .u32 0, .int .u32 0, .int .u32 0] := by kernel_rfl
@[simp] theorem pl143 : placesOf Tryd.prog 143 = some [(0, 1), (1, 1), (2, 1)] := by kernel_rfl
@[simp] theorem bu143 (ps : Array (Nat × Value)) : buildV Tryd.prog 143 ps = if (ps.all fun (_, x) => !junkB x) = true then (Instr.fill (fun x => [(0, 1), (1, 1), (2, 1)].toArray[x]?) #[.int .u32 0, .int .u32 0, .int .u32 0] ps.toList).map fun cs => .agg cs else none := buildV_struct zv143 (by kernel_rfl) (by kernel_rfl)
@[simp] theorem by143 : byOf Tryd.prog 143 = some 12 := by kernel_rfl
@[simp] theorem fo143_0 : fieldOf Tryd.prog 143 0 = some (0, 130) := by kernel_rfl
@[simp] theorem fo143_1 : fieldOf Tryd.prog 143 1 = some (1, 130) := by kernel_rfl
@[simp] theorem fo143_2 : fieldOf Tryd.prog 143 2 = some (2, 130) := by kernel_rfl
attribute [simp] Tryd.underlying143
@[simp] theorem sz145 : szOf Tryd.prog 145 = some 1 := by kernel_rfl
@[simp] theorem ag145 : aggOf Tryd.prog 145 = some false := by kernel_rfl
@[simp] theorem zv145 : zeroOf Tryd.prog 145 = some (.pointer none) := by kernel_rfl
@[simp low] theorem zn145 (n : Nat) : zerosOf Tryd.prog 145 n = some (List.replicate n [.pointer none]).flatten := by kernel_rfl
@[simp] theorem ze145 : zerosOf Tryd.prog 145 1 = some [.pointer none] := by kernel_rfl
@[simp] theorem by145 : byOf Tryd.prog 145 = some 8 := by kernel_rfl
attribute [simp] Tryd.underlying145
@[simp] theorem sz146 : szOf Tryd.prog 146 = some 1 := by kernel_rfl
@[simp] theorem ag146 : aggOf Tryd.prog 146 = some false := by kernel_rfl
@[simp] theorem zv146 : zeroOf Tryd.prog 146 = some (.pointer none) := by kernel_rfl
@[simp low] theorem zn146 (n : Nat) : zerosOf Tryd.prog 146 n = some (List.replicate n [.pointer none]).flatten := by kernel_rfl
@[simp] theorem ze146 : zerosOf Tryd.prog 146 1 = some [.pointer none] := by kernel_rfl
@[simp] theorem by146 : byOf Tryd.prog 146 = some 8 := by kernel_rfl
attribute [simp] Tryd.underlying146
@[simp] theorem sz148 : szOf Tryd.prog 148 = some 4 := by kernel_rfl
@[simp] theorem ag148 : aggOf Tryd.prog 148 = some true := by kernel_rfl
@[simp] theorem zv148 : zeroOf Tryd.prog 148 = some (.agg #[.pointer none, .pointer none, .pointer none, .string ⟨#[]⟩]) := by kernel_rfl
@[simp low] theorem zn148 (n : Nat) : zerosOf Tryd.prog 148 n = some (List.replicate n [.pointer none, .pointer none, .pointer none, .string ⟨#[]⟩]).flatten := by kernel_rfl
@[simp] theorem ze148 : zerosOf Tryd.prog 148 1 = some [.pointer none, .pointer none, .pointer none, .string ⟨#[]⟩] := by kernel_rfl
@[simp] theorem pl148 : placesOf Tryd.prog 148 = some [(0, 1), (1, 1), (2, 1), (3, 1)] := by kernel_rfl
@[simp] theorem bu148 (ps : Array (Nat × Value)) : buildV Tryd.prog 148 ps = if (ps.all fun (_, x) => !junkB x) = true then (Instr.fill (fun x => [(0, 1), (1, 1), (2, 1), (3, 1)].toArray[x]?) #[.pointer none, .pointer none, .pointer none, .string ⟨#[]⟩] ps.toList).map fun cs => .agg cs else none := buildV_struct zv148 (by kernel_rfl) (by kernel_rfl)
@[simp] theorem by148 : byOf Tryd.prog 148 = some 40 := by kernel_rfl
@[simp] theorem fo148_0 : fieldOf Tryd.prog 148 0 = some (0, 17) := by kernel_rfl
@[simp] theorem fo148_1 : fieldOf Tryd.prog 148 1 = some (1, 17) := by kernel_rfl
@[simp] theorem fo148_2 : fieldOf Tryd.prog 148 2 = some (2, 17) := by kernel_rfl
@[simp] theorem fo148_3 : fieldOf Tryd.prog 148 3 = some (3, 9) := by kernel_rfl
attribute [simp] Tryd.underlying148
@[simp] theorem sz149 : szOf Tryd.prog 149 = some 4 := by kernel_rfl
@[simp] theorem ag149 : aggOf Tryd.prog 149 = some true := by kernel_rfl
@[simp] theorem zv149 : zeroOf Tryd.prog 149 = some (.agg #[.pointer none, .pointer none, .pointer none, .string ⟨#[]⟩]) := by kernel_rfl
@[simp low] theorem zn149 (n : Nat) : zerosOf Tryd.prog 149 n = some (List.replicate n [.pointer none, .pointer none, .pointer none, .string ⟨#[]⟩]).flatten := by kernel_rfl
@[simp] theorem ze149 : zerosOf Tryd.prog 149 1 = some [.pointer none, .pointer none, .pointer none, .string ⟨#[]⟩] := by kernel_rfl
@[simp] theorem pl149 : placesOf Tryd.prog 149 = some [(0, 1), (1, 1), (2, 1), (3, 1)] := by kernel_rfl
@[simp] theorem bu149 (ps : Array (Nat × Value)) : buildV Tryd.prog 149 ps = if (ps.all fun (_, x) => !junkB x) = true then (Instr.fill (fun x => [(0, 1), (1, 1), (2, 1), (3, 1)].toArray[x]?) #[.pointer none, .pointer none, .pointer none, .string ⟨#[]⟩] ps.toList).map fun cs => .agg cs else none := buildV_struct zv149 (by kernel_rfl) (by kernel_rfl)
@[simp] theorem by149 : byOf Tryd.prog 149 = some 40 := by kernel_rfl
@[simp] theorem fo149_0 : fieldOf Tryd.prog 149 0 = some (0, 17) := by kernel_rfl
@[simp] theorem fo149_1 : fieldOf Tryd.prog 149 1 = some (1, 17) := by kernel_rfl
@[simp] theorem fo149_2 : fieldOf Tryd.prog 149 2 = some (2, 17) := by kernel_rfl
@[simp] theorem fo149_3 : fieldOf Tryd.prog 149 3 = some (3, 9) := by kernel_rfl
attribute [simp] Tryd.underlying149
@[simp] theorem sz150 : szOf Tryd.prog 150 = some 0 := by kernel_rfl
@[simp] theorem ag150 : aggOf Tryd.prog 150 = some true := by kernel_rfl
@[simp] theorem by150 : byOf Tryd.prog 150 = some 0 := by kernel_rfl
attribute [simp] Tryd.underlying150
@[simp] theorem sz151 : szOf Tryd.prog 151 = some 0 := by kernel_rfl
@[simp] theorem ag151 : aggOf Tryd.prog 151 = some true := by kernel_rfl
@[simp] theorem by151 : byOf Tryd.prog 151 = some 0 := by kernel_rfl
@[simp] theorem fo151_0 : fieldOf Tryd.prog 151 0 = some (0, 150) := by kernel_rfl
attribute [simp] Tryd.underlying151
@[simp] theorem sz152 : szOf Tryd.prog 152 = some 0 := by kernel_rfl
@[simp] theorem ag152 : aggOf Tryd.prog 152 = some true := by kernel_rfl
@[simp] theorem by152 : byOf Tryd.prog 152 = some 0 := by kernel_rfl
@[simp] theorem fo152_0 : fieldOf Tryd.prog 152 0 = some (0, 150) := by kernel_rfl
attribute [simp] Tryd.underlying152
@[simp] theorem sz153 : szOf Tryd.prog 153 = some 1 := by kernel_rfl
@[simp] theorem ag153 : aggOf Tryd.prog 153 = some false := by kernel_rfl
@[simp] theorem zv153 : zeroOf Tryd.prog 153 = some (.int .u8 0) := by kernel_rfl
@[simp low] theorem zn153 (n : Nat) : zerosOf Tryd.prog 153 n = some (List.replicate n [.int .u8 0]).flatten := by kernel_rfl
@[simp] theorem ze153 : zerosOf Tryd.prog 153 1 = some [.int .u8 0] := by kernel_rfl
@[simp] theorem by153 : byOf Tryd.prog 153 = some 1 := by kernel_rfl
attribute [simp] Tryd.underlying153
@[simp] theorem sz154 : szOf Tryd.prog 154 = some 1 := by kernel_rfl
@[simp] theorem ag154 : aggOf Tryd.prog 154 = some false := by kernel_rfl
@[simp] theorem zv154 : zeroOf Tryd.prog 154 = some (.int .u8 0) := by kernel_rfl
@[simp low] theorem zn154 (n : Nat) : zerosOf Tryd.prog 154 n = some (List.replicate n [.int .u8 0]).flatten := by kernel_rfl
@[simp] theorem ze154 : zerosOf Tryd.prog 154 1 = some [.int .u8 0] := by kernel_rfl
@[simp] theorem by154 : byOf Tryd.prog 154 = some 1 := by kernel_rfl
attribute [simp] Tryd.underlying154
@[simp] theorem sz156 : szOf Tryd.prog 156 = some 1 := by kernel_rfl
@[simp] theorem ag156 : aggOf Tryd.prog 156 = some false := by kernel_rfl
@[simp] theorem zv156 : zeroOf Tryd.prog 156 = some (.pointer none) := by kernel_rfl
@[simp low] theorem zn156 (n : Nat) : zerosOf Tryd.prog 156 n = some (List.replicate n [.pointer none]).flatten := by kernel_rfl
@[simp] theorem ze156 : zerosOf Tryd.prog 156 1 = some [.pointer none] := by kernel_rfl
@[simp] theorem by156 : byOf Tryd.prog 156 = some 8 := by kernel_rfl
attribute [simp] Tryd.underlying156
@[simp] theorem sz157 : szOf Tryd.prog 157 = some 1 := by kernel_rfl
@[simp] theorem ag157 : aggOf Tryd.prog 157 = some false := by kernel_rfl
@[simp] theorem zv157 : zeroOf Tryd.prog 157 = some (.int .i32 0) := by kernel_rfl
@[simp low] theorem zn157 (n : Nat) : zerosOf Tryd.prog 157 n = some (List.replicate n [.int .i32 0]).flatten := by kernel_rfl
@[simp] theorem ze157 : zerosOf Tryd.prog 157 1 = some [.int .i32 0] := by kernel_rfl
@[simp] theorem by157 : byOf Tryd.prog 157 = some 4 := by kernel_rfl
attribute [simp] Tryd.underlying157
@[simp] theorem sz158 : szOf Tryd.prog 158 = some 1 := by kernel_rfl
@[simp] theorem ag158 : aggOf Tryd.prog 158 = some false := by kernel_rfl
@[simp] theorem zv158 : zeroOf Tryd.prog 158 = some (.int .i32 0) := by kernel_rfl
@[simp low] theorem zn158 (n : Nat) : zerosOf Tryd.prog 158 n = some (List.replicate n [.int .i32 0]).flatten := by kernel_rfl
@[simp] theorem ze158 : zerosOf Tryd.prog 158 1 = some [.int .i32 0] := by kernel_rfl
@[simp] theorem by158 : byOf Tryd.prog 158 = some 4 := by kernel_rfl
attribute [simp] Tryd.underlying158
@[simp] theorem sz159 : szOf Tryd.prog 159 = some 11 := by kernel_rfl
@[simp] theorem ag159 : aggOf Tryd.prog 159 = some true := by kernel_rfl
@[simp] theorem fo159_0 : fieldOf Tryd.prog 159 0 = some (0, 12) := by kernel_rfl
@[simp] theorem fo159_1 : fieldOf Tryd.prog 159 1 = some (1, 12) := by kernel_rfl
@[simp] theorem fo159_2 : fieldOf Tryd.prog 159 2 = some (2, 130) := by kernel_rfl
@[simp] theorem fo159_3 : fieldOf Tryd.prog 159 3 = some (3, 153) := by kernel_rfl
@[simp] theorem fo159_4 : fieldOf Tryd.prog 159 4 = some (4, 5) := by kernel_rfl
@[simp] theorem fo159_5 : fieldOf Tryd.prog 159 5 = some (5, 5) := by kernel_rfl
@[simp] theorem fo159_6 : fieldOf Tryd.prog 159 6 = some (6, 154) := by kernel_rfl
@[simp] theorem fo159_7 : fieldOf Tryd.prog 159 7 = some (7, 155) := by kernel_rfl
@[simp] theorem fo159_8 : fieldOf Tryd.prog 159 8 = some (8, 156) := by kernel_rfl
@[simp] theorem fo159_9 : fieldOf Tryd.prog 159 9 = some (9, 157) := by kernel_rfl
@[simp] theorem fo159_10 : fieldOf Tryd.prog 159 10 = some (10, 158) := by kernel_rfl
attribute [simp] Tryd.underlying159
@[simp] theorem sz160 : szOf Tryd.prog 160 = some 11 := by kernel_rfl
@[simp] theorem ag160 : aggOf Tryd.prog 160 = some true := by kernel_rfl
@[simp] theorem fo160_0 : fieldOf Tryd.prog 160 0 = some (0, 12) := by kernel_rfl
@[simp] theorem fo160_1 : fieldOf Tryd.prog 160 1 = some (1, 12) := by kernel_rfl
@[simp] theorem fo160_2 : fieldOf Tryd.prog 160 2 = some (2, 130) := by kernel_rfl
@[simp] theorem fo160_3 : fieldOf Tryd.prog 160 3 = some (3, 153) := by kernel_rfl
@[simp] theorem fo160_4 : fieldOf Tryd.prog 160 4 = some (4, 5) := by kernel_rfl
@[simp] theorem fo160_5 : fieldOf Tryd.prog 160 5 = some (5, 5) := by kernel_rfl
@[simp] theorem fo160_6 : fieldOf Tryd.prog 160 6 = some (6, 154) := by kernel_rfl
@[simp] theorem fo160_7 : fieldOf Tryd.prog 160 7 = some (7, 155) := by kernel_rfl
@[simp] theorem fo160_8 : fieldOf Tryd.prog 160 8 = some (8, 156) := by kernel_rfl
@[simp] theorem fo160_9 : fieldOf Tryd.prog 160 9 = some (9, 157) := by kernel_rfl
@[simp] theorem fo160_10 : fieldOf Tryd.prog 160 10 = some (10, 158) := by kernel_rfl
attribute [simp] Tryd.underlying160
@[simp] theorem sz161 : szOf Tryd.prog 161 = some 1 := by kernel_rfl
@[simp] theorem ag161 : aggOf Tryd.prog 161 = some false := by kernel_rfl
attribute [simp] Tryd.underlying161
theorem ok7 : okFn Tryd.f7 = true := by kernel_rfl
theorem ok8 : okFn Tryd.f8 = true := by kernel_rfl
theorem ok18 : okFn Tryd.f18 = true := by kernel_rfl
theorem ok33 : okFn Tryd.f33 = true := by kernel_rfl
theorem ok34 : okFn Tryd.f34 = true := by kernel_rfl
theorem ok35 : okFn Tryd.f35 = true := by kernel_rfl
theorem ok36 : okFn Tryd.f36 = true := by kernel_rfl
theorem ok37 : okFn Tryd.f37 = true := by kernel_rfl
theorem ok38 : okFn Tryd.f38 = true := by kernel_rfl
theorem ok39 : okFn Tryd.f39 = true := by kernel_rfl
theorem ok40 : okFn Tryd.f40 = true := by kernel_rfl
theorem ok41 : okFn Tryd.f41 = true := by kernel_rfl
theorem ok42 : okFn Tryd.f42 = true := by kernel_rfl
theorem ok43 : okFn Tryd.f43 = true := by kernel_rfl
theorem ok44 : okFn Tryd.f44 = true := by kernel_rfl
theorem ok45 : okFn Tryd.f45 = true := by kernel_rfl
theorem ok53 : okFn Tryd.f53 = true := by kernel_rfl
theorem ok54 : okFn Tryd.f54 = true := by kernel_rfl
theorem ok55 : okFn Tryd.f55 = true := by kernel_rfl
theorem ok56 : okFn Tryd.f56 = true := by kernel_rfl
theorem ok57 : okFn Tryd.f57 = true := by kernel_rfl
theorem ok58 : okFn Tryd.f58 = true := by kernel_rfl
theorem ok59 : okFn Tryd.f59 = true := by kernel_rfl
theorem ok60 : okFn Tryd.f60 = true := by kernel_rfl
theorem ok61 : okFn Tryd.f61 = true := by kernel_rfl
theorem ok62 : okFn Tryd.f62 = true := by kernel_rfl
theorem ok63 : okFn Tryd.f63 = true := by kernel_rfl
theorem ok64 : okFn Tryd.f64 = true := by kernel_rfl
theorem ok65 : okFn Tryd.f65 = true := by kernel_rfl
theorem ok66 : okFn Tryd.f66 = true := by kernel_rfl
theorem ok69 : okFn Tryd.f69 = true := by kernel_rfl
theorem ok70 : okFn Tryd.f70 = true := by kernel_rfl
theorem ok71 : okFn Tryd.f71 = true := by kernel_rfl
theorem ok72 : okFn Tryd.f72 = true := by kernel_rfl
end Go.Proofs.YtenbclcfhjdcaaaDoor.AM
end
section
set_option maxHeartbeats 8000000
set_option linter.unusedVariables false
set_option linter.unusedSimpArgs false

/- command.Word answered at once. -/
namespace Go.Proofs.YtenbclcfhjdcaaaDoor.AM
open Go Go.Proofs
theorem mixed : Tryd.prog.follows .mixedOrders = true := by kernel_rfl
/-- The table of the spaces. -/
def tab256 : List Value := (List.range 256).map fun c => .int .u8 (if Lib.isSp (UInt8.ofNat c) then 1 else 0)
theorem gcells_tab : gcells = [(1, tab256)] := by kernel_rfl
theorem tab256_length : tab256.length = 256 := by simp [tab256]
theorem tab256_at {c : Nat} (h : c < 256) : tab256[c]? = some (.int .u8 (if Lib.isSp (UInt8.ofNat c) then 1 else 0)) := by
  unfold tab256
  rw [List.getElem?_map, List.getElem?_range h]; rfl
def tabGo : List Value → List Value → Bool
  | [], [] => true
  | .int .u8 a :: l, .int .u8 b :: m => decide (a = b) && tabGo l m
  | _, _ => false
theorem tabGo_eq : ∀ {l m : List Value}, tabGo l m = true → l = m
  | [], [], _ => rfl
  | [], _ :: _, h => by simp [tabGo] at h
  | a :: l, [], h => by cases a <;> (first | (simp [tabGo] at h; done) | (rename_i k n; cases k <;> simp [tabGo] at h))
  | a :: l, b :: m, h => by
    unfold tabGo at h
    split at h
    · rename_i h1 h2; cases h1
    · rename_i h1 h2
      cases h1; cases h2
      simp only [Bool.and_eq_true, decide_eq_true_eq] at h
      rw [h.1, tabGo_eq h.2]
    · cases h
theorem tabGo_self : tabGo tab256 tab256 = true := by decide +kernel
/-- The table of the spaces stands in memory. -/
def hasTab (σ : Heap) : Bool := match readN σ ⟨1, 0, none⟩ 256 with
  | some l => tabGo l tab256
  | none => false
theorem hasTab_eq {σ : Heap} : hasTab σ = true ↔ readN σ ⟨1, 0, none⟩ 256 = some tab256 := by
  unfold hasTab
  constructor
  · intro h
    split at h
    · rename_i l hl; rw [hl, tabGo_eq h]
    · cases h
  · intro h; rw [h]; exact tabGo_self
/-- Its answer. -/
def wordA : CallF := fun f args σ => if f = 39 then match args.toList with
  | [.int .i64 k] => if hasTab σ = true ∧ -9223372036854775808 ≤ k ∧ k ≤ 9223372036854775807 then some (.string (TW.wordOf k), σ) else none
  | _ => none
  else none
theorem word_fin {s : ByteArray} {σ : Heap} {w : World} {μ : Mu} {args' : Array Value} (hS : Sim μ σ w.heap) (h : Calls Tryd.prog 39 args' w fun e w' => e = .returned (.string s) ∧ RowKit.Below w.heap.size w w') :
    Calls Tryd.prog 39 args' w fun e w' => ∃ v' μ', e = .returned v' ∧ Val μ' (.string s) v' ∧ Sim μ' σ w'.heap ∧ Fr false μ σ w μ' σ w' := by
  refine Calls.mono h fun e w' ⟨he, hb⟩ => ?_
  exact ⟨_, μ, he, .scal rfl, ⟨fun l b N h => Nat.lt_of_lt_of_le (hS.lt l b N h) hb.size, hS.inj, fun l b N x h1 h2 h3 => by rw [hb.block b (hS.lt l b N h1)]; exact hS.blk l b N x h1 h2 h3, hS.glob⟩, ⟨fun _ _ h => h, fun _ _ _ h => .inl h, fun b hb2 _ => hb.block b hb2, fun h => (by cases h), hb.size, hb.os, hb.tape, hb.output⟩⟩
theorem wordA_ok : CallOk Tryd.prog wordA := by
  intro f args σ v σ' h
  unfold wordA at h
  split at h
  case isFalse => cases h
  rename_i hf
  subst hf
  split at h
  case h_2 => cases h
  rename_i k hargs
  split at h
  case isFalse => cases h
  rename_i hn
  obtain ⟨hr, hk⟩ := hn
  rw [hasTab_eq] at hr
  cases h
  refine ⟨.inl ⟨_, _, Tryd.func39, rfl, by decide +kernel⟩, .refl _, fun _ args' μ w hv hS _ => ?_⟩
  rw [hargs] at hv
  obtain ⟨hlen, hget⟩ := hv
  obtain ⟨x', hx'⟩ : ∃ x', args' = #[x'] := by
    match hq : args'.toList, hlen with
    | [s1], _ => exact ⟨s1, by rw [← Array.toArray_toList (xs := args'), hq]⟩
  subst hx'
  have hval : Val μ (.int .i64 k) x' := hget 0 _ x' rfl rfl
  have := scalar_val (v := .int .i64 k) rfl hval
  subst this
  obtain ⟨N, hm⟩ := hS.glob (1, tab256) (by rw [gcells_tab]; exact List.mem_singleton.2 rfl)
  obtain ⟨_, vs', hvl, hvn, hcell, C, el, fr, hblk, hC, hoff⟩ := read_sim hS (a := ⟨1, 0, none⟩) hm hr
  refine word_fin hS (TW.word_calls k w hk fun c hc => ?_)
  obtain ⟨hl1, hl2⟩ := hvl
  have hcv : c < vs'.length := by rw [hl1]; omega
  have h2 := hl2 c _ _ (tab256_at hc) (List.getElem?_eq_getElem hcv)
  have h3 := scalar_val rfl h2
  have h4 := hcell c _ (List.getElem?_eq_getElem hcv)
  rw [Nat.zero_add] at h4
  rw [h4, h3]
/-- The least memory that holds the table. -/
def σ0 : Heap := [⟨[], .dead⟩, ⟨tab256, .ro⟩]
/-- The examples, worked out over it. -/
def isTrue : Option (Value × Heap) → Bool
  | some (.bool true, _) => true
  | _ => false
theorem of_isTrue {r : Option (Value × Heap)} (h : isTrue r = true) : ∃ τ, r = some (.bool true, τ) := by
  unfold isTrue at h
  split at h
  · exact ⟨_, rfl⟩
  · cases h
def knownA : CallF := fun f args σ => if f = 41 then if args.size = 0 ∧ hasTab σ = true then some (.bool true, σ) else none else none
set_option maxRecDepth 1000000 in
theorem known_run : isTrue (acall Tryd.prog wordA 300 41 #[] σ0) = true := by decide +kernel
theorem knownA_ok : CallOk Tryd.prog knownA := by
  intro f args σ v σ' hk
  unfold knownA at hk
  split at hk
  case isFalse => cases hk
  rename_i hf
  subst hf
  split at hk
  case isFalse => cases hk
  rename_i ha
  obtain ⟨ha, ht⟩ := ha
  cases hk
  rw [hasTab_eq] at ht
  obtain ⟨τ, hc⟩ := of_isTrue known_run
  have hbd : HasBody Tryd.prog 41 := ⟨_, _, Tryd.func41, rfl, by decide +kernel⟩
  obtain ⟨h1, hle, h2⟩ := acall_sound mixed wordA_ok _ _ _ _ _ _ hc
  refine ⟨.inl hbd, .refl _, fun _ args' μ w hargs hS hU => ?_⟩
  have hz : args' = #[] := by
    have := hargs.1
    simp at this
    exact Array.eq_empty_of_size_eq_zero (by omega)
  subst hz
  obtain ⟨N, hm⟩ := hS.glob (1, tab256) (by rw [gcells_tab]; exact List.mem_singleton.2 rfl)
  obtain ⟨_, vs', hvl, hvn, hcell, C, el, fr, hblk, hC, hoff⟩ := read_sim hS (a := ⟨1, 0, none⟩) hm ht
  obtain ⟨y, hy1, hy2, hy3⟩ : ∃ y, σ[1]? = some y ∧ y.perm ≠ .dead ∧ y.cells.take 256 = tab256 := by
    unfold readN at ht
    dsimp only at ht
    cases hq : σ[1]? with
    | none => rw [hq] at ht; cases ht
    | some y =>
      rw [hq] at ht
      dsimp only at ht
      split at ht
      · rename_i hc
        exact ⟨y, rfl, hc.1, by simpa using Option.some.inj ht⟩
      · cases ht
  have hS0 : Sim (fun l => if l = 1 then some (1, N) else none) σ0 w.heap := by
    refine ⟨fun l b M h => ?_, fun l1 l2 b N1 N2 hne m1 m2 _ _ => ?_, fun l b M x m hx hd => ?_, fun p hp => ?_⟩
    · split at h
      · cases h; exact hS.lt _ _ _ hm
      · cases h
    · split at m1
      · split at m2
        · omega
        · cases m2
      · cases m1
    · split at m
      · rename_i hl
        subst hl
        cases m
        cases hx
        refine ⟨C, el, fr, hblk, hC, fun h => (by cases h), fun j v hj => ?_⟩
        have hj' : tab256[j]? = some v := hj
        have hlt : j < 256 := by rw [← tab256_length]; exact (List.getElem?_eq_some_iff.1 hj').1
        have hv := tab256_at hlt
        obtain ⟨c, e2, fr2, q1, q2, q3, q4⟩ := hS.blk 1 1 N y hm hy1 hy2
        have hcC : c = C := by rw [hblk] at q1; cases q1; rfl
        subst hcC
        obtain ⟨v', q5, q6⟩ := q4 j v (by rw [← hy3, List.getElem?_take_of_lt hlt] at hj'; exact hj')
        rw [hj'] at hv
        cases hv
        have := scalar_val rfl q6
        subst this
        exact ⟨_, q5, .scal rfl⟩
      · cases m
    · rw [gcells_tab] at hp
      obtain rfl := List.mem_singleton.1 hp
      exact ⟨N, rfl⟩
  refine Calls.mono (h2 hbd #[] _ w .nil hS0 (fun l hl => ?_)) fun e w' ⟨v', μ', he, k1, k2, k3⟩ => ?_
  · intro _
    exact if_neg (by have : σ0.length = 2 := rfl; omega)
  have same : ∀ b, b < w.heap.size → w'.heap[b]? = w.heap[b]? := fun b hb => k3.keep b hb fun l M h hfull => (by
    split at h
    · rename_i hl
      subst hl
      obtain ⟨x, hx, hp⟩ := hfull
      cases hx; cases hp
    · cases h)
  refine ⟨v', μ, he, ?_, ⟨fun l b N h => Nat.lt_of_lt_of_le (hS.lt l b N h) k3.size, hS.inj, fun l b N x h1 h2 h3 => by rw [same b (hS.lt l b N h1)]; exact hS.blk l b N x h1 h2 h3, hS.glob⟩, ⟨fun _ _ h => h, fun _ _ _ h => .inl h, fun b hb _ => same b hb, fun h => (by cases h), k3.size, k3.os, k3.tape, k3.output⟩⟩
  rw [scalar_val (v := .bool true) rfl k1]
  exact .scal rfl
def prims : CallF := withPrim knownA wordA
theorem prims_ok : CallOk Tryd.prog prims := withPrim_ok knownA_ok wordA_ok
end Go.Proofs.YtenbclcfhjdcaaaDoor.AM
end
section
set_option maxHeartbeats 8000000
set_option linter.unusedVariables false
set_option linter.unusedSimpArgs false

/- Words of the walks over the abstract machine: this seat's calls whose answer is known. -/
namespace Go.Proofs.YtenbclcfhjdcaaaDoor.AM
open Go Go.Proofs
/-- A call that leaves what stands, and answers v. -/
def Ans (f : FuncId) (args : Array Value) (σ : Heap) (v : Value) : Prop := AC Tryd.prog prims f args σ fun u σ' => u = v ∧ ∃ τ, σ' = σ ++ τ
theorem Ans.mk {f : FuncId} {args : Array Value} {σ : Heap} {v : Value} (h : AC Tryd.prog prims f args σ fun u σ' => u = v ∧ ∃ τ, σ' = σ ++ τ) : Ans f args σ v := h
/-- At a call. -/
theorem Ans.call {f : FuncId} {args : Array Value} {σ : Heap} {v : Value} {R : Value → Heap → Prop} (h : Ans f args σ v) (hr : ∀ τ, R v (σ ++ τ)) : @CALL Tryd.prog prims f args σ ⟨R⟩ :=
  CALL.of h fun _ _ ⟨e, τ, e2⟩ => by subst e; subst e2; exact hr τ
theorem ex_app (σ : Heap) (τ : Heap) : ∃ ρ, σ ++ τ = σ ++ ρ := ⟨τ, rfl⟩
theorem ex_nil (σ : Heap) : ∃ ρ : Heap, σ = σ ++ ρ := ⟨[], by simp⟩
@[simp] theorem ex_self (σ : Heap) : (∃ ρ : Heap, σ = σ ++ ρ) ↔ True := ⟨fun _ => trivial, fun _ => ex_nil σ⟩
@[simp] theorem ex_same (σ τ : Heap) : (∃ ρ : Heap, τ = ρ) ↔ True := ⟨fun _ => trivial, fun _ => ⟨τ, rfl⟩⟩
end Go.Proofs.YtenbclcfhjdcaaaDoor.AM
end
section
set_option maxHeartbeats 8000000
set_option linter.unusedVariables false
set_option linter.unusedSimpArgs false

/- Words of the walks over the machine of values. -/
namespace Go.Proofs.YtenbclcfhjdcaaaDoor.VM
open Go Go.Proofs AM
theorem hC (n : Nat) : CallOk Tryd.prog (acall Tryd.prog prims n) := acall_sound mixed prims_ok n
def noP (f : FuncId) : Bool := f != 39 && f != 41
theorem kn_none {f : FuncId} {xs : Array Value} {σ : Heap} (h : noP f = true) : prims f xs σ = none := by
  unfold noP at h
  simp only [bne_iff_ne, ne_eq, Bool.and_eq_true] at h
  unfold prims withPrim knownA wordA
  rw [if_neg h.2]
  simp only [if_neg h.1]
theorem prims_word (us : Array Value) (σ : Heap) : prims 39 us σ = wordA 39 us σ := rfl
theorem prims_known (us : Array Value) (σ : Heap) : prims 41 us σ = knownA 41 us σ := by
  unfold prims withPrim
  have : wordA 41 us σ = none := by unfold wordA; rw [if_neg (by decide)]
  rw [this]
  cases knownA 41 us σ <;> rfl
theorem w64 {n : Int} (h : -9223372036854775808 ≤ n ∧ n ≤ 9223372036854775807) : IntKind.i64.wrap n = n := IntWalk.i64_in n h
abbrev A (f : FuncId) (args : List V) (v : V) : Prop := Ans Tryd.prog prims f args v
abbrev AO (f : FuncId) (args : List V) (s : Nat) (rows : List (List V)) : Prop := AnsO Tryd.prog prims f args s rows
abbrev AK (f : FuncId) (args : List V) (v : Nat → V) (y : Ob) : Prop := AnsK Tryd.prog prims f args v y
def bo (b : Bool) : V := .lit (.bool b)
def i6 (n : Int) : V := .lit (.int .i64 n)
@[simp] theorem take_map_len {α β : Type} {f : α → β} {l : List α} : (l.map f).take l.length = l.map f := List.take_of_length_le (by simp)
attribute [simp] bo i6
end Go.Proofs.YtenbclcfhjdcaaaDoor.VM
end
