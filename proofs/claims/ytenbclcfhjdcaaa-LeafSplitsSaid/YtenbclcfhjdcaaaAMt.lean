/- What is asked of the seat's types and functions. -/
import Derived.Test.YtenbclcfhjdcaaaAMy
import Derived.Test.YtenbclcfhjdcaaaProg
import Derived.KernelRfl
namespace Go.Proofs.Ytenbclcfhjdcaaa.AM
open Go Go.Proofs
attribute [simp] Instr.fill
@[simp] theorem sz2 : szOf Try.prog 2 = some 1 := by kernel_rfl
@[simp] theorem ag2 : aggOf Try.prog 2 = some false := by kernel_rfl
@[simp] theorem zv2 : zeroOf Try.prog 2 = some (.int .i64 0) := by kernel_rfl
@[simp low] theorem zn2 (n : Nat) : zerosOf Try.prog 2 n = some (List.replicate n [.int .i64 0]).flatten := by kernel_rfl
@[simp] theorem ze2 : zerosOf Try.prog 2 1 = some [.int .i64 0] := by kernel_rfl
@[simp] theorem by2 : byOf Try.prog 2 = some 8 := by kernel_rfl
attribute [simp] Try.underlying2
@[simp] theorem sz3 : szOf Try.prog 3 = some 1 := by kernel_rfl
@[simp] theorem ag3 : aggOf Try.prog 3 = some false := by kernel_rfl
@[simp] theorem zv3 : zeroOf Try.prog 3 = some (.int .i64 0) := by kernel_rfl
@[simp low] theorem zn3 (n : Nat) : zerosOf Try.prog 3 n = some (List.replicate n [.int .i64 0]).flatten := by kernel_rfl
@[simp] theorem ze3 : zerosOf Try.prog 3 1 = some [.int .i64 0] := by kernel_rfl
@[simp] theorem by3 : byOf Try.prog 3 = some 8 := by kernel_rfl
attribute [simp] Try.underlying3
@[simp] theorem sz4 : szOf Try.prog 4 = some 1 := by kernel_rfl
@[simp] theorem ag4 : aggOf Try.prog 4 = some false := by kernel_rfl
@[simp] theorem zv4 : zeroOf Try.prog 4 = some (.bool false) := by kernel_rfl
@[simp low] theorem zn4 (n : Nat) : zerosOf Try.prog 4 n = some (List.replicate n [.bool false]).flatten := by kernel_rfl
@[simp] theorem ze4 : zerosOf Try.prog 4 1 = some [.bool false] := by kernel_rfl
@[simp] theorem by4 : byOf Try.prog 4 = some 1 := by kernel_rfl
attribute [simp] Try.underlying4
@[simp] theorem sz5 : szOf Try.prog 5 = some 1 := by kernel_rfl
@[simp] theorem ag5 : aggOf Try.prog 5 = some false := by kernel_rfl
@[simp] theorem zv5 : zeroOf Try.prog 5 = some (.int .u8 0) := by kernel_rfl
@[simp low] theorem zn5 (n : Nat) : zerosOf Try.prog 5 n = some (List.replicate n [.int .u8 0]).flatten := by kernel_rfl
@[simp] theorem ze5 : zerosOf Try.prog 5 1 = some [.int .u8 0] := by kernel_rfl
@[simp] theorem by5 : byOf Try.prog 5 = some 1 := by kernel_rfl
attribute [simp] Try.underlying5
@[simp] theorem sz6 : szOf Try.prog 6 = some 1 := by kernel_rfl
@[simp] theorem ag6 : aggOf Try.prog 6 = some false := by kernel_rfl
@[simp] theorem zv6 : zeroOf Try.prog 6 = some (.int .u8 0) := by kernel_rfl
@[simp low] theorem zn6 (n : Nat) : zerosOf Try.prog 6 n = some (List.replicate n [.int .u8 0]).flatten := by kernel_rfl
@[simp] theorem ze6 : zerosOf Try.prog 6 1 = some [.int .u8 0] := by kernel_rfl
@[simp] theorem by6 : byOf Try.prog 6 = some 1 := by kernel_rfl
attribute [simp] Try.underlying6
@[simp] theorem sz7 : szOf Try.prog 7 = some 4 := by kernel_rfl
@[simp] theorem ag7 : aggOf Try.prog 7 = some true := by kernel_rfl
@[simp] theorem zv7 : zeroOf Try.prog 7 = some (.agg #[.int .i64 0, .int .i64 0, .bool false, .int .u8 0]) := by kernel_rfl
@[simp low] theorem zn7 (n : Nat) : zerosOf Try.prog 7 n = some (List.replicate n [.int .i64 0, .int .i64 0, .bool false, .int .u8 0]).flatten := by kernel_rfl
@[simp] theorem ze7 : zerosOf Try.prog 7 1 = some [.int .i64 0, .int .i64 0, .bool false, .int .u8 0] := by kernel_rfl
@[simp] theorem pl7 : placesOf Try.prog 7 = some [(0, 1), (1, 1), (2, 1), (3, 1)] := by kernel_rfl
@[simp] theorem bu7 (ps : Array (Nat × Value)) : buildV Try.prog 7 ps = if (ps.all fun (_, x) => !junkB x) = true then (Instr.fill (fun x => [(0, 1), (1, 1), (2, 1), (3, 1)].toArray[x]?) #[.int .i64 0, .int .i64 0, .bool false, .int .u8 0] ps.toList).map fun cs => .agg cs else none := buildV_struct zv7 (by kernel_rfl) pl7
@[simp] theorem by7 : byOf Try.prog 7 = some 24 := by kernel_rfl
@[simp] theorem fo7_0 : fieldOf Try.prog 7 0 = some (0, 2) := by kernel_rfl
@[simp] theorem fo7_1 : fieldOf Try.prog 7 1 = some (1, 3) := by kernel_rfl
@[simp] theorem fo7_2 : fieldOf Try.prog 7 2 = some (2, 4) := by kernel_rfl
@[simp] theorem fo7_3 : fieldOf Try.prog 7 3 = some (3, 6) := by kernel_rfl
attribute [simp] Try.underlying7
@[simp] theorem sz8 : szOf Try.prog 8 = some 4 := by kernel_rfl
@[simp] theorem ag8 : aggOf Try.prog 8 = some true := by kernel_rfl
@[simp] theorem zv8 : zeroOf Try.prog 8 = some (.agg #[.int .i64 0, .int .i64 0, .bool false, .int .u8 0]) := by kernel_rfl
@[simp low] theorem zn8 (n : Nat) : zerosOf Try.prog 8 n = some (List.replicate n [.int .i64 0, .int .i64 0, .bool false, .int .u8 0]).flatten := by kernel_rfl
@[simp] theorem ze8 : zerosOf Try.prog 8 1 = some [.int .i64 0, .int .i64 0, .bool false, .int .u8 0] := by kernel_rfl
@[simp] theorem pl8 : placesOf Try.prog 8 = some [(0, 1), (1, 1), (2, 1), (3, 1)] := by kernel_rfl
@[simp] theorem bu8 (ps : Array (Nat × Value)) : buildV Try.prog 8 ps = if (ps.all fun (_, x) => !junkB x) = true then (Instr.fill (fun x => [(0, 1), (1, 1), (2, 1), (3, 1)].toArray[x]?) #[.int .i64 0, .int .i64 0, .bool false, .int .u8 0] ps.toList).map fun cs => .agg cs else none := buildV_struct zv8 (by kernel_rfl) pl8
@[simp] theorem by8 : byOf Try.prog 8 = some 24 := by kernel_rfl
@[simp] theorem fo8_0 : fieldOf Try.prog 8 0 = some (0, 2) := by kernel_rfl
@[simp] theorem fo8_1 : fieldOf Try.prog 8 1 = some (1, 3) := by kernel_rfl
@[simp] theorem fo8_2 : fieldOf Try.prog 8 2 = some (2, 4) := by kernel_rfl
@[simp] theorem fo8_3 : fieldOf Try.prog 8 3 = some (3, 6) := by kernel_rfl
attribute [simp] Try.underlying8
@[simp] theorem sz9 : szOf Try.prog 9 = some 1 := by kernel_rfl
@[simp] theorem ag9 : aggOf Try.prog 9 = some false := by kernel_rfl
@[simp] theorem zv9 : zeroOf Try.prog 9 = some (.string ⟨#[]⟩) := by kernel_rfl
@[simp low] theorem zn9 (n : Nat) : zerosOf Try.prog 9 n = some (List.replicate n [.string ⟨#[]⟩]).flatten := by kernel_rfl
@[simp] theorem ze9 : zerosOf Try.prog 9 1 = some [.string ⟨#[]⟩] := by kernel_rfl
@[simp] theorem by9 : byOf Try.prog 9 = some 16 := by kernel_rfl
attribute [simp] Try.underlying9
@[simp] theorem sz10 : szOf Try.prog 10 = some 1 := by kernel_rfl
@[simp] theorem ag10 : aggOf Try.prog 10 = some false := by kernel_rfl
@[simp] theorem zv10 : zeroOf Try.prog 10 = some (.string ⟨#[]⟩) := by kernel_rfl
@[simp low] theorem zn10 (n : Nat) : zerosOf Try.prog 10 n = some (List.replicate n [.string ⟨#[]⟩]).flatten := by kernel_rfl
@[simp] theorem ze10 : zerosOf Try.prog 10 1 = some [.string ⟨#[]⟩] := by kernel_rfl
@[simp] theorem by10 : byOf Try.prog 10 = some 16 := by kernel_rfl
attribute [simp] Try.underlying10
@[simp] theorem sz11 : szOf Try.prog 11 = some 1 := by kernel_rfl
@[simp] theorem ag11 : aggOf Try.prog 11 = some false := by kernel_rfl
@[simp] theorem zv11 : zeroOf Try.prog 11 = some (.string ⟨#[]⟩) := by kernel_rfl
@[simp low] theorem zn11 (n : Nat) : zerosOf Try.prog 11 n = some (List.replicate n [.string ⟨#[]⟩]).flatten := by kernel_rfl
@[simp] theorem ze11 : zerosOf Try.prog 11 1 = some [.string ⟨#[]⟩] := by kernel_rfl
@[simp] theorem by11 : byOf Try.prog 11 = some 16 := by kernel_rfl
attribute [simp] Try.underlying11
@[simp] theorem sz12 : szOf Try.prog 12 = some 1 := by kernel_rfl
@[simp] theorem ag12 : aggOf Try.prog 12 = some false := by kernel_rfl
@[simp] theorem zv12 : zeroOf Try.prog 12 = some (.int .u64 0) := by kernel_rfl
@[simp low] theorem zn12 (n : Nat) : zerosOf Try.prog 12 n = some (List.replicate n [.int .u64 0]).flatten := by kernel_rfl
@[simp] theorem ze12 : zerosOf Try.prog 12 1 = some [.int .u64 0] := by kernel_rfl
@[simp] theorem by12 : byOf Try.prog 12 = some 8 := by kernel_rfl
attribute [simp] Try.underlying12
@[simp] theorem sz13 : szOf Try.prog 13 = some 2 := by kernel_rfl
@[simp] theorem ag13 : aggOf Try.prog 13 = some true := by kernel_rfl
@[simp] theorem zv13 : zeroOf Try.prog 13 = some (.agg #[.string ⟨#[]⟩, .int .u64 0]) := by kernel_rfl
@[simp low] theorem zn13 (n : Nat) : zerosOf Try.prog 13 n = some (List.replicate n [.string ⟨#[]⟩, .int .u64 0]).flatten := by kernel_rfl
@[simp] theorem ze13 : zerosOf Try.prog 13 1 = some [.string ⟨#[]⟩, .int .u64 0] := by kernel_rfl
@[simp] theorem pl13 : placesOf Try.prog 13 = some [(0, 1), (1, 1)] := by kernel_rfl
@[simp] theorem bu13 (ps : Array (Nat × Value)) : buildV Try.prog 13 ps = if (ps.all fun (_, x) => !junkB x) = true then (Instr.fill (fun x => [(0, 1), (1, 1)].toArray[x]?) #[.string ⟨#[]⟩, .int .u64 0] ps.toList).map fun cs => .agg cs else none := buildV_struct zv13 (by kernel_rfl) pl13
@[simp] theorem by13 : byOf Try.prog 13 = some 24 := by kernel_rfl
@[simp] theorem fo13_0 : fieldOf Try.prog 13 0 = some (0, 9) := by kernel_rfl
@[simp] theorem fo13_1 : fieldOf Try.prog 13 1 = some (1, 12) := by kernel_rfl
attribute [simp] Try.underlying13
@[simp] theorem sz14 : szOf Try.prog 14 = some 2 := by kernel_rfl
@[simp] theorem ag14 : aggOf Try.prog 14 = some true := by kernel_rfl
@[simp] theorem zv14 : zeroOf Try.prog 14 = some (.agg #[.string ⟨#[]⟩, .int .u64 0]) := by kernel_rfl
@[simp low] theorem zn14 (n : Nat) : zerosOf Try.prog 14 n = some (List.replicate n [.string ⟨#[]⟩, .int .u64 0]).flatten := by kernel_rfl
@[simp] theorem ze14 : zerosOf Try.prog 14 1 = some [.string ⟨#[]⟩, .int .u64 0] := by kernel_rfl
@[simp] theorem pl14 : placesOf Try.prog 14 = some [(0, 1), (1, 1)] := by kernel_rfl
@[simp] theorem bu14 (ps : Array (Nat × Value)) : buildV Try.prog 14 ps = if (ps.all fun (_, x) => !junkB x) = true then (Instr.fill (fun x => [(0, 1), (1, 1)].toArray[x]?) #[.string ⟨#[]⟩, .int .u64 0] ps.toList).map fun cs => .agg cs else none := buildV_struct zv14 (by kernel_rfl) pl14
@[simp] theorem by14 : byOf Try.prog 14 = some 24 := by kernel_rfl
@[simp] theorem fo14_0 : fieldOf Try.prog 14 0 = some (0, 9) := by kernel_rfl
@[simp] theorem fo14_1 : fieldOf Try.prog 14 1 = some (1, 12) := by kernel_rfl
attribute [simp] Try.underlying14
@[simp] theorem sz15 : szOf Try.prog 15 = some 1 := by kernel_rfl
@[simp] theorem ag15 : aggOf Try.prog 15 = some false := by kernel_rfl
@[simp] theorem zv15 : zeroOf Try.prog 15 = some (.pointer none) := by kernel_rfl
@[simp low] theorem zn15 (n : Nat) : zerosOf Try.prog 15 n = some (List.replicate n [.pointer none]).flatten := by kernel_rfl
@[simp] theorem ze15 : zerosOf Try.prog 15 1 = some [.pointer none] := by kernel_rfl
@[simp] theorem by15 : byOf Try.prog 15 = some 8 := by kernel_rfl
attribute [simp] Try.underlying15
@[simp] theorem sz16 : szOf Try.prog 16 = some 1 := by kernel_rfl
@[simp] theorem ag16 : aggOf Try.prog 16 = some false := by kernel_rfl
@[simp] theorem zv16 : zeroOf Try.prog 16 = some (.pointer none) := by kernel_rfl
@[simp low] theorem zn16 (n : Nat) : zerosOf Try.prog 16 n = some (List.replicate n [.pointer none]).flatten := by kernel_rfl
@[simp] theorem ze16 : zerosOf Try.prog 16 1 = some [.pointer none] := by kernel_rfl
@[simp] theorem by16 : byOf Try.prog 16 = some 8 := by kernel_rfl
attribute [simp] Try.underlying16
@[simp] theorem sz17 : szOf Try.prog 17 = some 1 := by kernel_rfl
@[simp] theorem ag17 : aggOf Try.prog 17 = some false := by kernel_rfl
@[simp] theorem zv17 : zeroOf Try.prog 17 = some (.pointer none) := by kernel_rfl
@[simp low] theorem zn17 (n : Nat) : zerosOf Try.prog 17 n = some (List.replicate n [.pointer none]).flatten := by kernel_rfl
@[simp] theorem ze17 : zerosOf Try.prog 17 1 = some [.pointer none] := by kernel_rfl
@[simp] theorem by17 : byOf Try.prog 17 = some 8 := by kernel_rfl
attribute [simp] Try.underlying17
@[simp] theorem sz18 : szOf Try.prog 18 = some 1 := by kernel_rfl
@[simp] theorem ag18 : aggOf Try.prog 18 = some true := by kernel_rfl
@[simp] theorem zv18 : zeroOf Try.prog 18 = some (.agg #[.pointer none]) := by kernel_rfl
@[simp low] theorem zn18 (n : Nat) : zerosOf Try.prog 18 n = some (List.replicate n [.pointer none]).flatten := by kernel_rfl
@[simp] theorem ze18 : zerosOf Try.prog 18 1 = some [.pointer none] := by kernel_rfl
@[simp] theorem pl18 : placesOf Try.prog 18 = some [(0, 1)] := by kernel_rfl
@[simp] theorem bu18 (ps : Array (Nat × Value)) : buildV Try.prog 18 ps = if (ps.all fun (_, x) => !junkB x) = true then (Instr.fill (fun x => [(0, 1)].toArray[x]?) #[.pointer none] ps.toList).map fun cs => .agg cs else none := buildV_struct zv18 (by kernel_rfl) pl18
@[simp] theorem by18 : byOf Try.prog 18 = some 8 := by kernel_rfl
@[simp] theorem fo18_0 : fieldOf Try.prog 18 0 = some (0, 17) := by kernel_rfl
attribute [simp] Try.underlying18
@[simp] theorem sz19 : szOf Try.prog 19 = some 1 := by kernel_rfl
@[simp] theorem ag19 : aggOf Try.prog 19 = some true := by kernel_rfl
@[simp] theorem zv19 : zeroOf Try.prog 19 = some (.agg #[.pointer none]) := by kernel_rfl
@[simp low] theorem zn19 (n : Nat) : zerosOf Try.prog 19 n = some (List.replicate n [.pointer none]).flatten := by kernel_rfl
@[simp] theorem ze19 : zerosOf Try.prog 19 1 = some [.pointer none] := by kernel_rfl
@[simp] theorem pl19 : placesOf Try.prog 19 = some [(0, 1)] := by kernel_rfl
@[simp] theorem bu19 (ps : Array (Nat × Value)) : buildV Try.prog 19 ps = if (ps.all fun (_, x) => !junkB x) = true then (Instr.fill (fun x => [(0, 1)].toArray[x]?) #[.pointer none] ps.toList).map fun cs => .agg cs else none := buildV_struct zv19 (by kernel_rfl) pl19
@[simp] theorem by19 : byOf Try.prog 19 = some 8 := by kernel_rfl
@[simp] theorem fo19_0 : fieldOf Try.prog 19 0 = some (0, 17) := by kernel_rfl
attribute [simp] Try.underlying19
@[simp] theorem sz21 : szOf Try.prog 21 = some 1 := by kernel_rfl
@[simp] theorem ag21 : aggOf Try.prog 21 = some false := by kernel_rfl
@[simp] theorem zv21 : zeroOf Try.prog 21 = some (.int .i32 0) := by kernel_rfl
@[simp low] theorem zn21 (n : Nat) : zerosOf Try.prog 21 n = some (List.replicate n [.int .i32 0]).flatten := by kernel_rfl
@[simp] theorem ze21 : zerosOf Try.prog 21 1 = some [.int .i32 0] := by kernel_rfl
@[simp] theorem by21 : byOf Try.prog 21 = some 4 := by kernel_rfl
attribute [simp] Try.underlying21
@[simp] theorem sz22 : szOf Try.prog 22 = some 1 := by kernel_rfl
@[simp] theorem ag22 : aggOf Try.prog 22 = some false := by kernel_rfl
@[simp] theorem zv22 : zeroOf Try.prog 22 = some (.slice none 0 0) := by kernel_rfl
@[simp low] theorem zn22 (n : Nat) : zerosOf Try.prog 22 n = some (List.replicate n [.slice none 0 0]).flatten := by kernel_rfl
@[simp] theorem ze22 : zerosOf Try.prog 22 1 = some [.slice none 0 0] := by kernel_rfl
@[simp] theorem by22 : byOf Try.prog 22 = some 24 := by kernel_rfl
attribute [simp] Try.underlying22
@[simp] theorem sz23 : szOf Try.prog 23 = some 1 := by kernel_rfl
@[simp] theorem ag23 : aggOf Try.prog 23 = some false := by kernel_rfl
@[simp] theorem zv23 : zeroOf Try.prog 23 = some (.slice none 0 0) := by kernel_rfl
@[simp low] theorem zn23 (n : Nat) : zerosOf Try.prog 23 n = some (List.replicate n [.slice none 0 0]).flatten := by kernel_rfl
@[simp] theorem ze23 : zerosOf Try.prog 23 1 = some [.slice none 0 0] := by kernel_rfl
@[simp] theorem by23 : byOf Try.prog 23 = some 24 := by kernel_rfl
attribute [simp] Try.underlying23
@[simp] theorem sz24 : szOf Try.prog 24 = some 1 := by kernel_rfl
@[simp] theorem ag24 : aggOf Try.prog 24 = some false := by kernel_rfl
@[simp] theorem zv24 : zeroOf Try.prog 24 = some (.pointer none) := by kernel_rfl
@[simp low] theorem zn24 (n : Nat) : zerosOf Try.prog 24 n = some (List.replicate n [.pointer none]).flatten := by kernel_rfl
@[simp] theorem ze24 : zerosOf Try.prog 24 1 = some [.pointer none] := by kernel_rfl
@[simp] theorem by24 : byOf Try.prog 24 = some 8 := by kernel_rfl
attribute [simp] Try.underlying24
@[simp] theorem sz25 : szOf Try.prog 25 = some 1 := by kernel_rfl
@[simp] theorem ag25 : aggOf Try.prog 25 = some false := by kernel_rfl
@[simp] theorem zv25 : zeroOf Try.prog 25 = some (.int .i64 0) := by kernel_rfl
@[simp low] theorem zn25 (n : Nat) : zerosOf Try.prog 25 n = some (List.replicate n [.int .i64 0]).flatten := by kernel_rfl
@[simp] theorem ze25 : zerosOf Try.prog 25 1 = some [.int .i64 0] := by kernel_rfl
@[simp] theorem by25 : byOf Try.prog 25 = some 8 := by kernel_rfl
attribute [simp] Try.underlying25
@[simp] theorem sz35 : szOf Try.prog 35 = some 1 := by kernel_rfl
@[simp] theorem ag35 : aggOf Try.prog 35 = some false := by kernel_rfl
@[simp] theorem zv35 : zeroOf Try.prog 35 = some (.slice none 0 0) := by kernel_rfl
@[simp low] theorem zn35 (n : Nat) : zerosOf Try.prog 35 n = some (List.replicate n [.slice none 0 0]).flatten := by kernel_rfl
@[simp] theorem ze35 : zerosOf Try.prog 35 1 = some [.slice none 0 0] := by kernel_rfl
@[simp] theorem by35 : byOf Try.prog 35 = some 24 := by kernel_rfl
attribute [simp] Try.underlying35
@[simp] theorem sz36 : szOf Try.prog 36 = some 2 := by kernel_rfl
@[simp] theorem ag36 : aggOf Try.prog 36 = some true := by kernel_rfl
@[simp] theorem zv36 : zeroOf Try.prog 36 = some (.agg #[.bool false, .slice none 0 0]) := by kernel_rfl
@[simp low] theorem zn36 (n : Nat) : zerosOf Try.prog 36 n = some (List.replicate n [.bool false, .slice none 0 0]).flatten := by kernel_rfl
@[simp] theorem ze36 : zerosOf Try.prog 36 1 = some [.bool false, .slice none 0 0] := by kernel_rfl
@[simp] theorem pl36 : placesOf Try.prog 36 = some [(0, 1), (1, 1)] := by kernel_rfl
@[simp] theorem bu36 (ps : Array (Nat × Value)) : buildV Try.prog 36 ps = if (ps.all fun (_, x) => !junkB x) = true then (Instr.fill (fun x => [(0, 1), (1, 1)].toArray[x]?) #[.bool false, .slice none 0 0] ps.toList).map fun cs => .agg cs else none := buildV_struct zv36 (by kernel_rfl) pl36
@[simp] theorem by36 : byOf Try.prog 36 = some 32 := by kernel_rfl
@[simp] theorem fo36_0 : fieldOf Try.prog 36 0 = some (0, 4) := by kernel_rfl
@[simp] theorem fo36_1 : fieldOf Try.prog 36 1 = some (1, 35) := by kernel_rfl
attribute [simp] Try.underlying36
@[simp] theorem sz37 : szOf Try.prog 37 = some 2 := by kernel_rfl
@[simp] theorem ag37 : aggOf Try.prog 37 = some true := by kernel_rfl
@[simp] theorem zv37 : zeroOf Try.prog 37 = some (.agg #[.bool false, .slice none 0 0]) := by kernel_rfl
@[simp low] theorem zn37 (n : Nat) : zerosOf Try.prog 37 n = some (List.replicate n [.bool false, .slice none 0 0]).flatten := by kernel_rfl
@[simp] theorem ze37 : zerosOf Try.prog 37 1 = some [.bool false, .slice none 0 0] := by kernel_rfl
@[simp] theorem pl37 : placesOf Try.prog 37 = some [(0, 1), (1, 1)] := by kernel_rfl
@[simp] theorem bu37 (ps : Array (Nat × Value)) : buildV Try.prog 37 ps = if (ps.all fun (_, x) => !junkB x) = true then (Instr.fill (fun x => [(0, 1), (1, 1)].toArray[x]?) #[.bool false, .slice none 0 0] ps.toList).map fun cs => .agg cs else none := buildV_struct zv37 (by kernel_rfl) pl37
@[simp] theorem by37 : byOf Try.prog 37 = some 32 := by kernel_rfl
@[simp] theorem fo37_0 : fieldOf Try.prog 37 0 = some (0, 4) := by kernel_rfl
@[simp] theorem fo37_1 : fieldOf Try.prog 37 1 = some (1, 35) := by kernel_rfl
attribute [simp] Try.underlying37
@[simp] theorem sz38 : szOf Try.prog 38 = some 2 := by kernel_rfl
@[simp] theorem ag38 : aggOf Try.prog 38 = some true := by kernel_rfl
@[simp] theorem zv38 : zeroOf Try.prog 38 = some (.agg #[.int .i64 0, .int .i64 0]) := by kernel_rfl
@[simp low] theorem zn38 (n : Nat) : zerosOf Try.prog 38 n = some (List.replicate n [.int .i64 0, .int .i64 0]).flatten := by kernel_rfl
@[simp] theorem ze38 : zerosOf Try.prog 38 1 = some [.int .i64 0, .int .i64 0] := by kernel_rfl
@[simp] theorem pl38 : placesOf Try.prog 38 = some [(0, 1), (1, 1)] := by kernel_rfl
@[simp] theorem bu38 (ps : Array (Nat × Value)) : buildV Try.prog 38 ps = if (ps.all fun (_, x) => !junkB x) = true then (Instr.fill (fun x => [(0, 1), (1, 1)].toArray[x]?) #[.int .i64 0, .int .i64 0] ps.toList).map fun cs => .agg cs else none := buildV_struct zv38 (by kernel_rfl) pl38
@[simp] theorem by38 : byOf Try.prog 38 = some 16 := by kernel_rfl
@[simp] theorem fo38_0 : fieldOf Try.prog 38 0 = some (0, 3) := by kernel_rfl
@[simp] theorem fo38_1 : fieldOf Try.prog 38 1 = some (1, 3) := by kernel_rfl
attribute [simp] Try.underlying38
@[simp] theorem sz39 : szOf Try.prog 39 = some 2 := by kernel_rfl
@[simp] theorem ag39 : aggOf Try.prog 39 = some true := by kernel_rfl
@[simp] theorem zv39 : zeroOf Try.prog 39 = some (.agg #[.int .i64 0, .int .i64 0]) := by kernel_rfl
@[simp low] theorem zn39 (n : Nat) : zerosOf Try.prog 39 n = some (List.replicate n [.int .i64 0, .int .i64 0]).flatten := by kernel_rfl
@[simp] theorem ze39 : zerosOf Try.prog 39 1 = some [.int .i64 0, .int .i64 0] := by kernel_rfl
@[simp] theorem pl39 : placesOf Try.prog 39 = some [(0, 1), (1, 1)] := by kernel_rfl
@[simp] theorem bu39 (ps : Array (Nat × Value)) : buildV Try.prog 39 ps = if (ps.all fun (_, x) => !junkB x) = true then (Instr.fill (fun x => [(0, 1), (1, 1)].toArray[x]?) #[.int .i64 0, .int .i64 0] ps.toList).map fun cs => .agg cs else none := buildV_struct zv39 (by kernel_rfl) pl39
@[simp] theorem by39 : byOf Try.prog 39 = some 16 := by kernel_rfl
@[simp] theorem fo39_0 : fieldOf Try.prog 39 0 = some (0, 3) := by kernel_rfl
@[simp] theorem fo39_1 : fieldOf Try.prog 39 1 = some (1, 3) := by kernel_rfl
attribute [simp] Try.underlying39
@[simp] theorem sz40 : szOf Try.prog 40 = some 1 := by kernel_rfl
@[simp] theorem ag40 : aggOf Try.prog 40 = some false := by kernel_rfl
@[simp] theorem zv40 : zeroOf Try.prog 40 = some (.slice none 0 0) := by kernel_rfl
@[simp low] theorem zn40 (n : Nat) : zerosOf Try.prog 40 n = some (List.replicate n [.slice none 0 0]).flatten := by kernel_rfl
@[simp] theorem ze40 : zerosOf Try.prog 40 1 = some [.slice none 0 0] := by kernel_rfl
@[simp] theorem by40 : byOf Try.prog 40 = some 24 := by kernel_rfl
attribute [simp] Try.underlying40
@[simp] theorem sz41 : szOf Try.prog 41 = some 2 := by kernel_rfl
@[simp] theorem ag41 : aggOf Try.prog 41 = some true := by kernel_rfl
@[simp] theorem zv41 : zeroOf Try.prog 41 = some (.agg #[.bool false, .slice none 0 0]) := by kernel_rfl
@[simp low] theorem zn41 (n : Nat) : zerosOf Try.prog 41 n = some (List.replicate n [.bool false, .slice none 0 0]).flatten := by kernel_rfl
@[simp] theorem ze41 : zerosOf Try.prog 41 1 = some [.bool false, .slice none 0 0] := by kernel_rfl
@[simp] theorem pl41 : placesOf Try.prog 41 = some [(0, 1), (1, 1)] := by kernel_rfl
@[simp] theorem bu41 (ps : Array (Nat × Value)) : buildV Try.prog 41 ps = if (ps.all fun (_, x) => !junkB x) = true then (Instr.fill (fun x => [(0, 1), (1, 1)].toArray[x]?) #[.bool false, .slice none 0 0] ps.toList).map fun cs => .agg cs else none := buildV_struct zv41 (by kernel_rfl) pl41
@[simp] theorem by41 : byOf Try.prog 41 = some 32 := by kernel_rfl
@[simp] theorem fo41_0 : fieldOf Try.prog 41 0 = some (0, 4) := by kernel_rfl
@[simp] theorem fo41_1 : fieldOf Try.prog 41 1 = some (1, 40) := by kernel_rfl
attribute [simp] Try.underlying41
@[simp] theorem sz42 : szOf Try.prog 42 = some 2 := by kernel_rfl
@[simp] theorem ag42 : aggOf Try.prog 42 = some true := by kernel_rfl
@[simp] theorem zv42 : zeroOf Try.prog 42 = some (.agg #[.bool false, .slice none 0 0]) := by kernel_rfl
@[simp low] theorem zn42 (n : Nat) : zerosOf Try.prog 42 n = some (List.replicate n [.bool false, .slice none 0 0]).flatten := by kernel_rfl
@[simp] theorem ze42 : zerosOf Try.prog 42 1 = some [.bool false, .slice none 0 0] := by kernel_rfl
@[simp] theorem pl42 : placesOf Try.prog 42 = some [(0, 1), (1, 1)] := by kernel_rfl
@[simp] theorem bu42 (ps : Array (Nat × Value)) : buildV Try.prog 42 ps = if (ps.all fun (_, x) => !junkB x) = true then (Instr.fill (fun x => [(0, 1), (1, 1)].toArray[x]?) #[.bool false, .slice none 0 0] ps.toList).map fun cs => .agg cs else none := buildV_struct zv42 (by kernel_rfl) pl42
@[simp] theorem by42 : byOf Try.prog 42 = some 32 := by kernel_rfl
@[simp] theorem fo42_0 : fieldOf Try.prog 42 0 = some (0, 4) := by kernel_rfl
@[simp] theorem fo42_1 : fieldOf Try.prog 42 1 = some (1, 40) := by kernel_rfl
attribute [simp] Try.underlying42
@[simp] theorem sz46 : szOf Try.prog 46 = some 2 := by kernel_rfl
@[simp] theorem ag46 : aggOf Try.prog 46 = some true := by kernel_rfl
@[simp] theorem zv46 : zeroOf Try.prog 46 = some (.agg #[.int .i64 0, .int .i64 0]) := by kernel_rfl
@[simp low] theorem zn46 (n : Nat) : zerosOf Try.prog 46 n = some (List.replicate n [.int .i64 0, .int .i64 0]).flatten := by kernel_rfl
@[simp] theorem ze46 : zerosOf Try.prog 46 1 = some [.int .i64 0, .int .i64 0] := by kernel_rfl
@[simp] theorem pl46 : placesOf Try.prog 46 = some [(0, 1), (1, 1)] := by kernel_rfl
@[simp] theorem bu46 (ps : Array (Nat × Value)) : buildV Try.prog 46 ps = if (ps.all fun (_, x) => !junkB x) = true then (Instr.fill (fun x => [(0, 1), (1, 1)].toArray[x]?) #[.int .i64 0, .int .i64 0] ps.toList).map fun cs => .agg cs else none := buildV_struct zv46 (by kernel_rfl) pl46
@[simp] theorem by46 : byOf Try.prog 46 = some 16 := by kernel_rfl
@[simp] theorem fo46_0 : fieldOf Try.prog 46 0 = some (0, 3) := by kernel_rfl
@[simp] theorem fo46_1 : fieldOf Try.prog 46 1 = some (1, 3) := by kernel_rfl
attribute [simp] Try.underlying46
@[simp] theorem sz50 : szOf Try.prog 50 = some 3 := by kernel_rfl
@[simp] theorem ag50 : aggOf Try.prog 50 = some true := by kernel_rfl
@[simp] theorem zv50 : zeroOf Try.prog 50 = some (.agg #[.int .i64 0, .int .i64 0, .int .i64 0]) := by kernel_rfl
@[simp low] theorem zn50 (n : Nat) : zerosOf Try.prog 50 n = some (List.replicate n [.int .i64 0, .int .i64 0, .int .i64 0]).flatten := by kernel_rfl
@[simp] theorem ze50 : zerosOf Try.prog 50 1 = some [.int .i64 0, .int .i64 0, .int .i64 0] := by kernel_rfl
@[simp] theorem pl50 : placesOf Try.prog 50 = some [(0, 2), (2, 1)] := by kernel_rfl
@[simp] theorem bu50 (ps : Array (Nat × Value)) : buildV Try.prog 50 ps = if (ps.all fun (_, x) => !junkB x) = true then (Instr.fill (fun x => [(0, 2), (2, 1)].toArray[x]?) #[.int .i64 0, .int .i64 0, .int .i64 0] ps.toList).map fun cs => .agg cs else none := buildV_struct zv50 (by kernel_rfl) pl50
@[simp] theorem by50 : byOf Try.prog 50 = some 24 := by kernel_rfl
@[simp] theorem fo50_0 : fieldOf Try.prog 50 0 = some (0, 39) := by kernel_rfl
@[simp] theorem fo50_1 : fieldOf Try.prog 50 1 = some (2, 3) := by kernel_rfl
attribute [simp] Try.underlying50
@[simp] theorem sz51 : szOf Try.prog 51 = some 3 := by kernel_rfl
@[simp] theorem ag51 : aggOf Try.prog 51 = some true := by kernel_rfl
@[simp] theorem zv51 : zeroOf Try.prog 51 = some (.agg #[.int .i64 0, .int .i64 0, .int .i64 0]) := by kernel_rfl
@[simp low] theorem zn51 (n : Nat) : zerosOf Try.prog 51 n = some (List.replicate n [.int .i64 0, .int .i64 0, .int .i64 0]).flatten := by kernel_rfl
@[simp] theorem ze51 : zerosOf Try.prog 51 1 = some [.int .i64 0, .int .i64 0, .int .i64 0] := by kernel_rfl
@[simp] theorem pl51 : placesOf Try.prog 51 = some [(0, 2), (2, 1)] := by kernel_rfl
@[simp] theorem bu51 (ps : Array (Nat × Value)) : buildV Try.prog 51 ps = if (ps.all fun (_, x) => !junkB x) = true then (Instr.fill (fun x => [(0, 2), (2, 1)].toArray[x]?) #[.int .i64 0, .int .i64 0, .int .i64 0] ps.toList).map fun cs => .agg cs else none := buildV_struct zv51 (by kernel_rfl) pl51
@[simp] theorem by51 : byOf Try.prog 51 = some 24 := by kernel_rfl
@[simp] theorem fo51_0 : fieldOf Try.prog 51 0 = some (0, 39) := by kernel_rfl
@[simp] theorem fo51_1 : fieldOf Try.prog 51 1 = some (2, 3) := by kernel_rfl
attribute [simp] Try.underlying51
@[simp] theorem sz53 : szOf Try.prog 53 = some 3 := by kernel_rfl
@[simp] theorem ag53 : aggOf Try.prog 53 = some true := by kernel_rfl
@[simp] theorem zv53 : zeroOf Try.prog 53 = some (.agg #[.int .i64 0, .int .i64 0, .int .i64 0]) := by kernel_rfl
@[simp low] theorem zn53 (n : Nat) : zerosOf Try.prog 53 n = some (List.replicate n [.int .i64 0, .int .i64 0, .int .i64 0]).flatten := by kernel_rfl
@[simp] theorem ze53 : zerosOf Try.prog 53 1 = some [.int .i64 0, .int .i64 0, .int .i64 0] := by kernel_rfl
@[simp] theorem pl53 : placesOf Try.prog 53 = some [(0, 2), (2, 1)] := by kernel_rfl
@[simp] theorem bu53 (ps : Array (Nat × Value)) : buildV Try.prog 53 ps = if (ps.all fun (_, x) => !junkB x) = true then (Instr.fill (fun x => [(0, 2), (2, 1)].toArray[x]?) #[.int .i64 0, .int .i64 0, .int .i64 0] ps.toList).map fun cs => .agg cs else none := buildV_struct zv53 (by kernel_rfl) pl53
@[simp] theorem by53 : byOf Try.prog 53 = some 24 := by kernel_rfl
@[simp] theorem fo53_0 : fieldOf Try.prog 53 0 = some (0, 46) := by kernel_rfl
@[simp] theorem fo53_1 : fieldOf Try.prog 53 1 = some (2, 3) := by kernel_rfl
attribute [simp] Try.underlying53
@[simp] theorem sz54 : szOf Try.prog 54 = some 3 := by kernel_rfl
@[simp] theorem ag54 : aggOf Try.prog 54 = some true := by kernel_rfl
@[simp] theorem zv54 : zeroOf Try.prog 54 = some (.agg #[.int .i64 0, .int .i64 0, .int .i64 0]) := by kernel_rfl
@[simp low] theorem zn54 (n : Nat) : zerosOf Try.prog 54 n = some (List.replicate n [.int .i64 0, .int .i64 0, .int .i64 0]).flatten := by kernel_rfl
@[simp] theorem ze54 : zerosOf Try.prog 54 1 = some [.int .i64 0, .int .i64 0, .int .i64 0] := by kernel_rfl
@[simp] theorem pl54 : placesOf Try.prog 54 = some [(0, 2), (2, 1)] := by kernel_rfl
@[simp] theorem bu54 (ps : Array (Nat × Value)) : buildV Try.prog 54 ps = if (ps.all fun (_, x) => !junkB x) = true then (Instr.fill (fun x => [(0, 2), (2, 1)].toArray[x]?) #[.int .i64 0, .int .i64 0, .int .i64 0] ps.toList).map fun cs => .agg cs else none := buildV_struct zv54 (by kernel_rfl) pl54
@[simp] theorem by54 : byOf Try.prog 54 = some 24 := by kernel_rfl
@[simp] theorem fo54_0 : fieldOf Try.prog 54 0 = some (0, 46) := by kernel_rfl
@[simp] theorem fo54_1 : fieldOf Try.prog 54 1 = some (2, 3) := by kernel_rfl
attribute [simp] Try.underlying54
@[simp] theorem sz83 : szOf Try.prog 83 = some 1 := by kernel_rfl
@[simp] theorem ag83 : aggOf Try.prog 83 = some false := by kernel_rfl
@[simp] theorem zv83 : zeroOf Try.prog 83 = some (.slice none 0 0) := by kernel_rfl
@[simp low] theorem zn83 (n : Nat) : zerosOf Try.prog 83 n = some (List.replicate n [.slice none 0 0]).flatten := by kernel_rfl
@[simp] theorem ze83 : zerosOf Try.prog 83 1 = some [.slice none 0 0] := by kernel_rfl
@[simp] theorem by83 : byOf Try.prog 83 = some 24 := by kernel_rfl
attribute [simp] Try.underlying83
@[simp] theorem sz84 : szOf Try.prog 84 = some 1 := by kernel_rfl
@[simp] theorem ag84 : aggOf Try.prog 84 = some false := by kernel_rfl
@[simp] theorem zv84 : zeroOf Try.prog 84 = some (.pointer none) := by kernel_rfl
@[simp low] theorem zn84 (n : Nat) : zerosOf Try.prog 84 n = some (List.replicate n [.pointer none]).flatten := by kernel_rfl
@[simp] theorem ze84 : zerosOf Try.prog 84 1 = some [.pointer none] := by kernel_rfl
@[simp] theorem by84 : byOf Try.prog 84 = some 8 := by kernel_rfl
attribute [simp] Try.underlying84
@[simp] theorem sz87 : szOf Try.prog 87 = some 1 := by kernel_rfl
@[simp] theorem ag87 : aggOf Try.prog 87 = some false := by kernel_rfl
@[simp] theorem zv87 : zeroOf Try.prog 87 = some (.int .u64 0) := by kernel_rfl
@[simp low] theorem zn87 (n : Nat) : zerosOf Try.prog 87 n = some (List.replicate n [.int .u64 0]).flatten := by kernel_rfl
@[simp] theorem ze87 : zerosOf Try.prog 87 1 = some [.int .u64 0] := by kernel_rfl
@[simp] theorem by87 : byOf Try.prog 87 = some 8 := by kernel_rfl
attribute [simp] Try.underlying87
@[simp] theorem sz89 : szOf Try.prog 89 = some 2 := by kernel_rfl
@[simp] theorem ag89 : aggOf Try.prog 89 = some true := by kernel_rfl
@[simp] theorem zv89 : zeroOf Try.prog 89 = some (.agg #[.int .i64 0, .slice none 0 0]) := by kernel_rfl
@[simp low] theorem zn89 (n : Nat) : zerosOf Try.prog 89 n = some (List.replicate n [.int .i64 0, .slice none 0 0]).flatten := by kernel_rfl
@[simp] theorem ze89 : zerosOf Try.prog 89 1 = some [.int .i64 0, .slice none 0 0] := by kernel_rfl
@[simp] theorem pl89 : placesOf Try.prog 89 = some [(0, 1), (1, 1)] := by kernel_rfl
@[simp] theorem bu89 (ps : Array (Nat × Value)) : buildV Try.prog 89 ps = if (ps.all fun (_, x) => !junkB x) = true then (Instr.fill (fun x => [(0, 1), (1, 1)].toArray[x]?) #[.int .i64 0, .slice none 0 0] ps.toList).map fun cs => .agg cs else none := buildV_struct zv89 (by kernel_rfl) pl89
@[simp] theorem by89 : byOf Try.prog 89 = some 32 := by kernel_rfl
@[simp] theorem fo89_0 : fieldOf Try.prog 89 0 = some (0, 3) := by kernel_rfl
@[simp] theorem fo89_1 : fieldOf Try.prog 89 1 = some (1, 23) := by kernel_rfl
attribute [simp] Try.underlying89
@[simp] theorem sz90 : szOf Try.prog 90 = some 2 := by kernel_rfl
@[simp] theorem ag90 : aggOf Try.prog 90 = some true := by kernel_rfl
@[simp] theorem zv90 : zeroOf Try.prog 90 = some (.agg #[.int .i64 0, .slice none 0 0]) := by kernel_rfl
@[simp low] theorem zn90 (n : Nat) : zerosOf Try.prog 90 n = some (List.replicate n [.int .i64 0, .slice none 0 0]).flatten := by kernel_rfl
@[simp] theorem ze90 : zerosOf Try.prog 90 1 = some [.int .i64 0, .slice none 0 0] := by kernel_rfl
@[simp] theorem pl90 : placesOf Try.prog 90 = some [(0, 1), (1, 1)] := by kernel_rfl
@[simp] theorem bu90 (ps : Array (Nat × Value)) : buildV Try.prog 90 ps = if (ps.all fun (_, x) => !junkB x) = true then (Instr.fill (fun x => [(0, 1), (1, 1)].toArray[x]?) #[.int .i64 0, .slice none 0 0] ps.toList).map fun cs => .agg cs else none := buildV_struct zv90 (by kernel_rfl) pl90
@[simp] theorem by90 : byOf Try.prog 90 = some 32 := by kernel_rfl
@[simp] theorem fo90_0 : fieldOf Try.prog 90 0 = some (0, 3) := by kernel_rfl
@[simp] theorem fo90_1 : fieldOf Try.prog 90 1 = some (1, 23) := by kernel_rfl
attribute [simp] Try.underlying90
@[simp] theorem sz92 : szOf Try.prog 92 = some 1 := by kernel_rfl
@[simp] theorem ag92 : aggOf Try.prog 92 = some false := by kernel_rfl
@[simp] theorem zv92 : zeroOf Try.prog 92 = some (.slice none 0 0) := by kernel_rfl
@[simp low] theorem zn92 (n : Nat) : zerosOf Try.prog 92 n = some (List.replicate n [.slice none 0 0]).flatten := by kernel_rfl
@[simp] theorem ze92 : zerosOf Try.prog 92 1 = some [.slice none 0 0] := by kernel_rfl
@[simp] theorem by92 : byOf Try.prog 92 = some 24 := by kernel_rfl
attribute [simp] Try.underlying92
@[simp] theorem sz93 : szOf Try.prog 93 = some 1 := by kernel_rfl
@[simp] theorem ag93 : aggOf Try.prog 93 = some false := by kernel_rfl
@[simp] theorem zv93 : zeroOf Try.prog 93 = some (.slice none 0 0) := by kernel_rfl
@[simp low] theorem zn93 (n : Nat) : zerosOf Try.prog 93 n = some (List.replicate n [.slice none 0 0]).flatten := by kernel_rfl
@[simp] theorem ze93 : zerosOf Try.prog 93 1 = some [.slice none 0 0] := by kernel_rfl
@[simp] theorem by93 : byOf Try.prog 93 = some 24 := by kernel_rfl
attribute [simp] Try.underlying93
@[simp] theorem sz94 : szOf Try.prog 94 = some 2 := by kernel_rfl
@[simp] theorem ag94 : aggOf Try.prog 94 = some true := by kernel_rfl
@[simp] theorem zv94 : zeroOf Try.prog 94 = some (.agg #[.int .i64 0, .slice none 0 0]) := by kernel_rfl
@[simp low] theorem zn94 (n : Nat) : zerosOf Try.prog 94 n = some (List.replicate n [.int .i64 0, .slice none 0 0]).flatten := by kernel_rfl
@[simp] theorem ze94 : zerosOf Try.prog 94 1 = some [.int .i64 0, .slice none 0 0] := by kernel_rfl
@[simp] theorem pl94 : placesOf Try.prog 94 = some [(0, 1), (1, 1)] := by kernel_rfl
@[simp] theorem bu94 (ps : Array (Nat × Value)) : buildV Try.prog 94 ps = if (ps.all fun (_, x) => !junkB x) = true then (Instr.fill (fun x => [(0, 1), (1, 1)].toArray[x]?) #[.int .i64 0, .slice none 0 0] ps.toList).map fun cs => .agg cs else none := buildV_struct zv94 (by kernel_rfl) pl94
@[simp] theorem by94 : byOf Try.prog 94 = some 32 := by kernel_rfl
@[simp] theorem fo94_0 : fieldOf Try.prog 94 0 = some (0, 3) := by kernel_rfl
@[simp] theorem fo94_1 : fieldOf Try.prog 94 1 = some (1, 23) := by kernel_rfl
attribute [simp] Try.underlying94
@[simp] theorem sz98 : szOf Try.prog 98 = some 1 := by kernel_rfl
@[simp] theorem ag98 : aggOf Try.prog 98 = some false := by kernel_rfl
@[simp] theorem zv98 : zeroOf Try.prog 98 = some (.slice none 0 0) := by kernel_rfl
@[simp low] theorem zn98 (n : Nat) : zerosOf Try.prog 98 n = some (List.replicate n [.slice none 0 0]).flatten := by kernel_rfl
@[simp] theorem ze98 : zerosOf Try.prog 98 1 = some [.slice none 0 0] := by kernel_rfl
@[simp] theorem by98 : byOf Try.prog 98 = some 24 := by kernel_rfl
attribute [simp] Try.underlying98
@[simp] theorem sz100 : szOf Try.prog 100 = some 2 := by kernel_rfl
@[simp] theorem ag100 : aggOf Try.prog 100 = some true := by kernel_rfl
@[simp] theorem zv100 : zeroOf Try.prog 100 = some (.agg #[.int .i64 0, .slice none 0 0]) := by kernel_rfl
@[simp low] theorem zn100 (n : Nat) : zerosOf Try.prog 100 n = some (List.replicate n [.int .i64 0, .slice none 0 0]).flatten := by kernel_rfl
@[simp] theorem ze100 : zerosOf Try.prog 100 1 = some [.int .i64 0, .slice none 0 0] := by kernel_rfl
@[simp] theorem pl100 : placesOf Try.prog 100 = some [(0, 1), (1, 1)] := by kernel_rfl
@[simp] theorem bu100 (ps : Array (Nat × Value)) : buildV Try.prog 100 ps = if (ps.all fun (_, x) => !junkB x) = true then (Instr.fill (fun x => [(0, 1), (1, 1)].toArray[x]?) #[.int .i64 0, .slice none 0 0] ps.toList).map fun cs => .agg cs else none := buildV_struct zv100 (by kernel_rfl) pl100
@[simp] theorem by100 : byOf Try.prog 100 = some 32 := by kernel_rfl
@[simp] theorem fo100_0 : fieldOf Try.prog 100 0 = some (0, 3) := by kernel_rfl
@[simp] theorem fo100_1 : fieldOf Try.prog 100 1 = some (1, 92) := by kernel_rfl
attribute [simp] Try.underlying100
@[simp] theorem sz101 : szOf Try.prog 101 = some 2 := by kernel_rfl
@[simp] theorem ag101 : aggOf Try.prog 101 = some true := by kernel_rfl
@[simp] theorem zv101 : zeroOf Try.prog 101 = some (.agg #[.int .i64 0, .slice none 0 0]) := by kernel_rfl
@[simp low] theorem zn101 (n : Nat) : zerosOf Try.prog 101 n = some (List.replicate n [.int .i64 0, .slice none 0 0]).flatten := by kernel_rfl
@[simp] theorem ze101 : zerosOf Try.prog 101 1 = some [.int .i64 0, .slice none 0 0] := by kernel_rfl
@[simp] theorem pl101 : placesOf Try.prog 101 = some [(0, 1), (1, 1)] := by kernel_rfl
@[simp] theorem bu101 (ps : Array (Nat × Value)) : buildV Try.prog 101 ps = if (ps.all fun (_, x) => !junkB x) = true then (Instr.fill (fun x => [(0, 1), (1, 1)].toArray[x]?) #[.int .i64 0, .slice none 0 0] ps.toList).map fun cs => .agg cs else none := buildV_struct zv101 (by kernel_rfl) pl101
@[simp] theorem by101 : byOf Try.prog 101 = some 32 := by kernel_rfl
@[simp] theorem fo101_0 : fieldOf Try.prog 101 0 = some (0, 3) := by kernel_rfl
@[simp] theorem fo101_1 : fieldOf Try.prog 101 1 = some (1, 92) := by kernel_rfl
attribute [simp] Try.underlying101
@[simp] theorem sz120 : szOf Try.prog 120 = some 1 := by kernel_rfl
@[simp] theorem ag120 : aggOf Try.prog 120 = some false := by kernel_rfl
@[simp] theorem zv120 : zeroOf Try.prog 120 = some (.slice none 0 0) := by kernel_rfl
@[simp low] theorem zn120 (n : Nat) : zerosOf Try.prog 120 n = some (List.replicate n [.slice none 0 0]).flatten := by kernel_rfl
@[simp] theorem ze120 : zerosOf Try.prog 120 1 = some [.slice none 0 0] := by kernel_rfl
@[simp] theorem by120 : byOf Try.prog 120 = some 24 := by kernel_rfl
attribute [simp] Try.underlying120
@[simp] theorem sz121 : szOf Try.prog 121 = some 2 := by kernel_rfl
@[simp] theorem ag121 : aggOf Try.prog 121 = some true := by kernel_rfl
@[simp] theorem zv121 : zeroOf Try.prog 121 = some (.agg #[.slice none 0 0, .slice none 0 0]) := by kernel_rfl
@[simp low] theorem zn121 (n : Nat) : zerosOf Try.prog 121 n = some (List.replicate n [.slice none 0 0, .slice none 0 0]).flatten := by kernel_rfl
@[simp] theorem ze121 : zerosOf Try.prog 121 1 = some [.slice none 0 0, .slice none 0 0] := by kernel_rfl
@[simp] theorem pl121 : placesOf Try.prog 121 = some [(0, 1), (1, 1)] := by kernel_rfl
@[simp] theorem bu121 (ps : Array (Nat × Value)) : buildV Try.prog 121 ps = if (ps.all fun (_, x) => !junkB x) = true then (Instr.fill (fun x => [(0, 1), (1, 1)].toArray[x]?) #[.slice none 0 0, .slice none 0 0] ps.toList).map fun cs => .agg cs else none := buildV_struct zv121 (by kernel_rfl) pl121
@[simp] theorem by121 : byOf Try.prog 121 = some 48 := by kernel_rfl
@[simp] theorem fo121_0 : fieldOf Try.prog 121 0 = some (0, 120) := by kernel_rfl
@[simp] theorem fo121_1 : fieldOf Try.prog 121 1 = some (1, 83) := by kernel_rfl
attribute [simp] Try.underlying121
@[simp] theorem sz122 : szOf Try.prog 122 = some 2 := by kernel_rfl
@[simp] theorem ag122 : aggOf Try.prog 122 = some true := by kernel_rfl
@[simp] theorem zv122 : zeroOf Try.prog 122 = some (.agg #[.slice none 0 0, .slice none 0 0]) := by kernel_rfl
@[simp low] theorem zn122 (n : Nat) : zerosOf Try.prog 122 n = some (List.replicate n [.slice none 0 0, .slice none 0 0]).flatten := by kernel_rfl
@[simp] theorem ze122 : zerosOf Try.prog 122 1 = some [.slice none 0 0, .slice none 0 0] := by kernel_rfl
@[simp] theorem pl122 : placesOf Try.prog 122 = some [(0, 1), (1, 1)] := by kernel_rfl
@[simp] theorem bu122 (ps : Array (Nat × Value)) : buildV Try.prog 122 ps = if (ps.all fun (_, x) => !junkB x) = true then (Instr.fill (fun x => [(0, 1), (1, 1)].toArray[x]?) #[.slice none 0 0, .slice none 0 0] ps.toList).map fun cs => .agg cs else none := buildV_struct zv122 (by kernel_rfl) pl122
@[simp] theorem by122 : byOf Try.prog 122 = some 48 := by kernel_rfl
@[simp] theorem fo122_0 : fieldOf Try.prog 122 0 = some (0, 120) := by kernel_rfl
@[simp] theorem fo122_1 : fieldOf Try.prog 122 1 = some (1, 83) := by kernel_rfl
attribute [simp] Try.underlying122
@[simp] theorem sz128 : szOf Try.prog 128 = some 1 := by kernel_rfl
@[simp] theorem ag128 : aggOf Try.prog 128 = some false := by kernel_rfl
@[simp] theorem zv128 : zeroOf Try.prog 128 = some (.slice none 0 0) := by kernel_rfl
@[simp low] theorem zn128 (n : Nat) : zerosOf Try.prog 128 n = some (List.replicate n [.slice none 0 0]).flatten := by kernel_rfl
@[simp] theorem ze128 : zerosOf Try.prog 128 1 = some [.slice none 0 0] := by kernel_rfl
@[simp] theorem by128 : byOf Try.prog 128 = some 24 := by kernel_rfl
attribute [simp] Try.underlying128
@[simp] theorem sz132 : szOf Try.prog 132 = some 3 := by kernel_rfl
@[simp] theorem ag132 : aggOf Try.prog 132 = some true := by kernel_rfl
@[simp] theorem zv132 : zeroOf Try.prog 132 = some (.agg #[.int .i64 0, .int .i64 0, .int .i64 0]) := by kernel_rfl
@[simp low] theorem zn132 (n : Nat) : zerosOf Try.prog 132 n = some (List.replicate n [.int .i64 0, .int .i64 0, .int .i64 0]).flatten := by kernel_rfl
@[simp] theorem ze132 : zerosOf Try.prog 132 1 = some [.int .i64 0, .int .i64 0, .int .i64 0] := by kernel_rfl
@[simp] theorem by132 : byOf Try.prog 132 = some 24 := by kernel_rfl
attribute [simp] Try.underlying132
@[simp] theorem sz141 : szOf Try.prog 141 = some 1 := by kernel_rfl
@[simp] theorem ag141 : aggOf Try.prog 141 = some false := by kernel_rfl
@[simp] theorem zv141 : zeroOf Try.prog 141 = some (.slice none 0 0) := by kernel_rfl
@[simp low] theorem zn141 (n : Nat) : zerosOf Try.prog 141 n = some (List.replicate n [.slice none 0 0]).flatten := by kernel_rfl
@[simp] theorem ze141 : zerosOf Try.prog 141 1 = some [.slice none 0 0] := by kernel_rfl
@[simp] theorem by141 : byOf Try.prog 141 = some 24 := by kernel_rfl
attribute [simp] Try.underlying141
@[simp] theorem sz142 : szOf Try.prog 142 = some 1 := by kernel_rfl
@[simp] theorem ag142 : aggOf Try.prog 142 = some true := by kernel_rfl
@[simp] theorem zv142 : zeroOf Try.prog 142 = some (.agg #[.slice none 0 0]) := by kernel_rfl
@[simp low] theorem zn142 (n : Nat) : zerosOf Try.prog 142 n = some (List.replicate n [.slice none 0 0]).flatten := by kernel_rfl
@[simp] theorem ze142 : zerosOf Try.prog 142 1 = some [.slice none 0 0] := by kernel_rfl
@[simp] theorem pl142 : placesOf Try.prog 142 = some [(0, 1)] := by kernel_rfl
@[simp] theorem bu142 (ps : Array (Nat × Value)) : buildV Try.prog 142 ps = if (ps.all fun (_, x) => !junkB x) = true then (Instr.fill (fun x => [(0, 1)].toArray[x]?) #[.slice none 0 0] ps.toList).map fun cs => .agg cs else none := buildV_struct zv142 (by kernel_rfl) pl142
@[simp] theorem by142 : byOf Try.prog 142 = some 24 := by kernel_rfl
@[simp] theorem fo142_0 : fieldOf Try.prog 142 0 = some (0, 141) := by kernel_rfl
attribute [simp] Try.underlying142
@[simp] theorem sz143 : szOf Try.prog 143 = some 1 := by kernel_rfl
@[simp] theorem ag143 : aggOf Try.prog 143 = some true := by kernel_rfl
@[simp] theorem zv143 : zeroOf Try.prog 143 = some (.agg #[.slice none 0 0]) := by kernel_rfl
@[simp low] theorem zn143 (n : Nat) : zerosOf Try.prog 143 n = some (List.replicate n [.slice none 0 0]).flatten := by kernel_rfl
@[simp] theorem ze143 : zerosOf Try.prog 143 1 = some [.slice none 0 0] := by kernel_rfl
@[simp] theorem pl143 : placesOf Try.prog 143 = some [(0, 1)] := by kernel_rfl
@[simp] theorem bu143 (ps : Array (Nat × Value)) : buildV Try.prog 143 ps = if (ps.all fun (_, x) => !junkB x) = true then (Instr.fill (fun x => [(0, 1)].toArray[x]?) #[.slice none 0 0] ps.toList).map fun cs => .agg cs else none := buildV_struct zv143 (by kernel_rfl) pl143
@[simp] theorem by143 : byOf Try.prog 143 = some 24 := by kernel_rfl
@[simp] theorem fo143_0 : fieldOf Try.prog 143 0 = some (0, 141) := by kernel_rfl
attribute [simp] Try.underlying143
@[simp] theorem sz153 : szOf Try.prog 153 = some 1 := by kernel_rfl
@[simp] theorem ag153 : aggOf Try.prog 153 = some false := by kernel_rfl
@[simp] theorem zv153 : zeroOf Try.prog 153 = some (.int .u64 0) := by kernel_rfl
@[simp low] theorem zn153 (n : Nat) : zerosOf Try.prog 153 n = some (List.replicate n [.int .u64 0]).flatten := by kernel_rfl
@[simp] theorem ze153 : zerosOf Try.prog 153 1 = some [.int .u64 0] := by kernel_rfl
@[simp] theorem by153 : byOf Try.prog 153 = some 8 := by kernel_rfl
attribute [simp] Try.underlying153
@[simp] theorem sz154 : szOf Try.prog 154 = some 1 := by kernel_rfl
@[simp] theorem ag154 : aggOf Try.prog 154 = some false := by kernel_rfl
@[simp] theorem zv154 : zeroOf Try.prog 154 = some (.slice none 0 0) := by kernel_rfl
@[simp low] theorem zn154 (n : Nat) : zerosOf Try.prog 154 n = some (List.replicate n [.slice none 0 0]).flatten := by kernel_rfl
@[simp] theorem ze154 : zerosOf Try.prog 154 1 = some [.slice none 0 0] := by kernel_rfl
@[simp] theorem by154 : byOf Try.prog 154 = some 24 := by kernel_rfl
attribute [simp] Try.underlying154
@[simp] theorem sz156 : szOf Try.prog 156 = some 1 := by kernel_rfl
@[simp] theorem ag156 : aggOf Try.prog 156 = some false := by kernel_rfl
@[simp] theorem zv156 : zeroOf Try.prog 156 = some (.pointer none) := by kernel_rfl
@[simp low] theorem zn156 (n : Nat) : zerosOf Try.prog 156 n = some (List.replicate n [.pointer none]).flatten := by kernel_rfl
@[simp] theorem ze156 : zerosOf Try.prog 156 1 = some [.pointer none] := by kernel_rfl
@[simp] theorem by156 : byOf Try.prog 156 = some 8 := by kernel_rfl
attribute [simp] Try.underlying156
@[simp] theorem sz157 : szOf Try.prog 157 = some 1 := by kernel_rfl
@[simp] theorem ag157 : aggOf Try.prog 157 = some true := by kernel_rfl
@[simp] theorem zv157 : zeroOf Try.prog 157 = some (.agg #[.slice none 0 0]) := by kernel_rfl
@[simp low] theorem zn157 (n : Nat) : zerosOf Try.prog 157 n = some (List.replicate n [.slice none 0 0]).flatten := by kernel_rfl
@[simp] theorem ze157 : zerosOf Try.prog 157 1 = some [.slice none 0 0] := by kernel_rfl
@[simp] theorem pl157 : placesOf Try.prog 157 = some [(0, 1)] := by kernel_rfl
@[simp] theorem bu157 (ps : Array (Nat × Value)) : buildV Try.prog 157 ps = if (ps.all fun (_, x) => !junkB x) = true then (Instr.fill (fun x => [(0, 1)].toArray[x]?) #[.slice none 0 0] ps.toList).map fun cs => .agg cs else none := buildV_struct zv157 (by kernel_rfl) pl157
@[simp] theorem by157 : byOf Try.prog 157 = some 24 := by kernel_rfl
@[simp] theorem fo157_0 : fieldOf Try.prog 157 0 = some (0, 23) := by kernel_rfl
attribute [simp] Try.underlying157
@[simp] theorem sz158 : szOf Try.prog 158 = some 1 := by kernel_rfl
@[simp] theorem ag158 : aggOf Try.prog 158 = some true := by kernel_rfl
@[simp] theorem zv158 : zeroOf Try.prog 158 = some (.agg #[.slice none 0 0]) := by kernel_rfl
@[simp low] theorem zn158 (n : Nat) : zerosOf Try.prog 158 n = some (List.replicate n [.slice none 0 0]).flatten := by kernel_rfl
@[simp] theorem ze158 : zerosOf Try.prog 158 1 = some [.slice none 0 0] := by kernel_rfl
@[simp] theorem pl158 : placesOf Try.prog 158 = some [(0, 1)] := by kernel_rfl
@[simp] theorem bu158 (ps : Array (Nat × Value)) : buildV Try.prog 158 ps = if (ps.all fun (_, x) => !junkB x) = true then (Instr.fill (fun x => [(0, 1)].toArray[x]?) #[.slice none 0 0] ps.toList).map fun cs => .agg cs else none := buildV_struct zv158 (by kernel_rfl) pl158
@[simp] theorem by158 : byOf Try.prog 158 = some 24 := by kernel_rfl
@[simp] theorem fo158_0 : fieldOf Try.prog 158 0 = some (0, 23) := by kernel_rfl
attribute [simp] Try.underlying158
@[simp] theorem sz159 : szOf Try.prog 159 = some 2 := by kernel_rfl
@[simp] theorem ag159 : aggOf Try.prog 159 = some true := by kernel_rfl
@[simp] theorem zv159 : zeroOf Try.prog 159 = some (.agg #[.slice none 0 0, .int .i64 0]) := by kernel_rfl
@[simp low] theorem zn159 (n : Nat) : zerosOf Try.prog 159 n = some (List.replicate n [.slice none 0 0, .int .i64 0]).flatten := by kernel_rfl
@[simp] theorem ze159 : zerosOf Try.prog 159 1 = some [.slice none 0 0, .int .i64 0] := by kernel_rfl
@[simp] theorem pl159 : placesOf Try.prog 159 = some [(0, 1), (1, 1)] := by kernel_rfl
@[simp] theorem bu159 (ps : Array (Nat × Value)) : buildV Try.prog 159 ps = if (ps.all fun (_, x) => !junkB x) = true then (Instr.fill (fun x => [(0, 1), (1, 1)].toArray[x]?) #[.slice none 0 0, .int .i64 0] ps.toList).map fun cs => .agg cs else none := buildV_struct zv159 (by kernel_rfl) pl159
@[simp] theorem by159 : byOf Try.prog 159 = some 32 := by kernel_rfl
@[simp] theorem fo159_0 : fieldOf Try.prog 159 0 = some (0, 158) := by kernel_rfl
@[simp] theorem fo159_1 : fieldOf Try.prog 159 1 = some (1, 25) := by kernel_rfl
attribute [simp] Try.underlying159
@[simp] theorem sz160 : szOf Try.prog 160 = some 2 := by kernel_rfl
@[simp] theorem ag160 : aggOf Try.prog 160 = some true := by kernel_rfl
@[simp] theorem zv160 : zeroOf Try.prog 160 = some (.agg #[.slice none 0 0, .int .i64 0]) := by kernel_rfl
@[simp low] theorem zn160 (n : Nat) : zerosOf Try.prog 160 n = some (List.replicate n [.slice none 0 0, .int .i64 0]).flatten := by kernel_rfl
@[simp] theorem ze160 : zerosOf Try.prog 160 1 = some [.slice none 0 0, .int .i64 0] := by kernel_rfl
@[simp] theorem pl160 : placesOf Try.prog 160 = some [(0, 1), (1, 1)] := by kernel_rfl
@[simp] theorem bu160 (ps : Array (Nat × Value)) : buildV Try.prog 160 ps = if (ps.all fun (_, x) => !junkB x) = true then (Instr.fill (fun x => [(0, 1), (1, 1)].toArray[x]?) #[.slice none 0 0, .int .i64 0] ps.toList).map fun cs => .agg cs else none := buildV_struct zv160 (by kernel_rfl) pl160
@[simp] theorem by160 : byOf Try.prog 160 = some 32 := by kernel_rfl
@[simp] theorem fo160_0 : fieldOf Try.prog 160 0 = some (0, 158) := by kernel_rfl
@[simp] theorem fo160_1 : fieldOf Try.prog 160 1 = some (1, 25) := by kernel_rfl
attribute [simp] Try.underlying160
@[simp] theorem sz173 : szOf Try.prog 173 = some 1 := by kernel_rfl
@[simp] theorem ag173 : aggOf Try.prog 173 = some false := by kernel_rfl
@[simp] theorem zv173 : zeroOf Try.prog 173 = some (.pointer none) := by kernel_rfl
@[simp low] theorem zn173 (n : Nat) : zerosOf Try.prog 173 n = some (List.replicate n [.pointer none]).flatten := by kernel_rfl
@[simp] theorem ze173 : zerosOf Try.prog 173 1 = some [.pointer none] := by kernel_rfl
@[simp] theorem by173 : byOf Try.prog 173 = some 8 := by kernel_rfl
attribute [simp] Try.underlying173
@[simp] theorem sz177 : szOf Try.prog 177 = some 4 := by kernel_rfl
@[simp] theorem ag177 : aggOf Try.prog 177 = some true := by kernel_rfl
@[simp] theorem zv177 : zeroOf Try.prog 177 = some (.agg #[.pointer none, .pointer none, .pointer none, .string ⟨#[]⟩]) := by kernel_rfl
@[simp low] theorem zn177 (n : Nat) : zerosOf Try.prog 177 n = some (List.replicate n [.pointer none, .pointer none, .pointer none, .string ⟨#[]⟩]).flatten := by kernel_rfl
@[simp] theorem ze177 : zerosOf Try.prog 177 1 = some [.pointer none, .pointer none, .pointer none, .string ⟨#[]⟩] := by kernel_rfl
@[simp] theorem pl177 : placesOf Try.prog 177 = some [(0, 1), (1, 1), (2, 1), (3, 1)] := by kernel_rfl
@[simp] theorem bu177 (ps : Array (Nat × Value)) : buildV Try.prog 177 ps = if (ps.all fun (_, x) => !junkB x) = true then (Instr.fill (fun x => [(0, 1), (1, 1), (2, 1), (3, 1)].toArray[x]?) #[.pointer none, .pointer none, .pointer none, .string ⟨#[]⟩] ps.toList).map fun cs => .agg cs else none := buildV_struct zv177 (by kernel_rfl) pl177
@[simp] theorem by177 : byOf Try.prog 177 = some 40 := by kernel_rfl
@[simp] theorem fo177_0 : fieldOf Try.prog 177 0 = some (0, 17) := by kernel_rfl
@[simp] theorem fo177_1 : fieldOf Try.prog 177 1 = some (1, 17) := by kernel_rfl
@[simp] theorem fo177_2 : fieldOf Try.prog 177 2 = some (2, 17) := by kernel_rfl
@[simp] theorem fo177_3 : fieldOf Try.prog 177 3 = some (3, 9) := by kernel_rfl
attribute [simp] Try.underlying177
@[simp] theorem sz178 : szOf Try.prog 178 = some 4 := by kernel_rfl
@[simp] theorem ag178 : aggOf Try.prog 178 = some true := by kernel_rfl
@[simp] theorem zv178 : zeroOf Try.prog 178 = some (.agg #[.pointer none, .pointer none, .pointer none, .string ⟨#[]⟩]) := by kernel_rfl
@[simp low] theorem zn178 (n : Nat) : zerosOf Try.prog 178 n = some (List.replicate n [.pointer none, .pointer none, .pointer none, .string ⟨#[]⟩]).flatten := by kernel_rfl
@[simp] theorem ze178 : zerosOf Try.prog 178 1 = some [.pointer none, .pointer none, .pointer none, .string ⟨#[]⟩] := by kernel_rfl
@[simp] theorem pl178 : placesOf Try.prog 178 = some [(0, 1), (1, 1), (2, 1), (3, 1)] := by kernel_rfl
@[simp] theorem bu178 (ps : Array (Nat × Value)) : buildV Try.prog 178 ps = if (ps.all fun (_, x) => !junkB x) = true then (Instr.fill (fun x => [(0, 1), (1, 1), (2, 1), (3, 1)].toArray[x]?) #[.pointer none, .pointer none, .pointer none, .string ⟨#[]⟩] ps.toList).map fun cs => .agg cs else none := buildV_struct zv178 (by kernel_rfl) pl178
@[simp] theorem by178 : byOf Try.prog 178 = some 40 := by kernel_rfl
@[simp] theorem fo178_0 : fieldOf Try.prog 178 0 = some (0, 17) := by kernel_rfl
@[simp] theorem fo178_1 : fieldOf Try.prog 178 1 = some (1, 17) := by kernel_rfl
@[simp] theorem fo178_2 : fieldOf Try.prog 178 2 = some (2, 17) := by kernel_rfl
@[simp] theorem fo178_3 : fieldOf Try.prog 178 3 = some (3, 9) := by kernel_rfl
attribute [simp] Try.underlying178
@[simp] theorem sz179 : szOf Try.prog 179 = some 0 := by kernel_rfl
@[simp] theorem ag179 : aggOf Try.prog 179 = some true := by kernel_rfl
@[simp] theorem by179 : byOf Try.prog 179 = some 0 := by kernel_rfl
attribute [simp] Try.underlying179
@[simp] theorem sz180 : szOf Try.prog 180 = some 0 := by kernel_rfl
@[simp] theorem ag180 : aggOf Try.prog 180 = some true := by kernel_rfl
@[simp] theorem by180 : byOf Try.prog 180 = some 0 := by kernel_rfl
@[simp] theorem fo180_0 : fieldOf Try.prog 180 0 = some (0, 179) := by kernel_rfl
attribute [simp] Try.underlying180
@[simp] theorem sz181 : szOf Try.prog 181 = some 0 := by kernel_rfl
@[simp] theorem ag181 : aggOf Try.prog 181 = some true := by kernel_rfl
@[simp] theorem by181 : byOf Try.prog 181 = some 0 := by kernel_rfl
@[simp] theorem fo181_0 : fieldOf Try.prog 181 0 = some (0, 179) := by kernel_rfl
attribute [simp] Try.underlying181
@[simp] theorem sz182 : szOf Try.prog 182 = some 1 := by kernel_rfl
@[simp] theorem ag182 : aggOf Try.prog 182 = some false := by kernel_rfl
@[simp] theorem zv182 : zeroOf Try.prog 182 = some (.int .u32 0) := by kernel_rfl
@[simp low] theorem zn182 (n : Nat) : zerosOf Try.prog 182 n = some (List.replicate n [.int .u32 0]).flatten := by kernel_rfl
@[simp] theorem ze182 : zerosOf Try.prog 182 1 = some [.int .u32 0] := by kernel_rfl
@[simp] theorem by182 : byOf Try.prog 182 = some 4 := by kernel_rfl
attribute [simp] Try.underlying182
@[simp] theorem sz183 : szOf Try.prog 183 = some 1 := by kernel_rfl
@[simp] theorem ag183 : aggOf Try.prog 183 = some false := by kernel_rfl
@[simp] theorem zv183 : zeroOf Try.prog 183 = some (.int .u8 0) := by kernel_rfl
@[simp low] theorem zn183 (n : Nat) : zerosOf Try.prog 183 n = some (List.replicate n [.int .u8 0]).flatten := by kernel_rfl
@[simp] theorem ze183 : zerosOf Try.prog 183 1 = some [.int .u8 0] := by kernel_rfl
@[simp] theorem by183 : byOf Try.prog 183 = some 1 := by kernel_rfl
attribute [simp] Try.underlying183
@[simp] theorem sz184 : szOf Try.prog 184 = some 1 := by kernel_rfl
@[simp] theorem ag184 : aggOf Try.prog 184 = some false := by kernel_rfl
@[simp] theorem zv184 : zeroOf Try.prog 184 = some (.int .u8 0) := by kernel_rfl
@[simp low] theorem zn184 (n : Nat) : zerosOf Try.prog 184 n = some (List.replicate n [.int .u8 0]).flatten := by kernel_rfl
@[simp] theorem ze184 : zerosOf Try.prog 184 1 = some [.int .u8 0] := by kernel_rfl
@[simp] theorem by184 : byOf Try.prog 184 = some 1 := by kernel_rfl
attribute [simp] Try.underlying184
@[simp] theorem sz186 : szOf Try.prog 186 = some 1 := by kernel_rfl
@[simp] theorem ag186 : aggOf Try.prog 186 = some false := by kernel_rfl
@[simp] theorem zv186 : zeroOf Try.prog 186 = some (.pointer none) := by kernel_rfl
@[simp low] theorem zn186 (n : Nat) : zerosOf Try.prog 186 n = some (List.replicate n [.pointer none]).flatten := by kernel_rfl
@[simp] theorem ze186 : zerosOf Try.prog 186 1 = some [.pointer none] := by kernel_rfl
@[simp] theorem by186 : byOf Try.prog 186 = some 8 := by kernel_rfl
attribute [simp] Try.underlying186
@[simp] theorem sz187 : szOf Try.prog 187 = some 1 := by kernel_rfl
@[simp] theorem ag187 : aggOf Try.prog 187 = some false := by kernel_rfl
@[simp] theorem zv187 : zeroOf Try.prog 187 = some (.int .i32 0) := by kernel_rfl
@[simp low] theorem zn187 (n : Nat) : zerosOf Try.prog 187 n = some (List.replicate n [.int .i32 0]).flatten := by kernel_rfl
@[simp] theorem ze187 : zerosOf Try.prog 187 1 = some [.int .i32 0] := by kernel_rfl
@[simp] theorem by187 : byOf Try.prog 187 = some 4 := by kernel_rfl
attribute [simp] Try.underlying187
@[simp] theorem sz188 : szOf Try.prog 188 = some 1 := by kernel_rfl
@[simp] theorem ag188 : aggOf Try.prog 188 = some false := by kernel_rfl
@[simp] theorem zv188 : zeroOf Try.prog 188 = some (.int .i32 0) := by kernel_rfl
@[simp low] theorem zn188 (n : Nat) : zerosOf Try.prog 188 n = some (List.replicate n [.int .i32 0]).flatten := by kernel_rfl
@[simp] theorem ze188 : zerosOf Try.prog 188 1 = some [.int .i32 0] := by kernel_rfl
@[simp] theorem by188 : byOf Try.prog 188 = some 4 := by kernel_rfl
attribute [simp] Try.underlying188
@[simp] theorem sz189 : szOf Try.prog 189 = some 11 := by kernel_rfl
@[simp] theorem ag189 : aggOf Try.prog 189 = some true := by kernel_rfl
@[simp] theorem fo189_0 : fieldOf Try.prog 189 0 = some (0, 12) := by kernel_rfl
@[simp] theorem fo189_1 : fieldOf Try.prog 189 1 = some (1, 12) := by kernel_rfl
@[simp] theorem fo189_2 : fieldOf Try.prog 189 2 = some (2, 182) := by kernel_rfl
@[simp] theorem fo189_3 : fieldOf Try.prog 189 3 = some (3, 183) := by kernel_rfl
@[simp] theorem fo189_4 : fieldOf Try.prog 189 4 = some (4, 5) := by kernel_rfl
@[simp] theorem fo189_5 : fieldOf Try.prog 189 5 = some (5, 5) := by kernel_rfl
@[simp] theorem fo189_6 : fieldOf Try.prog 189 6 = some (6, 184) := by kernel_rfl
@[simp] theorem fo189_7 : fieldOf Try.prog 189 7 = some (7, 185) := by kernel_rfl
@[simp] theorem fo189_8 : fieldOf Try.prog 189 8 = some (8, 186) := by kernel_rfl
@[simp] theorem fo189_9 : fieldOf Try.prog 189 9 = some (9, 187) := by kernel_rfl
@[simp] theorem fo189_10 : fieldOf Try.prog 189 10 = some (10, 188) := by kernel_rfl
attribute [simp] Try.underlying189
@[simp] theorem sz190 : szOf Try.prog 190 = some 11 := by kernel_rfl
@[simp] theorem ag190 : aggOf Try.prog 190 = some true := by kernel_rfl
@[simp] theorem fo190_0 : fieldOf Try.prog 190 0 = some (0, 12) := by kernel_rfl
@[simp] theorem fo190_1 : fieldOf Try.prog 190 1 = some (1, 12) := by kernel_rfl
@[simp] theorem fo190_2 : fieldOf Try.prog 190 2 = some (2, 182) := by kernel_rfl
@[simp] theorem fo190_3 : fieldOf Try.prog 190 3 = some (3, 183) := by kernel_rfl
@[simp] theorem fo190_4 : fieldOf Try.prog 190 4 = some (4, 5) := by kernel_rfl
@[simp] theorem fo190_5 : fieldOf Try.prog 190 5 = some (5, 5) := by kernel_rfl
@[simp] theorem fo190_6 : fieldOf Try.prog 190 6 = some (6, 184) := by kernel_rfl
@[simp] theorem fo190_7 : fieldOf Try.prog 190 7 = some (7, 185) := by kernel_rfl
@[simp] theorem fo190_8 : fieldOf Try.prog 190 8 = some (8, 186) := by kernel_rfl
@[simp] theorem fo190_9 : fieldOf Try.prog 190 9 = some (9, 187) := by kernel_rfl
@[simp] theorem fo190_10 : fieldOf Try.prog 190 10 = some (10, 188) := by kernel_rfl
attribute [simp] Try.underlying190
@[simp] theorem sz191 : szOf Try.prog 191 = some 1 := by kernel_rfl
@[simp] theorem ag191 : aggOf Try.prog 191 = some false := by kernel_rfl
attribute [simp] Try.underlying191
theorem ok3 : okFn Try.f3 = true := by kernel_rfl
theorem ok4 : okFn Try.f4 = true := by kernel_rfl
theorem ok5 : okFn Try.f5 = true := by kernel_rfl
theorem ok6 : okFn Try.f6 = true := by kernel_rfl
theorem ok7 : okFn Try.f7 = true := by kernel_rfl
theorem ok8 : okFn Try.f8 = true := by kernel_rfl
theorem ok9 : okFn Try.f9 = true := by kernel_rfl
theorem ok10 : okFn Try.f10 = true := by kernel_rfl
theorem ok11 : okFn Try.f11 = true := by kernel_rfl
theorem ok12 : okFn Try.f12 = true := by kernel_rfl
theorem ok13 : okFn Try.f13 = true := by kernel_rfl
theorem ok14 : okFn Try.f14 = true := by kernel_rfl
theorem ok15 : okFn Try.f15 = true := by kernel_rfl
theorem ok16 : okFn Try.f16 = true := by kernel_rfl
theorem ok17 : okFn Try.f17 = true := by kernel_rfl
theorem ok18 : okFn Try.f18 = true := by kernel_rfl
theorem ok19 : okFn Try.f19 = true := by kernel_rfl
theorem ok20 : okFn Try.f20 = true := by kernel_rfl
theorem ok21 : okFn Try.f21 = true := by kernel_rfl
theorem ok22 : okFn Try.f22 = true := by kernel_rfl
theorem ok23 : okFn Try.f23 = true := by kernel_rfl
theorem ok24 : okFn Try.f24 = true := by kernel_rfl
theorem ok25 : okFn Try.f25 = true := by kernel_rfl
theorem ok26 : okFn Try.f26 = true := by kernel_rfl
theorem ok27 : okFn Try.f27 = true := by kernel_rfl
theorem ok28 : okFn Try.f28 = true := by kernel_rfl
theorem ok29 : okFn Try.f29 = true := by kernel_rfl
theorem ok30 : okFn Try.f30 = true := by kernel_rfl
theorem ok31 : okFn Try.f31 = true := by kernel_rfl
theorem ok32 : okFn Try.f32 = true := by kernel_rfl
theorem ok33 : okFn Try.f33 = true := by kernel_rfl
theorem ok34 : okFn Try.f34 = true := by kernel_rfl
theorem ok35 : okFn Try.f35 = true := by kernel_rfl
theorem ok36 : okFn Try.f36 = true := by kernel_rfl
theorem ok37 : okFn Try.f37 = true := by kernel_rfl
theorem ok38 : okFn Try.f38 = true := by kernel_rfl
theorem ok39 : okFn Try.f39 = true := by kernel_rfl
theorem ok40 : okFn Try.f40 = true := by kernel_rfl
theorem ok41 : okFn Try.f41 = true := by kernel_rfl
theorem ok42 : okFn Try.f42 = true := by kernel_rfl
theorem ok43 : okFn Try.f43 = true := by kernel_rfl
theorem ok44 : okFn Try.f44 = true := by kernel_rfl
theorem ok45 : okFn Try.f45 = true := by kernel_rfl
theorem ok46 : okFn Try.f46 = true := by kernel_rfl
theorem ok47 : okFn Try.f47 = true := by kernel_rfl
theorem ok48 : okFn Try.f48 = true := by kernel_rfl
theorem ok49 : okFn Try.f49 = true := by kernel_rfl
theorem ok50 : okFn Try.f50 = true := by kernel_rfl
theorem ok51 : okFn Try.f51 = true := by kernel_rfl
theorem ok52 : okFn Try.f52 = true := by kernel_rfl
theorem ok53 : okFn Try.f53 = true := by kernel_rfl
theorem ok54 : okFn Try.f54 = true := by kernel_rfl
theorem ok55 : okFn Try.f55 = true := by kernel_rfl
theorem ok56 : okFn Try.f56 = true := by kernel_rfl
theorem ok57 : okFn Try.f57 = true := by kernel_rfl
theorem ok58 : okFn Try.f58 = true := by kernel_rfl
theorem ok59 : okFn Try.f59 = true := by kernel_rfl
theorem ok60 : okFn Try.f60 = true := by kernel_rfl
theorem ok61 : okFn Try.f61 = true := by kernel_rfl
theorem ok62 : okFn Try.f62 = true := by kernel_rfl
theorem ok63 : okFn Try.f63 = true := by kernel_rfl
theorem ok64 : okFn Try.f64 = true := by kernel_rfl
theorem ok65 : okFn Try.f65 = true := by kernel_rfl
theorem ok66 : okFn Try.f66 = true := by kernel_rfl
theorem ok67 : okFn Try.f67 = true := by kernel_rfl
theorem ok68 : okFn Try.f68 = true := by kernel_rfl
theorem ok69 : okFn Try.f69 = true := by kernel_rfl
theorem ok70 : okFn Try.f70 = true := by kernel_rfl
theorem ok71 : okFn Try.f71 = true := by kernel_rfl
theorem ok72 : okFn Try.f72 = true := by kernel_rfl
theorem ok73 : okFn Try.f73 = true := by kernel_rfl
theorem ok74 : okFn Try.f74 = true := by kernel_rfl
theorem ok75 : okFn Try.f75 = true := by kernel_rfl
theorem ok76 : okFn Try.f76 = true := by kernel_rfl
theorem ok77 : okFn Try.f77 = true := by kernel_rfl
theorem ok78 : okFn Try.f78 = true := by kernel_rfl
theorem ok79 : okFn Try.f79 = true := by kernel_rfl
theorem ok80 : okFn Try.f80 = true := by kernel_rfl
theorem ok81 : okFn Try.f81 = true := by kernel_rfl
theorem ok82 : okFn Try.f82 = true := by kernel_rfl
theorem ok83 : okFn Try.f83 = true := by kernel_rfl
theorem ok84 : okFn Try.f84 = true := by kernel_rfl
theorem ok85 : okFn Try.f85 = true := by kernel_rfl
theorem ok86 : okFn Try.f86 = true := by kernel_rfl
theorem ok87 : okFn Try.f87 = true := by kernel_rfl
theorem ok88 : okFn Try.f88 = true := by kernel_rfl
theorem ok89 : okFn Try.f89 = true := by kernel_rfl
theorem ok90 : okFn Try.f90 = true := by kernel_rfl
theorem ok91 : okFn Try.f91 = true := by kernel_rfl
theorem ok92 : okFn Try.f92 = true := by kernel_rfl
theorem ok93 : okFn Try.f93 = true := by kernel_rfl
theorem ok94 : okFn Try.f94 = true := by kernel_rfl
theorem ok95 : okFn Try.f95 = true := by kernel_rfl
theorem ok96 : okFn Try.f96 = true := by kernel_rfl
theorem ok97 : okFn Try.f97 = true := by kernel_rfl
theorem ok98 : okFn Try.f98 = true := by kernel_rfl
theorem ok99 : okFn Try.f99 = true := by kernel_rfl
theorem ok100 : okFn Try.f100 = true := by kernel_rfl
theorem ok101 : okFn Try.f101 = true := by kernel_rfl
theorem ok102 : okFn Try.f102 = true := by kernel_rfl
theorem ok103 : okFn Try.f103 = true := by kernel_rfl
theorem ok104 : okFn Try.f104 = true := by kernel_rfl
theorem ok105 : okFn Try.f105 = true := by kernel_rfl
theorem ok106 : okFn Try.f106 = true := by kernel_rfl
theorem ok107 : okFn Try.f107 = true := by kernel_rfl
theorem ok108 : okFn Try.f108 = true := by kernel_rfl
theorem ok110 : okFn Try.f110 = true := by kernel_rfl
theorem ok111 : okFn Try.f111 = true := by kernel_rfl
theorem ok112 : okFn Try.f112 = true := by kernel_rfl
theorem ok113 : okFn Try.f113 = true := by kernel_rfl
theorem ok114 : okFn Try.f114 = true := by kernel_rfl
theorem ok115 : okFn Try.f115 = true := by kernel_rfl
theorem ok116 : okFn Try.f116 = true := by kernel_rfl
theorem ok117 : okFn Try.f117 = true := by kernel_rfl
theorem ok119 : okFn Try.f119 = true := by kernel_rfl
theorem ok120 : okFn Try.f120 = true := by kernel_rfl
theorem ok121 : okFn Try.f121 = true := by kernel_rfl
theorem ok122 : okFn Try.f122 = true := by kernel_rfl
end Go.Proofs.Ytenbclcfhjdcaaa.AM
