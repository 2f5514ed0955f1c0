import Derived.Test.YtmfnlloabaoagaaGreatDoorTL
import Derived.Test.YtmfnlloabaoagaaGreatDoorTT
import Derived.Test.YtmfnlloabaoagaaGreatDoorProg
import Derived.KernelRfl
set_option linter.unusedVariables false
set_option maxRecDepth 100000
namespace Go.Proofs.TB
open Go.RowKit
theorem ty3 : tyOf Tryz.prog 3 = some (false, 1) := by kernel_rfl
theorem ty4 : tyOf Tryz.prog 4 = some (false, 1) := by kernel_rfl
theorem ty9 : tyOf Tryz.prog 9 = some (false, 1) := by kernel_rfl
theorem ty23 : tyOf Tryz.prog 23 = some (true, 3) := by kernel_rfl
theorem ty24 : tyOf Tryz.prog 24 = some (false, 1) := by kernel_rfl
theorem ty25 : tyOf Tryz.prog 25 = some (false, 1) := by kernel_rfl
theorem ty26 : tyOf Tryz.prog 26 = some (false, 1) := by kernel_rfl
theorem ty27 : tyOf Tryz.prog 27 = some (false, 1) := by kernel_rfl
theorem ty28 : tyOf Tryz.prog 28 = some (false, 1) := by kernel_rfl
theorem ty29 : tyOf Tryz.prog 29 = some (false, 1) := by kernel_rfl
theorem ty30 : tyOf Tryz.prog 30 = some (false, 1) := by kernel_rfl
theorem ty32 : tyOf Tryz.prog 32 = some (true, 13) := by kernel_rfl
theorem ty41 : tyOf Tryz.prog 41 = some (true, 3) := by kernel_rfl
theorem ty62 : tyOf Tryz.prog 62 = some (false, 1) := by kernel_rfl
theorem ty63 : tyOf Tryz.prog 63 = some (false, 1) := by kernel_rfl
theorem ty64 : tyOf Tryz.prog 64 = some (false, 1) := by kernel_rfl
theorem ty66 : tyOf Tryz.prog 66 = some (true, 3) := by kernel_rfl
theorem ty68 : tyOf Tryz.prog 68 = some (true, 5) := by kernel_rfl
theorem ty92 : tyOf Tryz.prog 92 = some (false, 1) := by kernel_rfl
theorem ty94 : tyOf Tryz.prog 94 = some (true, 9) := by kernel_rfl
theorem ty99 : tyOf Tryz.prog 99 = some (true, 4) := by kernel_rfl
theorem ty122 : tyOf Tryz.prog 122 = some (true, 2) := by kernel_rfl
theorem ty124 : tyOf Tryz.prog 124 = some (true, 5) := by kernel_rfl
theorem ty182 : tyOf Tryz.prog 182 = some (true, 2) := by kernel_rfl
theorem ty184 : tyOf Tryz.prog 184 = some (true, 3) := by kernel_rfl
theorem ty186 : tyOf Tryz.prog 186 = some (true, 8) := by kernel_rfl
theorem fo23_0 : foOf Tryz.prog 23 0 = some 0 := by kernel_rfl
theorem fo23_1 : foOf Tryz.prog 23 1 = some 1 := by kernel_rfl
theorem fo23_2 : foOf Tryz.prog 23 2 = some 2 := by kernel_rfl
theorem fo32_0 : foOf Tryz.prog 32 0 = some 0 := by kernel_rfl
theorem fo32_1 : foOf Tryz.prog 32 1 = some 3 := by kernel_rfl
theorem fo32_2 : foOf Tryz.prog 32 2 = some 4 := by kernel_rfl
theorem fo32_3 : foOf Tryz.prog 32 3 = some 5 := by kernel_rfl
theorem fo32_4 : foOf Tryz.prog 32 4 = some 6 := by kernel_rfl
theorem fo32_5 : foOf Tryz.prog 32 5 = some 7 := by kernel_rfl
theorem fo32_6 : foOf Tryz.prog 32 6 = some 8 := by kernel_rfl
theorem fo32_7 : foOf Tryz.prog 32 7 = some 9 := by kernel_rfl
theorem fo32_8 : foOf Tryz.prog 32 8 = some 10 := by kernel_rfl
theorem fo32_9 : foOf Tryz.prog 32 9 = some 11 := by kernel_rfl
theorem fo32_10 : foOf Tryz.prog 32 10 = some 12 := by kernel_rfl
theorem fo41_0 : foOf Tryz.prog 41 0 = some 0 := by kernel_rfl
theorem fo41_1 : foOf Tryz.prog 41 1 = some 1 := by kernel_rfl
theorem fo41_2 : foOf Tryz.prog 41 2 = some 2 := by kernel_rfl
theorem fo66_0 : foOf Tryz.prog 66 0 = some 0 := by kernel_rfl
theorem fo66_1 : foOf Tryz.prog 66 1 = some 1 := by kernel_rfl
theorem fo66_2 : foOf Tryz.prog 66 2 = some 2 := by kernel_rfl
theorem fo68_0 : foOf Tryz.prog 68 0 = some 0 := by kernel_rfl
theorem fo68_1 : foOf Tryz.prog 68 1 = some 3 := by kernel_rfl
theorem fo68_2 : foOf Tryz.prog 68 2 = some 4 := by kernel_rfl
theorem fo94_0 : foOf Tryz.prog 94 0 = some 0 := by kernel_rfl
theorem fo94_1 : foOf Tryz.prog 94 1 = some 1 := by kernel_rfl
theorem fo94_2 : foOf Tryz.prog 94 2 = some 2 := by kernel_rfl
theorem fo94_3 : foOf Tryz.prog 94 3 = some 3 := by kernel_rfl
theorem fo94_4 : foOf Tryz.prog 94 4 = some 4 := by kernel_rfl
theorem fo94_5 : foOf Tryz.prog 94 5 = some 7 := by kernel_rfl
theorem fo94_6 : foOf Tryz.prog 94 6 = some 8 := by kernel_rfl
theorem fo99_0 : foOf Tryz.prog 99 0 = some 0 := by kernel_rfl
theorem fo99_1 : foOf Tryz.prog 99 1 = some 1 := by kernel_rfl
theorem fo99_2 : foOf Tryz.prog 99 2 = some 2 := by kernel_rfl
theorem fo99_3 : foOf Tryz.prog 99 3 = some 3 := by kernel_rfl
theorem fo122_0 : foOf Tryz.prog 122 0 = some 0 := by kernel_rfl
theorem fo122_1 : foOf Tryz.prog 122 1 = some 1 := by kernel_rfl
theorem fo124_0 : foOf Tryz.prog 124 0 = some 0 := by kernel_rfl
theorem fo124_1 : foOf Tryz.prog 124 1 = some 2 := by kernel_rfl
theorem fo124_2 : foOf Tryz.prog 124 2 = some 3 := by kernel_rfl
theorem fo124_3 : foOf Tryz.prog 124 3 = some 4 := by kernel_rfl
theorem fo182_0 : foOf Tryz.prog 182 0 = some 0 := by kernel_rfl
theorem fo182_1 : foOf Tryz.prog 182 1 = some 1 := by kernel_rfl
theorem fo184_0 : foOf Tryz.prog 184 0 = some 0 := by kernel_rfl
theorem fo184_1 : foOf Tryz.prog 184 1 = some 1 := by kernel_rfl
theorem fo184_2 : foOf Tryz.prog 184 2 = some 2 := by kernel_rfl
theorem fo186_0 : foOf Tryz.prog 186 0 = some 0 := by kernel_rfl
theorem fo186_1 : foOf Tryz.prog 186 1 = some 1 := by kernel_rfl
theorem fo186_2 : foOf Tryz.prog 186 2 = some 2 := by kernel_rfl
theorem fo186_3 : foOf Tryz.prog 186 3 = some 3 := by kernel_rfl
theorem fo186_4 : foOf Tryz.prog 186 4 = some 4 := by kernel_rfl
theorem fo186_5 : foOf Tryz.prog 186 5 = some 5 := by kernel_rfl
theorem fo186_6 : foOf Tryz.prog 186 6 = some 6 := by kernel_rfl
theorem fo186_7 : foOf Tryz.prog 186 7 = some 7 := by kernel_rfl
theorem sl24 : slOf Tryz.prog 24 = some 2 := by kernel_rfl
theorem sl25 : slOf Tryz.prog 25 = some 1 := by kernel_rfl
theorem sl26 : slOf Tryz.prog 26 = some 9 := by kernel_rfl
theorem sl27 : slOf Tryz.prog 27 = some 4 := by kernel_rfl
theorem sl28 : slOf Tryz.prog 28 = some 1 := by kernel_rfl
theorem sl29 : slOf Tryz.prog 29 = some 3 := by kernel_rfl
theorem sl30 : slOf Tryz.prog 30 = some 3 := by kernel_rfl
theorem sl62 : slOf Tryz.prog 62 = some 5 := by kernel_rfl
theorem sl63 : slOf Tryz.prog 63 = some 8 := by kernel_rfl
theorem sl64 : slOf Tryz.prog 64 = some 5 := by kernel_rfl
theorem sl92 : slOf Tryz.prog 92 = some 3 := by kernel_rfl
theorem sl302 : slOf Tryz.prog 302 = some 1 := by kernel_rfl
theorem en18 : En Tryz.prog 18 := En.of Tryz.func18 (by kernel_rfl) rfl
theorem en21 : En Tryz.prog 21 := En.of Tryz.func21 (by kernel_rfl) rfl
theorem en22 : En Tryz.prog 22 := En.of Tryz.func22 (by kernel_rfl) rfl
theorem en25 : En Tryz.prog 25 := En.of Tryz.func25 (by kernel_rfl) rfl
theorem en82 : En Tryz.prog 82 := En.of Tryz.func82 (by kernel_rfl) rfl
theorem en83 : En Tryz.prog 83 := En.of Tryz.func83 (by kernel_rfl) rfl
theorem en84 : En Tryz.prog 84 := En.of Tryz.func84 (by kernel_rfl) rfl
theorem en85 : En Tryz.prog 85 := En.of Tryz.func85 (by kernel_rfl) rfl
theorem en86 : En Tryz.prog 86 := En.of Tryz.func86 (by kernel_rfl) rfl
theorem en87 : En Tryz.prog 87 := En.of Tryz.func87 (by kernel_rfl) rfl
theorem en93 : En Tryz.prog 93 := En.of Tryz.func93 (by kernel_rfl) rfl
theorem en94 : En Tryz.prog 94 := En.of Tryz.func94 (by kernel_rfl) rfl
theorem en95 : En Tryz.prog 95 := En.of Tryz.func95 (by kernel_rfl) rfl
theorem en96 : En Tryz.prog 96 := En.of Tryz.func96 (by kernel_rfl) rfl
theorem en119 : En Tryz.prog 119 := En.of Tryz.func119 (by kernel_rfl) rfl
theorem en120 : En Tryz.prog 120 := En.of Tryz.func120 (by kernel_rfl) rfl
theorem en138 : En Tryz.prog 138 := En.of Tryz.func138 (by kernel_rfl) rfl
theorem en139 : En Tryz.prog 139 := En.of Tryz.func139 (by kernel_rfl) rfl
theorem en140 : En Tryz.prog 140 := En.of Tryz.func140 (by kernel_rfl) rfl
theorem en141 : En Tryz.prog 141 := En.of Tryz.func141 (by kernel_rfl) rfl
theorem en142 : En Tryz.prog 142 := En.of Tryz.func142 (by kernel_rfl) rfl
theorem en143 : En Tryz.prog 143 := En.of Tryz.func143 (by kernel_rfl) rfl
theorem en144 : En Tryz.prog 144 := En.of Tryz.func144 (by kernel_rfl) rfl
theorem en147 : En Tryz.prog 147 := En.of Tryz.func147 (by kernel_rfl) rfl
theorem en151 : En Tryz.prog 151 := En.of Tryz.func151 (by kernel_rfl) rfl
theorem en152 : En Tryz.prog 152 := En.of Tryz.func152 (by kernel_rfl) rfl
theorem en172 : En Tryz.prog 172 := En.of Tryz.func172 (by kernel_rfl) rfl
theorem en208 : En Tryz.prog 208 := En.of Tryz.func208 (by kernel_rfl) rfl
theorem en209 : En Tryz.prog 209 := En.of Tryz.func209 (by kernel_rfl) rfl
theorem en210 : En Tryz.prog 210 := En.of Tryz.func210 (by kernel_rfl) rfl
theorem en213 : En Tryz.prog 213 := En.of Tryz.func213 (by kernel_rfl) rfl
theorem en214 : En Tryz.prog 214 := En.of Tryz.func214 (by kernel_rfl) rfl
theorem en215 : En Tryz.prog 215 := En.of Tryz.func215 (by kernel_rfl) rfl
theorem en256 : En Tryz.prog 256 := En.of Tryz.func256 (by kernel_rfl) rfl
theorem en257 : En Tryz.prog 257 := En.of Tryz.func257 (by kernel_rfl) rfl
theorem en258 : En Tryz.prog 258 := En.of Tryz.func258 (by kernel_rfl) rfl
theorem en259 : En Tryz.prog 259 := En.of Tryz.func259 (by kernel_rfl) rfl
theorem en260 : En Tryz.prog 260 := En.of Tryz.func260 (by kernel_rfl) rfl
theorem en261 : En Tryz.prog 261 := En.of Tryz.func261 (by kernel_rfl) rfl
theorem en262 : En Tryz.prog 262 := En.of Tryz.func262 (by kernel_rfl) rfl
theorem en264 : En Tryz.prog 264 := En.of Tryz.func264 (by kernel_rfl) rfl
theorem en296 : En Tryz.prog 296 := En.of Tryz.func296 (by kernel_rfl) rfl
theorem en297 : En Tryz.prog 297 := En.of Tryz.func297 (by kernel_rfl) rfl
theorem en298 : En Tryz.prog 298 := En.of Tryz.func298 (by kernel_rfl) rfl
theorem en299 : En Tryz.prog 299 := En.of Tryz.func299 (by kernel_rfl) rfl
theorem ap28 : apOf Tryz.prog 28 = some (9, .string ⟨#[]⟩, 1, 16) := by kernel_rfl
theorem ap302 : apOf Tryz.prog 302 = some (5, .int .u8 0, 1, 1) := by kernel_rfl
theorem mixed : Tryz.prog.follows .mixedOrders = true := by kernel_rfl
theorem ze32 : zeOf Tryz.prog 32 = some (.agg #[.int .i64 0, .string ⟨#[]⟩, .string ⟨#[]⟩, .bool false, .slice none 0 0, .slice none 0 0, .string ⟨#[]⟩, .slice none 0 0, .slice none 0 0, .slice none 0 0, .slice none 0 0, .slice none 0 0, .slice none 0 0]) := by kernel_rfl
theorem ze68 : zeOf Tryz.prog 68 = some (.agg #[.int .i64 0, .string ⟨#[]⟩, .string ⟨#[]⟩, .int .i64 0, .int .i64 0]) := by kernel_rfl
theorem ze94 : zeOf Tryz.prog 94 = some (.agg #[.string ⟨#[]⟩, .int .i64 0, .bool false, .string ⟨#[]⟩, .int .i64 0, .string ⟨#[]⟩, .string ⟨#[]⟩, .int .i64 0, .slice none 0 0]) := by kernel_rfl
theorem ze99 : zeOf Tryz.prog 99 = some (.agg #[.string ⟨#[]⟩, .string ⟨#[]⟩, .string ⟨#[]⟩, .int .i64 0]) := by kernel_rfl
theorem st23 : stOf Tryz.prog 23 = some ([(0, 1), (1, 1), (2, 1)], .agg #[.int .i64 0, .string ⟨#[]⟩, .string ⟨#[]⟩]) := by kernel_rfl
theorem st32 : stOf Tryz.prog 32 = some ([(0, 3), (3, 1), (4, 1), (5, 1), (6, 1), (7, 1), (8, 1), (9, 1), (10, 1), (11, 1), (12, 1)], .agg #[.int .i64 0, .string ⟨#[]⟩, .string ⟨#[]⟩, .bool false, .slice none 0 0, .slice none 0 0, .string ⟨#[]⟩, .slice none 0 0, .slice none 0 0, .slice none 0 0, .slice none 0 0, .slice none 0 0, .slice none 0 0]) := by kernel_rfl
theorem fl23 : flOf Tryz.prog 23 = [(false, 3, 0), (false, 9, 1), (false, 9, 2)] := by kernel_rfl
theorem eqg23 (op : BinOp) (x y : Ref) : Eqg Tryz.prog op 23 x.v y.v := eqg_agg (by kernel_rfl) _ _
theorem eqd23 (x y : Ref) : (decide (x.kind = y.kind) && (decide (x.space = y.space) && (decide (x.name = y.name) && true))) = decide (x = y) := by
 cases x; cases y; simp [Ref.mk.injEq, Bool.decide_and]
theorem eq23 (x y : Ref) : Bin Tryz.prog .eql 23 x.v y.v (.bool (decide (x = y))) := by
 rw [← eqd23]
 exact Bin.eqst (EqIn.st (by kernel_rfl) (by kernel_rfl) fl23 (EqFs.cons (part1 ty3 rfl) (part1 ty3 rfl) (EqIn.int Tryz.underlying3 _ _) (EqFs.cons (part1 ty9 rfl) (part1 ty9 rfl) (EqIn.str Tryz.underlying9 _ _) (EqFs.cons (part1 ty9 rfl) (part1 ty9 rfl) (EqIn.str Tryz.underlying9 _ _) EqFs.nil))))
theorem ne23 (x y : Ref) : Bin Tryz.prog .neq 23 x.v y.v (.bool (!decide (x = y))) := by
 rw [← eqd23]
 exact Bin.nest (EqIn.st (by kernel_rfl) (by kernel_rfl) fl23 (EqFs.cons (part1 ty3 rfl) (part1 ty3 rfl) (EqIn.int Tryz.underlying3 _ _) (EqFs.cons (part1 ty9 rfl) (part1 ty9 rfl) (EqIn.str Tryz.underlying9 _ _) (EqFs.cons (part1 ty9 rfl) (part1 ty9 rfl) (EqIn.str Tryz.underlying9 _ _) EqFs.nil))))
theorem fl41 : flOf Tryz.prog 41 = [(false, 3, 0), (false, 9, 1), (false, 9, 2)] := by kernel_rfl
theorem eqg41 (op : BinOp) (x y : Side) : Eqg Tryz.prog op 41 x.v y.v := eqg_agg (by kernel_rfl) _ _
theorem eqd41 (x y : Side) : (decide (x.kind = y.kind) && (decide (x.space = y.space) && (decide (x.name = y.name) && true))) = decide (x = y) := by
 cases x; cases y; simp [Side.mk.injEq, Bool.decide_and]
theorem eq41 (x y : Side) : Bin Tryz.prog .eql 41 x.v y.v (.bool (decide (x = y))) := by
 rw [← eqd41]
 exact Bin.eqst (EqIn.st (by kernel_rfl) (by kernel_rfl) fl41 (EqFs.cons (part1 ty3 rfl) (part1 ty3 rfl) (EqIn.int Tryz.underlying3 _ _) (EqFs.cons (part1 ty9 rfl) (part1 ty9 rfl) (EqIn.str Tryz.underlying9 _ _) (EqFs.cons (part1 ty9 rfl) (part1 ty9 rfl) (EqIn.str Tryz.underlying9 _ _) EqFs.nil))))
theorem ne41 (x y : Side) : Bin Tryz.prog .neq 41 x.v y.v (.bool (!decide (x = y))) := by
 rw [← eqd41]
 exact Bin.nest (EqIn.st (by kernel_rfl) (by kernel_rfl) fl41 (EqFs.cons (part1 ty3 rfl) (part1 ty3 rfl) (EqIn.int Tryz.underlying3 _ _) (EqFs.cons (part1 ty9 rfl) (part1 ty9 rfl) (EqIn.str Tryz.underlying9 _ _) (EqFs.cons (part1 ty9 rfl) (part1 ty9 rfl) (EqIn.str Tryz.underlying9 _ _) EqFs.nil))))
theorem fl68 : flOf Tryz.prog 68 = [(false, 23, 0), (false, 3, 3), (false, 3, 4)] := by kernel_rfl
theorem eqg68 (op : BinOp) (x y : Backend) : Eqg Tryz.prog op 68 x.v y.v := eqg_agg (by kernel_rfl) _ _
theorem eqd68 (x y : Backend) : ((decide (x.ref.kind = y.ref.kind) && (decide (x.ref.space = y.ref.space) && (decide (x.ref.name = y.ref.name) && true))) && (decide (x.port = y.port) && (decide (x.weight = y.weight) && true))) = decide (x = y) := by
 rw [Bool.eq_iff_iff]; simp [Backend.ext_iff, Ref.ext_iff]
theorem eq68 (x y : Backend) : Bin Tryz.prog .eql 68 x.v y.v (.bool (decide (x = y))) := by
 rw [← eqd68]
 exact Bin.eqst (EqIn.st (by kernel_rfl) (by kernel_rfl) fl68 (EqFs.cons (partA ty23 rfl) (partA ty23 rfl) (EqIn.st (by kernel_rfl) (by kernel_rfl) fl23 (EqFs.cons (part1 ty3 rfl) (part1 ty3 rfl) (EqIn.int Tryz.underlying3 _ _) (EqFs.cons (part1 ty9 rfl) (part1 ty9 rfl) (EqIn.str Tryz.underlying9 _ _) (EqFs.cons (part1 ty9 rfl) (part1 ty9 rfl) (EqIn.str Tryz.underlying9 _ _) EqFs.nil)))) (EqFs.cons (part1 ty3 rfl) (part1 ty3 rfl) (EqIn.int Tryz.underlying3 _ _) (EqFs.cons (part1 ty3 rfl) (part1 ty3 rfl) (EqIn.int Tryz.underlying3 _ _) EqFs.nil))))
theorem ne68 (x y : Backend) : Bin Tryz.prog .neq 68 x.v y.v (.bool (!decide (x = y))) := by
 rw [← eqd68]
 exact Bin.nest (EqIn.st (by kernel_rfl) (by kernel_rfl) fl68 (EqFs.cons (partA ty23 rfl) (partA ty23 rfl) (EqIn.st (by kernel_rfl) (by kernel_rfl) fl23 (EqFs.cons (part1 ty3 rfl) (part1 ty3 rfl) (EqIn.int Tryz.underlying3 _ _) (EqFs.cons (part1 ty9 rfl) (part1 ty9 rfl) (EqIn.str Tryz.underlying9 _ _) (EqFs.cons (part1 ty9 rfl) (part1 ty9 rfl) (EqIn.str Tryz.underlying9 _ _) EqFs.nil)))) (EqFs.cons (part1 ty3 rfl) (part1 ty3 rfl) (EqIn.int Tryz.underlying3 _ _) (EqFs.cons (part1 ty3 rfl) (part1 ty3 rfl) (EqIn.int Tryz.underlying3 _ _) EqFs.nil))))
theorem fl99 : flOf Tryz.prog 99 = [(false, 9, 0), (false, 9, 1), (false, 9, 2), (false, 3, 3)] := by kernel_rfl
theorem eqg99 (op : BinOp) (x y : Parent) : Eqg Tryz.prog op 99 x.v y.v := eqg_agg (by kernel_rfl) _ _
theorem eqd99 (x y : Parent) : (decide (x.space = y.space) && (decide (x.name = y.name) && (decide (x.sect = y.sect) && (decide (x.port = y.port) && true)))) = decide (x = y) := by
 cases x; cases y; simp [Parent.mk.injEq, Bool.decide_and]
theorem eq99 (x y : Parent) : Bin Tryz.prog .eql 99 x.v y.v (.bool (decide (x = y))) := by
 rw [← eqd99]
 exact Bin.eqst (EqIn.st (by kernel_rfl) (by kernel_rfl) fl99 (EqFs.cons (part1 ty9 rfl) (part1 ty9 rfl) (EqIn.str Tryz.underlying9 _ _) (EqFs.cons (part1 ty9 rfl) (part1 ty9 rfl) (EqIn.str Tryz.underlying9 _ _) (EqFs.cons (part1 ty9 rfl) (part1 ty9 rfl) (EqIn.str Tryz.underlying9 _ _) (EqFs.cons (part1 ty3 rfl) (part1 ty3 rfl) (EqIn.int Tryz.underlying3 _ _) EqFs.nil)))))
theorem ne99 (x y : Parent) : Bin Tryz.prog .neq 99 x.v y.v (.bool (!decide (x = y))) := by
 rw [← eqd99]
 exact Bin.nest (EqIn.st (by kernel_rfl) (by kernel_rfl) fl99 (EqFs.cons (part1 ty9 rfl) (part1 ty9 rfl) (EqIn.str Tryz.underlying9 _ _) (EqFs.cons (part1 ty9 rfl) (part1 ty9 rfl) (EqIn.str Tryz.underlying9 _ _) (EqFs.cons (part1 ty9 rfl) (part1 ty9 rfl) (EqIn.str Tryz.underlying9 _ _) (EqFs.cons (part1 ty3 rfl) (part1 ty3 rfl) (EqIn.int Tryz.underlying3 _ _) EqFs.nil)))))
theorem fl122 : flOf Tryz.prog 122 = [(false, 3, 0), (false, 9, 1)] := by kernel_rfl
theorem eqg122 (op : BinOp) (x y : Path) : Eqg Tryz.prog op 122 x.v y.v := eqg_agg (by kernel_rfl) _ _
theorem eqd122 (x y : Path) : (decide (x.kind = y.kind) && (decide (x.val = y.val) && true)) = decide (x = y) := by
 cases x; cases y; simp [Path.mk.injEq, Bool.decide_and]
theorem eq122 (x y : Path) : Bin Tryz.prog .eql 122 x.v y.v (.bool (decide (x = y))) := by
 rw [← eqd122]
 exact Bin.eqst (EqIn.st (by kernel_rfl) (by kernel_rfl) fl122 (EqFs.cons (part1 ty3 rfl) (part1 ty3 rfl) (EqIn.int Tryz.underlying3 _ _) (EqFs.cons (part1 ty9 rfl) (part1 ty9 rfl) (EqIn.str Tryz.underlying9 _ _) EqFs.nil)))
theorem ne122 (x y : Path) : Bin Tryz.prog .neq 122 x.v y.v (.bool (!decide (x = y))) := by
 rw [← eqd122]
 exact Bin.nest (EqIn.st (by kernel_rfl) (by kernel_rfl) fl122 (EqFs.cons (part1 ty3 rfl) (part1 ty3 rfl) (EqIn.int Tryz.underlying3 _ _) (EqFs.cons (part1 ty9 rfl) (part1 ty9 rfl) (EqIn.str Tryz.underlying9 _ _) EqFs.nil)))
theorem fl182 : flOf Tryz.prog 182 = [(false, 9, 0), (false, 9, 1)] := by kernel_rfl
theorem eqg182 (op : BinOp) (x y : Pair) : Eqg Tryz.prog op 182 x.v y.v := eqg_agg (by kernel_rfl) _ _
theorem eqd182 (x y : Pair) : (decide (x.name = y.name) && (decide (x.val = y.val) && true)) = decide (x = y) := by
 cases x; cases y; simp [Pair.mk.injEq, Bool.decide_and]
theorem eq182 (x y : Pair) : Bin Tryz.prog .eql 182 x.v y.v (.bool (decide (x = y))) := by
 rw [← eqd182]
 exact Bin.eqst (EqIn.st (by kernel_rfl) (by kernel_rfl) fl182 (EqFs.cons (part1 ty9 rfl) (part1 ty9 rfl) (EqIn.str Tryz.underlying9 _ _) (EqFs.cons (part1 ty9 rfl) (part1 ty9 rfl) (EqIn.str Tryz.underlying9 _ _) EqFs.nil)))
theorem ne182 (x y : Pair) : Bin Tryz.prog .neq 182 x.v y.v (.bool (!decide (x = y))) := by
 rw [← eqd182]
 exact Bin.nest (EqIn.st (by kernel_rfl) (by kernel_rfl) fl182 (EqFs.cons (part1 ty9 rfl) (part1 ty9 rfl) (EqIn.str Tryz.underlying9 _ _) (EqFs.cons (part1 ty9 rfl) (part1 ty9 rfl) (EqIn.str Tryz.underlying9 _ _) EqFs.nil)))
theorem fl186 : flOf Tryz.prog 186 = [(false, 3, 0), (false, 9, 1), (false, 9, 2), (false, 9, 3), (false, 3, 4), (false, 9, 5), (false, 4, 6), (false, 3, 7)] := by kernel_rfl
theorem eqg186 (op : BinOp) (x y : Filter) : Eqg Tryz.prog op 186 x.v y.v := eqg_agg (by kernel_rfl) _ _
theorem eqd186 (x y : Filter) : (decide (x.kind = y.kind) && (decide (x.name = y.name) && (decide (x.val = y.val) && (decide (x.host = y.host) && (decide (x.port = y.port) && (decide (x.path = y.path) && (decide (x.whole = y.whole) && (decide (x.code = y.code) && true)))))))) = decide (x = y) := by
 cases x; cases y; simp [Filter.mk.injEq, Bool.decide_and]
theorem eq186 (x y : Filter) : Bin Tryz.prog .eql 186 x.v y.v (.bool (decide (x = y))) := by
 rw [← eqd186]
 exact Bin.eqst (EqIn.st (by kernel_rfl) (by kernel_rfl) fl186 (EqFs.cons (part1 ty3 rfl) (part1 ty3 rfl) (EqIn.int Tryz.underlying3 _ _) (EqFs.cons (part1 ty9 rfl) (part1 ty9 rfl) (EqIn.str Tryz.underlying9 _ _) (EqFs.cons (part1 ty9 rfl) (part1 ty9 rfl) (EqIn.str Tryz.underlying9 _ _) (EqFs.cons (part1 ty9 rfl) (part1 ty9 rfl) (EqIn.str Tryz.underlying9 _ _) (EqFs.cons (part1 ty3 rfl) (part1 ty3 rfl) (EqIn.int Tryz.underlying3 _ _) (EqFs.cons (part1 ty9 rfl) (part1 ty9 rfl) (EqIn.str Tryz.underlying9 _ _) (EqFs.cons (part1 ty4 rfl) (part1 ty4 rfl) (EqIn.bool Tryz.underlying4 _ _) (EqFs.cons (part1 ty3 rfl) (part1 ty3 rfl) (EqIn.int Tryz.underlying3 _ _) EqFs.nil)))))))))
theorem ne186 (x y : Filter) : Bin Tryz.prog .neq 186 x.v y.v (.bool (!decide (x = y))) := by
 rw [← eqd186]
 exact Bin.nest (EqIn.st (by kernel_rfl) (by kernel_rfl) fl186 (EqFs.cons (part1 ty3 rfl) (part1 ty3 rfl) (EqIn.int Tryz.underlying3 _ _) (EqFs.cons (part1 ty9 rfl) (part1 ty9 rfl) (EqIn.str Tryz.underlying9 _ _) (EqFs.cons (part1 ty9 rfl) (part1 ty9 rfl) (EqIn.str Tryz.underlying9 _ _) (EqFs.cons (part1 ty9 rfl) (part1 ty9 rfl) (EqIn.str Tryz.underlying9 _ _) (EqFs.cons (part1 ty3 rfl) (part1 ty3 rfl) (EqIn.int Tryz.underlying3 _ _) (EqFs.cons (part1 ty9 rfl) (part1 ty9 rfl) (EqIn.str Tryz.underlying9 _ _) (EqFs.cons (part1 ty4 rfl) (part1 ty4 rfl) (EqIn.bool Tryz.underlying4 _ _) (EqFs.cons (part1 ty3 rfl) (part1 ty3 rfl) (EqIn.int Tryz.underlying3 _ _) EqFs.nil)))))))))
/-! strings.indexFunc -/
def m264_l0 (a0 : ByteArray) (p1 : Int → Bool) (a2 : Bool) : Nat → Nat → (Int ⊕ Unit)
 | 0, _ => .inr ()
 | n4 + 1, r3 => if r3 < a0.size then (if ((p1 (rc a0 r3)) == a2) = true then (.inl (r3 : Int)) else m264_l0 a0 p1 a2 n4 (r3 + rw_ a0 r3)) else .inr ()
def m264 (a0 : ByteArray) (p1 : Int → Bool) (a2 : Bool) : Int :=
 lk2 (m264_l0 a0 p1 a2 (a0.size - 0) 0) (fun _ => (-1))
theorem c264 (a0 : ByteArray) (fn1 : Nat) (q1 : List Value) (p1 : Int → Bool) (a2 : Bool) {w : World} {H : PH} (hs : Sub H w) (k0p : a0.size < 1048576) (en1p : En Tryz.prog fn1) (s1p : ∀ (x0 : Int) (w' : World) (H' : PH), Le H H' → Sub H' w' → Spec Tryz.prog fn1 (.int .i32 x0 :: q1).toArray w' H' (fun _ v => v = .bool (p1 x0))) : Spec Tryz.prog 264 [.string a0, .func (.func fn1) #[] q1.toArray, .bool a2].toArray w H (fun _ v => v = .int .i64 (m264 a0 p1 a2)) := by
 refine Spec.enter Tryz.func264 rfl Tryz.ntmps264 rfl ?_
 have st := St.start hs
 refine CW.seq (CW.reg (WL.as rfl (WL.nt (CW.seq (CW.seq (CW.reg (WL.mv rfl ?_)))))))
 refine WL.range rfl rfl rfl Tryz.underlying9 st ?_
 intro b1 W2 st
 refine WL.nt ?_
 refine (CW.cuts (fun (s : Unit) W => (∃ H', St w W H H' [] ∧ Le H H') ∧ m264_l0 a0 p1 a2 (a0.size - 0) 0 = .inr ()) (fun (s : Unit) => []) ?_ ?_)
 ·refine CW.blk (CW.loop (fun (s : Nat × Nat) W => (∃ H', St w W H H' [Own.box b1 (.stringIter a0 s.2)] ∧ Le H H') ∧ (a0.size - s.2) ≤ s.1 ∧ m264_l0 a0 p1 a2 s.1 s.2 = m264_l0 a0 p1 a2 (a0.size - 0) 0) (fun (s : Nat × Nat) => [(1, Value.func (.func fn1) #[] q1.toArray), (2, Value.bool a2), (10, Value.pointer (some (⟨b1, 0, none⟩ : Addr)))]) (fun s => s.1) ⟨(a0.size - 0), 0⟩ ⟨⟨_, st, Le.refl _⟩, Nat.le_refl _, rfl⟩ (.cons rfl (.cons rfl (.cons rfl (.nil _)))) ?_)
  rintro ⟨N12, r3⟩ W7 ⟨⟨H5, st, l6⟩, g11, e8⟩
  replace g11 : (a0.size - r3) ≤ N12 := g11
  replace e8 : m264_l0 a0 p1 a2 N12 r3 = m264_l0 a0 p1 a2 (a0.size - 0) 0 := e8
  replace st : St w _ _ _ [Own.box b1 (.stringIter a0 r3)] := st
  show CW _ _ _ _ [(1, Value.func (.func fn1) #[] q1.toArray), (2, Value.bool a2), (10, Value.pointer (some (⟨b1, 0, none⟩ : Addr)))] _
  refine CW.seq (CW.reg ?_)
  refine WL.next rfl rfl rfl st (fun h13 W14 st => ?_) (fun h13 => ?_)
  ·obtain ⟨n4, rfl⟩ : ∃ k, N12 = k + 1 := ⟨N12 - 1, by omega⟩
   have z15 := rw_pos h13
   refine WL.pv (Pu.ext rfl rfl) (WL.nt (CW.seq ?_))
   refine CW.condT rfl ?_
   refine CW.skip (QX.thenN ?_)
   refine CW.blk ?_
   refine CW.seq (CW.reg (WL.pv (Pu.ext rfl rfl) (WL.pv (Pu.ext rfl rfl) (WL.as rfl (WL.as rfl (WL.nt (CW.seq (CW.reg (WL.mv rfl ?_)))))))))
   refine WL.mv rfl ?_
   refine WL.callv rfl rfl en1p rfl rfl st (s1p (rc a0 r3) _ _ l6 st.sub ) ?_
   intro W17 st
   refine WL.mv rfl (WL.pv (Pu.beq rfl rfl Tryz.underlying4) (WL.nt ?_))
   refine CW.condP 19 rfl rT rF (fun h18 => ?_) (fun h18 => ?_)
   ·refine CW.seq (CW.reg (WL.mv rfl (WL.as rfl (WL.nt ?_))))
    refine CW.ret (QX.blkR (QX.thenR (QX.blkR (QX.thenR (QX.thenR (finA Tryz.results264 st (.tmp rfl .nil) ?_))))))
    exact congrArg (fun z => Value.int .i64 z) (Eq.symm (lk_inl ((Eq.symm e8).trans ((if_pos h13).trans (if_pos h18)))))
   ·refine CW.skip (QX.blkN (QX.round ⟨n4, r3 + rw_ a0 r3⟩ ?_ (Nat.lt_succ_self _) (.cons rfl (.cons rfl (.cons rfl (.nil _))))))
    exact ⟨⟨_, st, l6⟩, (by first|omega|simp<;>omega), Eq.symm ((Eq.symm e8).trans ((if_pos h13).trans (if_neg h18)))⟩
  ·have e16 : m264_l0 a0 p1 a2 N12 r3 = .inr () := by cases N12 with
  | zero => rfl
  | succ n => exact if_neg h13
   refine WL.pv (Pu.ext rfl rfl) (WL.nt (CW.seq ?_))
   refine CW.condF rfl ?_
   refine CW.exit (QX.thenE (QX.thenE (QX.hit (QX.meets () ?_ (.nil _)))))
   replace st := st.forget
   exact ⟨⟨_, st, l6⟩, (Eq.symm e8).trans e16⟩
 rintro _ W21 ⟨⟨H19, st, l20⟩, e22⟩
 show QX _ _ _ [] _
 refine QX.thenN (CW.seq (CW.reg (WL.as rfl (WL.nt ?_))))
 refine CW.ret (finA Tryz.results264 st (.tmp rfl .nil) ?_)
 exact congrArg (fun z => Value.int .i64 z) (Eq.symm (lk_inr e22))
/-! strings.IndexFunc -/
def m215 (a0 : ByteArray) (p1 : Int → Bool) : Int :=
 m264 a0 p1 true
theorem c215 (a0 : ByteArray) (fn1 : Nat) (q1 : List Value) (p1 : Int → Bool) {w : World} {H : PH} (hs : Sub H w) (k0p : a0.size < 1048576) (en1p : En Tryz.prog fn1) (s1p : ∀ (x0 : Int) (w' : World) (H' : PH), Le H H' → Sub H' w' → Spec Tryz.prog fn1 (.int .i32 x0 :: q1).toArray w' H' (fun _ v => v = .bool (p1 x0))) : Spec Tryz.prog 215 [.string a0, .func (.func fn1) #[] q1.toArray].toArray w H (fun _ v => v = .int .i64 (m215 a0 p1)) := by
 refine Spec.enter Tryz.func215 rfl Tryz.ntmps215 rfl ?_
 have st := St.start hs
 refine CW.seq (CW.reg (WL.as rfl (WL.nt (CW.seq (CW.reg (WL.mv rfl (WL.mv rfl ?_)))))))
 refine WL.callv rfl rfl en264 rfl rfl st (c264 a0 fn1 q1 p1 true st.sub k0p en1p (fun x0 w' H' lq2 hs  => s1p x0 w' H' ((Le.refl _).trans lq2) hs )) ?_
 intro W1 st
 refine WL.as rfl (WL.nt ?_)
 refine CW.ret (finA Tryz.results215 st (.tmp rfl .nil) ?_)
 exact congrArg (fun z => Value.int .i64 z) (Eq.symm rfl)
/-! toll dns.octet -/
def m214 (a0 : Int) : Bool :=
 if (97 : Int) ≤ a0 then (if a0 ≤ 122 then true else if (48 : Int) ≤ a0 then (if a0 ≤ 57 then true else decide (a0 = 45)) else decide (a0 = 45)) else if (48 : Int) ≤ a0 then (if a0 ≤ 57 then true else decide (a0 = 45)) else decide (a0 = 45)
theorem c214 (a0 : Int) {w : World} {H : PH} (hs : Sub H w)  : Spec Tryz.prog 214 [.int .i32 a0].toArray w H (fun _ v => v = .bool (m214 a0)) := by
 refine Spec.enter Tryz.func214 rfl Tryz.ntmps214 rfl ?_
 have st := St.start hs
 refine CW.seq (CW.reg (WL.as rfl (WL.nt (CW.seq (CW.reg (WL.mv rfl (WL.pv (Pu.ige rfl rfl) (WL.mv rfl ?_))))))))
 refine WL.splitP 5 rfl dT dF (fun h1 => ?_) (fun h1 => ?_)
 ·refine WL.mv rfl (WL.pv (Pu.ile rfl rfl) (WL.pv (Pu.pickT rfl rfl) (WL.mv rfl ?_)))
  refine WL.splitP 9 rfl dT dF (fun h2 => ?_) (fun h2 => ?_)
  ·refine WL.of (WL.of (WL.of (WL.of (WL.of (WL.of (WL.pv (Pu.pickT rfl rfl) (WL.mv rfl (WL.of (WL.of ?_)))))))))
   refine WL.pv (Pu.pickT rfl rfl) (WL.as rfl (WL.nt ?_))
   refine CW.ret (finA Tryz.results214 st (.tmp rfl .nil) ?_)
   exact vb ((if_pos h1).trans (if_pos h2))
  ·refine WL.mv rfl (WL.pv (Pu.ige rfl rfl) (WL.mv rfl ?_))
   refine WL.splitP 12 rfl dT dF (fun h3 => ?_) (fun h3 => ?_)
   ·refine WL.mv rfl (WL.pv (Pu.ile rfl rfl) (WL.pv (Pu.pickT rfl rfl) (WL.pv (Pu.pickF rfl rfl) (WL.mv rfl ?_))))
    refine WL.splitP 17 rfl dT dF (fun h4 => ?_) (fun h4 => ?_)
    ·refine WL.of (WL.of (WL.pv (Pu.pickT rfl rfl) (WL.as rfl (WL.nt ?_))))
     refine CW.ret (finA Tryz.results214 st (.tmp rfl .nil) ?_)
     exact vb ((if_pos h1).trans ((if_neg h2).trans ((if_pos h3).trans (if_pos h4))))
    ·refine WL.mv rfl (WL.pv (Pu.ieq rfl rfl) (WL.pv (Pu.pickF rfl rfl) (WL.as rfl (WL.nt ?_))))
     refine CW.ret (finA Tryz.results214 st (.tmp rfl .nil) ?_)
     exact vb ((if_pos h1).trans ((if_neg h2).trans ((if_pos h3).trans (if_neg h4))))
   ·refine WL.of (WL.of (WL.pv (Pu.pickF rfl rfl) (WL.pv (Pu.pickF rfl rfl) (WL.mv rfl (WL.mv rfl (WL.pv (Pu.ieq rfl rfl) (WL.pv (Pu.pickF rfl rfl) (WL.as rfl (WL.nt ?_)))))))))
    refine CW.ret (finA Tryz.results214 st (.tmp rfl .nil) ?_)
    exact vb ((if_pos h1).trans ((if_neg h2).trans (if_neg h3)))
 ·refine WL.of (WL.of (WL.pv (Pu.pickF rfl rfl) (WL.mv rfl (WL.mv rfl (WL.pv (Pu.ige rfl rfl) (WL.mv rfl ?_))))))
  refine WL.splitP 12 rfl dT dF (fun h5 => ?_) (fun h5 => ?_)
  ·refine WL.mv rfl (WL.pv (Pu.ile rfl rfl) (WL.pv (Pu.pickT rfl rfl) (WL.pv (Pu.pickF rfl rfl) (WL.mv rfl ?_))))
   refine WL.splitP 17 rfl dT dF (fun h6 => ?_) (fun h6 => ?_)
   ·refine WL.of (WL.of (WL.pv (Pu.pickT rfl rfl) (WL.as rfl (WL.nt ?_))))
    refine CW.ret (finA Tryz.results214 st (.tmp rfl .nil) ?_)
    exact vb ((if_neg h1).trans ((if_pos h5).trans (if_pos h6)))
   ·refine WL.mv rfl (WL.pv (Pu.ieq rfl rfl) (WL.pv (Pu.pickF rfl rfl) (WL.as rfl (WL.nt ?_))))
    refine CW.ret (finA Tryz.results214 st (.tmp rfl .nil) ?_)
    exact vb ((if_neg h1).trans ((if_pos h5).trans (if_neg h6)))
  ·refine WL.of (WL.of (WL.pv (Pu.pickF rfl rfl) (WL.pv (Pu.pickF rfl rfl) (WL.mv rfl (WL.mv rfl (WL.pv (Pu.ieq rfl rfl) (WL.pv (Pu.pickF rfl rfl) (WL.as rfl (WL.nt ?_)))))))))
   refine CW.ret (finA Tryz.results214 st (.tmp rfl .nil) ?_)
   exact vb ((if_neg h1).trans (if_neg h5))
/-! toll dns.Label 1 -/
def m213 (a0 : Int) : Bool :=
 !(m214 a0)
theorem c213 (a0 : Int) {w : World} {H : PH} (hs : Sub H w)  : Spec Tryz.prog 213 [.int .i32 a0].toArray w H (fun _ v => v = .bool (m213 a0)) := by
 refine Spec.enter Tryz.func213 rfl Tryz.ntmps213 rfl ?_
 have st := St.start hs
 refine CW.seq (CW.reg (WL.as rfl (WL.nt (CW.seq (CW.reg (WL.mv rfl ?_))))))
 refine WL.callv rfl rfl en214 rfl rfl st (c214 a0 st.sub ) ?_
 intro W1 st
 refine WL.pv (Pu.notb rfl) (WL.as rfl (WL.nt ?_))
 refine CW.ret (finA Tryz.results213 st (.tmp rfl .nil) ?_)
 exact congrArg (fun z => Value.bool z) (Eq.symm rfl)
/-! toll dns.Label -/
def m152 (a0 : ByteArray) : Bool :=
 if a0 = (⟨#[]⟩ : ByteArray) then false else if (a0.size : Int) ≤ 20 then (if (m215 a0 (fun x0 => m213 x0)) < 0 then (if (bt a0 0) = 45 then false else !decide ((bt a0 ((a0.size : Int) - 1)) = 45)) else false) else false
theorem c152 (a0 : ByteArray) {w : World} {H : PH} (hs : Sub H w) (k0p : a0.size < 1048576) : Spec Tryz.prog 152 [.string a0].toArray w H (fun _ v => v = .bool (m152 a0)) := by
 refine Spec.enter Tryz.func152 rfl Tryz.ntmps152 rfl ?_
 have st := St.start hs
 refine CW.seq (CW.reg (WL.as rfl (WL.nt (CW.seq (CW.reg (WL.as rfl (WL.nt (CW.seq (CW.reg ?_)))))))))
 refine WL.mv rfl (WL.pv (Pu.sne rfl rfl) (WL.mv rfl ?_))
 refine WL.splitP 6 rfl nT nF (fun h1 => ?_) (fun h1 => ?_)
 ·have z2 := size_ne h1
  refine WL.mv rfl ?_
  have z3 := k0p
  refine WL.pv (Pu.lenstr rfl Tryz.underlying9) (WL.pv (Pu.ile rfl rfl) (WL.pv (Pu.pickT rfl rfl) (WL.mv rfl ?_)))
  refine WL.splitP 11 rfl dT dF (fun h4 => ?_) (fun h4 => ?_)
  ·refine WL.mv rfl ?_
   refine WL.mv rfl ?_
   refine WL.callv rfl rfl en215 rfl rfl st (c215 a0 213 [] (fun x0 => m213 x0) st.sub k0p en213 (fun x0 w' H' lq6 hs  => c213 x0 hs )) ?_
   intro W5 st
   refine WL.pv (Pu.ilt rfl rfl) (WL.pv (Pu.pickT rfl rfl) (WL.mv rfl ?_))
   refine WL.splitP 17 rfl dT dF (fun h7 => ?_) (fun h7 => ?_)
   ·refine WL.mv rfl (WL.pv (Pu.ixs rfl rfl Tryz.underlying9 (by omega) (by omega)) (WL.pv (Pu.ine rfl rfl) (WL.pv (Pu.pickT rfl rfl) (WL.mv rfl ?_))))
    refine WL.splitP 22 rfl nT nF (fun h8 => ?_) (fun h8 => ?_)
    ·refine WL.mv rfl ?_
     refine WL.mv rfl ?_
     have z9 := k0p
     refine WL.pv (Pu.lenstr rfl Tryz.underlying9) (WL.pv (Pu.isub rfl rfl (c := (a0.size : Int) - 1) (w64 (by omega) (by omega))) (WL.pv (Pu.ixs rfl rfl Tryz.underlying9 (by omega) (by omega)) (WL.pv (Pu.ine rfl rfl) (WL.pv (Pu.pickT rfl rfl) (WL.as rfl (WL.nt ?_))))))
     refine CW.ret (finA Tryz.results152 st (.tmp rfl .nil) ?_)
     exact vb ((if_neg h1).trans ((if_pos h4).trans ((if_pos h7).trans (if_neg h8))))
    ·refine WL.of (WL.of (WL.of (WL.of (WL.of (WL.of (WL.pv (Pu.pickF rfl rfl) (WL.as rfl (WL.nt ?_))))))))
     refine CW.ret (finA Tryz.results152 st (.tmp rfl .nil) ?_)
     exact vb ((if_neg h1).trans ((if_pos h4).trans ((if_pos h7).trans (if_pos h8))))
   ·refine WL.of (WL.of (WL.of (WL.pv (Pu.pickF rfl rfl) (WL.mv rfl (WL.of (WL.of (WL.of (WL.of (WL.of ?_)))))))))
    refine WL.of (WL.pv (Pu.pickF rfl rfl) (WL.as rfl (WL.nt ?_)))
    refine CW.ret (finA Tryz.results152 st (.tmp rfl .nil) ?_)
    exact vb ((if_neg h1).trans ((if_pos h4).trans (if_neg h7)))
  ·refine WL.of (WL.of (WL.of (WL.of (WL.pv (Pu.pickF rfl rfl) (WL.mv rfl (WL.of (WL.of (WL.of (WL.pv (Pu.pickF rfl rfl) ?_)))))))))
   refine WL.mv rfl (WL.of (WL.of (WL.of (WL.of (WL.of (WL.of (WL.pv (Pu.pickF rfl rfl) (WL.as rfl (WL.nt ?_)))))))))
   refine CW.ret (finA Tryz.results152 st (.tmp rfl .nil) ?_)
   exact vb ((if_neg h1).trans (if_neg h4))
 ·refine WL.of (WL.of (WL.of (WL.pv (Pu.pickF rfl rfl) (WL.mv rfl (WL.of (WL.of (WL.of (WL.of (WL.pv (Pu.pickF rfl rfl) ?_)))))))))
  refine WL.mv rfl (WL.of (WL.of (WL.of (WL.pv (Pu.pickF rfl rfl) (WL.mv rfl (WL.of (WL.of (WL.of (WL.of ?_)))))))))
  refine WL.of (WL.of (WL.pv (Pu.pickF rfl rfl) (WL.as rfl (WL.nt ?_))))
  refine CW.ret (finA Tryz.results152 st (.tmp rfl .nil) ?_)
  exact vb (if_pos h1)
/-! toll tollref01.Split -/
def m172_l0 (a0 : ByteArray) (a1 : Int) : Nat → (List ByteArray) → Int → (List ByteArray)
 | 0, r3, _ => r3
 | n6 + 1, r3, r5 => if (bt a0 r5) = a1 then (m172_l0 a0 a1 n6 (r3 ++ ([(⟨#[]⟩ : ByteArray)] : List ByteArray)) (r5 + 1)) else m172_l0 a0 a1 n6 (r3.set ((r3.length : Int) - 1).toNat ((lg r3 ((r3.length : Int) - 1)) ++ (a0.extract (r5).toNat (r5 + 1).toNat))) (r5 + 1)
def m172 (a0 : ByteArray) (a1 : Int) : (List ByteArray) :=
 lk1 (m172_l0 a0 a1 (((a0.size : Int) - 0).toNat) ([(⟨#[]⟩ : ByteArray)] : List ByteArray) 0) (fun r7 => r7)
theorem c172 (a0 : ByteArray) (a1 : Int) {w : World} {H : PH} (hs : Sub H w) (k0p : a0.size < 1048576) : Spec Tryz.prog 172 [.string a0, .int .u8 a1].toArray w H (fun H' v => ∃ (x0 : Sl ByteArray), v = x0.v ∧ Sl.Ok 1048576 H' x0 ∧ x0.l = m172 a0 a1) := by
 refine Spec.enter Tryz.func172 rfl Tryz.ntmps172 rfl ?_
 have st := St.start hs
 refine CW.seq (CW.reg (WL.as rfl (WL.nt (CW.seq (CW.reg ?_)))))
 refine WL.litrow ([(⟨#[]⟩ : ByteArray)] : List ByteArray) rfl rfl ap28 rfl rfl rfl rfl rfl rfl rfl rfl rfl st ?_
 intro b2 W1 st
 refine WL.as rfl (WL.nt (CW.seq (CW.seq (CW.reg (WL.as rfl (WL.nt ?_))))))
 refine (CW.cuts (fun (s : (List ByteArray) × Value) W => (∃ H', St w W H H' [rowS (α := ByteArray) s.2 9 s.1] ∧ Le H H' ∧ OkL (((a0.size : Int) : Int).toNat + 1) H' s.1 ∧ (s.1.length : Int) ≤ ((a0.size : Int)) + 1 ∧ 1 ≤ s.1.length) ∧ m172_l0 a0 a1 (((a0.size : Int) - 0).toNat) ([(⟨#[]⟩ : ByteArray)] : List ByteArray) 0 = s.1) (fun (s : (List ByteArray) × Value) => [(5, s.2)]) ?_ ?_)
 ·refine CW.blk (CW.loop (fun (s : Nat × (List ByteArray) × Int × Value) W => (∃ H', St w W H H' [rowS (α := ByteArray) s.2.2.2 9 s.2.1] ∧ Le H H' ∧ OkL ((s.2.2.1 : Int).toNat + 1) H' s.2.1 ∧ (s.2.1.length : Int) ≤ s.2.2.1 + 1 ∧ 1 ≤ s.2.1.length) ∧ 0 ≤ s.2.2.1 ∧ s.2.2.1 ≤ (a0.size : Int) ∧ s.1 = ((a0.size : Int) - s.2.2.1).toNat ∧ m172_l0 a0 a1 s.1 s.2.1 s.2.2.1 = m172_l0 a0 a1 (((a0.size : Int) - 0).toNat) ([(⟨#[]⟩ : ByteArray)] : List ByteArray) 0) (fun (s : Nat × (List ByteArray) × Int × Value) => [(0, Value.string a0), (1, Value.int .u8 a1), (5, s.2.2.2), (6, Value.int .i64 s.2.2.1)]) (fun s => s.1) ⟨((a0.size : Int) - 0).toNat, ([(⟨#[]⟩ : ByteArray)] : List ByteArray), 0, (.slice (some ⟨b2, 0, none⟩) 1 1)⟩ ⟨⟨_, st, Le.refl _, (OkL.cons (okS (by first|omega|simp<;>omega)) OkL.nil), (by first|omega|simp<;>omega)⟩, (by first|omega|simp<;>omega), (by first|omega|simp<;>omega), rfl, rfl⟩ (.cons rfl (.cons rfl (.cons rfl (.cons rfl (.nil _))))) ?_)
  rintro ⟨N18, r3, r5, v4⟩ W11 ⟨⟨H9, st, l10, k16, g17⟩, g43, g44, g15, e12⟩
  replace g43 : 0 ≤ r5 := g43
  replace g44 : r5 ≤ (a0.size : Int) := g44
  replace g15 : N18 = ((a0.size : Int) - r5).toNat := g15
  replace e12 : m172_l0 a0 a1 N18 r3 r5 = m172_l0 a0 a1 (((a0.size : Int) - 0).toNat) ([(⟨#[]⟩ : ByteArray)] : List ByteArray) 0 := e12
  obtain ⟨v4A, v4m, v4c, rfl⟩ := row_form st (.head _)
  replace st : St w _ _ _ [rowS (α := ByteArray) (.slice v4A v4m v4c) 9 r3] := st
  replace k16 : OkL ((r5 : Int).toNat + 1) H9 r3 := k16
  replace g17 : (r3.length : Int) ≤ r5 + 1 ∧ 1 ≤ r3.length := g17
  show CW _ _ _ _ [(0, Value.string a0), (1, Value.int .u8 a1), (5, (.slice v4A v4m v4c)), (6, Value.int .i64 r5)] _
  refine CW.seq (CW.seq (CW.reg (WL.mv rfl (WL.mv rfl ?_))))
  have z19 := k0p
  refine WL.pv (Pu.lenstr rfl Tryz.underlying9) (WL.pv (Pu.ilt rfl rfl) (WL.nt ?_))
  refine CW.condP 11 rfl dT dF (fun h20 => ?_) (fun h20 => ?_)
  ·obtain ⟨n6, rfl⟩ : ∃ k, N18 = k + 1 := ⟨N18 - 1, by omega⟩
   refine CW.skip (QX.thenN ?_)
   refine CW.seq ?_
   refine CW.blk ?_
   refine CW.seq (CW.reg (WL.mv rfl (WL.mv rfl (WL.pv (Pu.ixs rfl rfl Tryz.underlying9 (by omega) (by omega)) (WL.mv rfl (WL.pv (Pu.ieq rfl rfl) (WL.nt ?_)))))))
   refine CW.condP 18 rfl dT dF (fun h21 => ?_) (fun h21 => ?_)
   ·refine CW.reg (WL.mv rfl ?_)
    refine WL.lit (M := 1048576) ([(⟨#[]⟩ : ByteArray)] : List ByteArray) rfl rfl ap28 rfl rfl rfl rfl rfl rfl rfl rfl rfl (by decide) (OkL.cons (okS (by first|omega|simp<;>omega)) OkL.nil) st ?_
    intro b23 W22 H24 st l25 k26
    refine WL.appS (s2 := (⟨some ⟨b23, 0, none⟩, 1, ([(⟨#[]⟩ : ByteArray)] : List ByteArray)⟩ : Sl ByteArray)) rfl rfl ap28 rfl rfl rfl rfl rfl k26 (by first|omega|simp<;>omega) (by first|omega|simp<;>omega) st ?_
    intro A27 mm28 n29 W30 st
    refine WL.as rfl ?_
    refine WL.nil (QX.blkN (QX.thenN ?_))
    refine CW.reg (WL.mv rfl (WL.pv (Pu.iadd rfl rfl (c := r5 + 1) (w64 (by omega) (by omega))) (WL.as rfl ?_)))
    refine WL.nil (QX.round ⟨n6, r3 ++ ([(⟨#[]⟩ : ByteArray)] : List ByteArray), r5 + 1, (.slice A27 mm28 n29)⟩ ?_ (Nat.lt_succ_self _) (.cons rfl (.cons rfl (.cons rfl (.cons rfl (.nil _))))))
    exact ⟨⟨_, st, (l10.trans l25), (OkL.app (OkL.mono (by first|omega|simp<;>omega) (k16.le l25)) (OkL.cons (okS (by first|omega|simp<;>omega)) OkL.nil)), (by first|omega|simp<;>omega)⟩, (by first|omega|simp<;>omega), (by first|omega|simp<;>omega), (by first|omega|simp<;>omega), Eq.symm ((Eq.symm e12).trans (if_pos h21))⟩
   ·obtain ⟨g31, rfl, rfl⟩ := row_shape st (.head _) (by first|omega|simp<;>omega)
    refine CW.regS (C := Cl w H9 [rowS (α := ByteArray) (.slice (some ⟨g31, 0, none⟩) r3.length v4c) 9 r3]) (tail := [13]) (S := Grew w H H9 [rowS (α := ByteArray) (.slice (some ⟨g31, 0, none⟩) r3.length v4c) 9 r3]) mixed (fun W' h1 h2 h3 h4 => grew_start st h1 h2 h3 h4) (n := 14) rfl ?_
    refine WS.pk 0 rfl gg (fun W hC => Pu.move rfl) ?_
    refine WS.pk 1 rfl gg (fun W hC => Pu.move rfl) ?_
    refine WS.pk 2 rfl gg (fun W hC => len_row (l := r3) (hC.2 _ (.head _)) rfl sl28) ?_
    refine WS.pk 3 rfl gg (fun W hC => Pu.isub rfl rfl (c := (r3.length : Int) - 1) (w64 (by omega) (by omega))) ?_
    have y32 := lg_get (l := r3) (i := (r3.length : Int) - 1) (by first|omega|simp<;>omega) (by first|omega|simp<;>omega)
    have k33 : (lg r3 ((r3.length : Int) - 1)).size < ((r5 : Int).toNat + 1) := k16 _ (List.mem_of_getElem? y32)
    refine WS.pk 4 rfl gg (fun W hC => Pu.idx0 rfl rfl sl28 (by first|omega|simp<;>omega) (by first|omega|simp<;>omega) rfl) ?_
    refine WS.pk 5 rfl gg (fun W hC => Pu.load rfl ty9 (row_el (hC.2 _ (.head _)) y32) rfl) ?_
    refine WS.pk 6 rfl gg (fun W hC => Pu.move rfl) ?_
    refine WS.pk 7 rfl gg (fun W hC => Pu.move rfl) ?_
    refine WS.pk 8 rfl gg (fun W hC => Pu.move rfl) ?_
    refine WS.pk 9 rfl gg (fun W hC => Pu.iadd rfl rfl (c := r5 + 1) (w64 (by omega) (by omega))) ?_
    refine WS.pk 10 rfl gg (fun W hC => Pu.slb rfl rfl rfl Tryz.underlying9 (by omega) (by omega) (by omega)) ?_
    have z34 : (lg r3 ((r3.length : Int) - 1)).size < ((r5 : Int).toNat + 1) := k33
    have z35 : (a0.extract (r5).toNat (r5 + 1).toNat).size < 1048576 := (ex_le k0p)
    refine WS.pk 11 rfl gg (fun W hC => Pu.sadd rfl rfl (by first|omega|simp<;>omega)) ?_
    have y36 := lg_get (l := r3) (i := (r3.length : Int) - 1) (by first|omega|simp<;>omega) (by first|omega|simp<;>omega)
    have k37 : (lg r3 ((r3.length : Int) - 1)).size < ((r5 : Int).toNat + 1) := k16 _ (List.mem_of_getElem? y36)
    refine WS.pk 12 rfl gg (fun W hC => Pu.idx0 rfl rfl sl28 (by first|omega|simp<;>omega) (by first|omega|simp<;>omega) rfl) ?_
    refine WS.one (i := 13) (by kernel_rfl) ?_
    refine WO.storerow (z := (lg r3 ((r3.length : Int) - 1)) ++ (a0.extract (r5).toNat (r5 + 1).toNat)) 13 rfl rfl (by kernel_rfl) rfl rfl rfl ty9 rfl rfl (by first|omega|simp<;>omega) (by first|omega|simp<;>omega) ?_
    intro H38 l39
    refine WS.fin (by kernel_rfl) (fun W42 H40 st l41 => ?_)
    refine QX.blkN (QX.thenN ?_)
    refine CW.reg (WL.mv rfl (WL.pv (Pu.iadd rfl rfl (c := r5 + 1) (w64 (by omega) (by omega))) (WL.as rfl ?_)))
    refine WL.nil (QX.round ⟨n6, r3.set ((r3.length : Int) - 1).toNat ((lg r3 ((r3.length : Int) - 1)) ++ (a0.extract (r5).toNat (r5 + 1).toNat)), r5 + 1, (.slice (some ⟨g31, 0, none⟩) r3.length v4c)⟩ ?_ (Nat.lt_succ_self _) (.cons rfl (.cons rfl (.cons rfl (.cons rfl (.nil _))))))
    exact ⟨⟨_, st, ((l10.trans l39).trans l41), (OkL.set _ (okS (by first|omega|simp<;>omega)) (OkL.mono (by first|omega|simp<;>omega) (k16.le (l39.trans l41)))), (by first|omega|simp<;>omega)⟩, (by first|omega|simp<;>omega), (by first|omega|simp<;>omega), (by first|omega|simp<;>omega), Eq.symm ((Eq.symm e12).trans (if_neg h21))⟩
  ·obtain rfl : N18 = 0 := by omega
   refine CW.exit (QX.thenE (QX.thenE (QX.hit (QX.meets ⟨r3, (.slice v4A v4m v4c)⟩ ?_ (.cons rfl (.nil _))))))
   exact ⟨⟨_, st, l10, (OkL.mono (by first|omega|simp<;>omega) k16), (by first|omega|simp<;>omega)⟩, Eq.symm e12⟩
 rintro ⟨r7, v8⟩ W47 ⟨⟨H45, st, l46, k49, g50⟩, e48⟩
 obtain ⟨v8A, v8m, v8c, rfl⟩ := row_form st (.head _)
 replace st : St w _ _ _ [rowS (α := ByteArray) (.slice v8A v8m v8c) 9 r7] := st
 replace k49 : OkL (((a0.size : Int) : Int).toNat + 1) H45 r7 := k49
 replace g50 : (r7.length : Int) ≤ ((a0.size : Int)) + 1 ∧ 1 ≤ r7.length := g50
 replace e48 : m172_l0 a0 a1 (((a0.size : Int) - 0).toNat) ([(⟨#[]⟩ : ByteArray)] : List ByteArray) 0 = r7 := e48
 show QX _ _ _ [(5, (.slice v8A v8m v8c))] _
 refine QX.thenN (CW.seq (CW.reg (WL.mv rfl (WL.as rfl (WL.nt ?_)))))
 obtain ⟨H51, st', l52, rfl, k53⟩ := st.settle (M := 1048576) (OkL.mono (by first|omega|simp<;>omega) k49) (by first|omega|simp<;>omega)
 have st := st'
 refine CW.ret (finA Tryz.results172 st (.tmp rfl .nil) ?_)
 exact ⟨(⟨v8A, v8c, r7⟩ : Sl ByteArray), rfl, k53, Eq.symm (lk1_eq e48)⟩
/-! toll tollref01.Label -/
def m139_l0 (a0 : ByteArray) : Nat → Int → (Bool ⊕ Unit)
 | 0, _ => .inr ()
 | n2 + 1, r1 => if r1 = 0 then (if (97 : Int) ≤ bt a0 r1 then (if (bt a0 r1) ≤ 122 then (m139_l0 a0 n2 (r1 + 1)) else if (48 : Int) ≤ bt a0 r1 then (if (bt a0 r1) ≤ 57 then (m139_l0 a0 n2 (r1 + 1)) else if (bt a0 r1) = 45 then (.inl false) else .inl false) else if (bt a0 r1) = 45 then (.inl false) else .inl false) else if (48 : Int) ≤ bt a0 r1 then (if (bt a0 r1) ≤ 57 then (m139_l0 a0 n2 (r1 + 1)) else if (bt a0 r1) = 45 then (.inl false) else .inl false) else if (bt a0 r1) = 45 then (.inl false) else .inl false) else if (97 : Int) ≤ bt a0 r1 then (if (bt a0 r1) ≤ 122 then (m139_l0 a0 n2 (r1 + 1)) else if (48 : Int) ≤ bt a0 r1 then (if (bt a0 r1) ≤ 57 then (m139_l0 a0 n2 (r1 + 1)) else if (bt a0 r1) = 45 then (if (!decide (r1 = (a0.size : Int) - 1)) = true then (m139_l0 a0 n2 (r1 + 1)) else .inl false) else .inl false) else if (bt a0 r1) = 45 then (if (!decide (r1 = (a0.size : Int) - 1)) = true then (m139_l0 a0 n2 (r1 + 1)) else .inl false) else .inl false) else if (48 : Int) ≤ bt a0 r1 then (if (bt a0 r1) ≤ 57 then (m139_l0 a0 n2 (r1 + 1)) else if (bt a0 r1) = 45 then (if (!decide (r1 = (a0.size : Int) - 1)) = true then (m139_l0 a0 n2 (r1 + 1)) else .inl false) else .inl false) else if (bt a0 r1) = 45 then (if (!decide (r1 = (a0.size : Int) - 1)) = true then (m139_l0 a0 n2 (r1 + 1)) else .inl false) else .inl false
def m139 (a0 : ByteArray) : Bool :=
 lk2 (m139_l0 a0 (((a0.size : Int) - 0).toNat) 0) (fun _ => if (1 : Int) ≤ (a0.size : Int) then (decide ((a0.size : Int) ≤ 20)) else false)
theorem c139 (a0 : ByteArray) {w : World} {H : PH} (hs : Sub H w) (k0p : a0.size < 1048576) : Spec Tryz.prog 139 [.string a0].toArray w H (fun _ v => v = .bool (m139 a0)) := by
 refine Spec.enter Tryz.func139 rfl Tryz.ntmps139 rfl ?_
 have st := St.start hs
 refine CW.seq (CW.reg (WL.as rfl (WL.nt (CW.seq (CW.seq (CW.reg (WL.as rfl (WL.nt ?_))))))))
 refine (CW.cuts (fun (s : Unit) W => (∃ H', St w W H H' [] ∧ Le H H') ∧ m139_l0 a0 (((a0.size : Int) - 0).toNat) 0 = .inr ()) (fun (s : Unit) => [(0, Value.string a0)]) ?_ ?_)
 ·refine CW.blk (CW.loop (fun (s : Nat × Int) W => (∃ H', St w W H H' [] ∧ Le H H') ∧ 0 ≤ s.2 ∧ s.2 ≤ (a0.size : Int) ∧ s.1 = ((a0.size : Int) - s.2).toNat ∧ m139_l0 a0 s.1 s.2 = m139_l0 a0 (((a0.size : Int) - 0).toNat) 0) (fun (s : Nat × Int) => [(0, Value.string a0), (3, Value.int .i64 s.2)]) (fun s => s.1) ⟨((a0.size : Int) - 0).toNat, 0⟩ ⟨⟨_, st, Le.refl _⟩, (by first|omega|simp<;>omega), (by first|omega|simp<;>omega), rfl, rfl⟩ (.cons rfl (.cons rfl (.nil _))) ?_)
  rintro ⟨N10, r1⟩ W5 ⟨⟨H3, st, l4⟩, g39, g40, g9, e6⟩
  replace g39 : 0 ≤ r1 := g39
  replace g40 : r1 ≤ (a0.size : Int) := g40
  replace g9 : N10 = ((a0.size : Int) - r1).toNat := g9
  replace e6 : m139_l0 a0 N10 r1 = m139_l0 a0 (((a0.size : Int) - 0).toNat) 0 := e6
  show CW _ _ _ _ [(0, Value.string a0), (3, Value.int .i64 r1)] _
  refine CW.seq (CW.seq (CW.reg (WL.mv rfl (WL.mv rfl ?_))))
  have z11 := k0p
  refine WL.pv (Pu.lenstr rfl Tryz.underlying9) (WL.pv (Pu.ilt rfl rfl) (WL.nt ?_))
  refine CW.condP 9 rfl dT dF (fun h12 => ?_) (fun h12 => ?_)
  ·obtain ⟨n2, rfl⟩ : ∃ k, N10 = k + 1 := ⟨N10 - 1, by omega⟩
   refine CW.skip (QX.thenN ?_)
   refine CW.seq ?_
   refine CW.blk ?_
   refine CW.seq (CW.reg (WL.mv rfl (WL.mv rfl (WL.pv (Pu.ixs rfl rfl Tryz.underlying9 (by omega) (by omega)) (WL.as rfl (WL.nt (CW.seq (CW.reg (WL.mv rfl ?_)))))))))
   refine WL.pv (Pu.ieq rfl rfl) (WL.mv rfl ?_)
   refine WL.splitP 17 rfl dT dF (fun h13 => ?_) (fun h13 => ?_)
   ·refine WL.of (WL.of (WL.of (WL.of (WL.of (WL.pv (Pu.pickT rfl rfl) (WL.as rfl (WL.nt (CW.seq (CW.reg ?_)))))))))
    refine WL.mv rfl (WL.pv (Pu.ile rfl rfl) (WL.mv rfl ?_))
    refine WL.splitP 26 rfl dT dF (fun h14 => ?_) (fun h14 => ?_)
    ·refine WL.mv rfl (WL.pv (Pu.ile rfl rfl) (WL.pv (Pu.pickT rfl rfl) (WL.mv rfl ?_)))
     refine WL.splitP 30 rfl dT dF (fun h15 => ?_) (fun h15 => ?_)
     ·refine WL.of (WL.of (WL.of (WL.of (WL.of (WL.of (WL.pv (Pu.pickT rfl rfl) (WL.mv rfl (WL.of (WL.of ?_)))))))))
      refine WL.of (WL.of (WL.of (WL.of (WL.pv (Pu.pickT rfl rfl) (WL.pv (Pu.notb rfl) (WL.nt ?_))))))
      refine CW.condF rfl ?_
      refine CW.skip (QX.blkN (QX.thenN ?_))
      refine CW.reg (WL.mv rfl (WL.pv (Pu.iadd rfl rfl (c := r1 + 1) (w64 (by omega) (by omega))) (WL.as rfl ?_)))
      refine WL.nil (QX.round ⟨n2, r1 + 1⟩ ?_ (Nat.lt_succ_self _) (.cons rfl (.cons rfl (.nil _))))
      exact ⟨⟨_, st, l4⟩, (by first|omega|simp<;>omega), (by first|omega|simp<;>omega), (by first|omega|simp<;>omega), Eq.symm ((Eq.symm e6).trans ((if_pos h13).trans ((if_pos h14).trans (if_pos h15))))⟩
     ·refine WL.mv rfl (WL.pv (Pu.ile rfl rfl) (WL.mv rfl ?_))
      refine WL.splitP 33 rfl dT dF (fun h16 => ?_) (fun h16 => ?_)
      ·refine WL.mv rfl (WL.pv (Pu.ile rfl rfl) (WL.pv (Pu.pickT rfl rfl) (WL.pv (Pu.pickF rfl rfl) (WL.mv rfl ?_))))
       refine WL.splitP 38 rfl dT dF (fun h17 => ?_) (fun h17 => ?_)
       ·refine WL.of (WL.of (WL.of (WL.of (WL.of (WL.of (WL.pv (Pu.pickT rfl rfl) (WL.pv (Pu.notb rfl) (WL.nt ?_))))))))
        refine CW.condF rfl ?_
        refine CW.skip (QX.blkN (QX.thenN ?_))
        refine CW.reg (WL.mv rfl (WL.pv (Pu.iadd rfl rfl (c := r1 + 1) (w64 (by omega) (by omega))) (WL.as rfl ?_)))
        refine WL.nil (QX.round ⟨n2, r1 + 1⟩ ?_ (Nat.lt_succ_self _) (.cons rfl (.cons rfl (.nil _))))
        exact ⟨⟨_, st, l4⟩, (by first|omega|simp<;>omega), (by first|omega|simp<;>omega), (by first|omega|simp<;>omega), Eq.symm ((Eq.symm e6).trans ((if_pos h13).trans ((if_pos h14).trans ((if_neg h15).trans ((if_pos h16).trans (if_pos h17))))))⟩
       ·refine WL.mv rfl (WL.pv (Pu.ieq rfl rfl) (WL.mv rfl ?_))
        refine WL.splitP 41 rfl dT dF (fun h18 => ?_) (fun h18 => ?_)
        ·refine WL.mv rfl (WL.pv (Pu.notb rfl) (WL.pv (Pu.pickT rfl rfl) (WL.pv (Pu.pickF rfl rfl) (WL.pv (Pu.notb rfl) (WL.nt ?_)))))
         refine CW.condT rfl ?_
         refine CW.seq (CW.reg (WL.as rfl (WL.nt ?_)))
         refine CW.ret (QX.blkR (QX.thenR (QX.thenR (QX.blkR (QX.thenR (QX.thenR (finA Tryz.results139 st (.tmp rfl .nil) ?_)))))))
         exact vb (lk_inl ((Eq.symm e6).trans ((if_pos h13).trans ((if_pos h14).trans ((if_neg h15).trans ((if_pos h16).trans ((if_neg h17).trans (if_pos h18))))))))
        ·refine WL.of (WL.of (WL.pv (Pu.pickF rfl rfl) (WL.pv (Pu.pickF rfl rfl) (WL.pv (Pu.notb rfl) (WL.nt ?_)))))
         refine CW.condT rfl ?_
         refine CW.seq (CW.reg (WL.as rfl (WL.nt ?_)))
         refine CW.ret (QX.blkR (QX.thenR (QX.thenR (QX.blkR (QX.thenR (QX.thenR (finA Tryz.results139 st (.tmp rfl .nil) ?_)))))))
         exact vb (lk_inl ((Eq.symm e6).trans ((if_pos h13).trans ((if_pos h14).trans ((if_neg h15).trans ((if_pos h16).trans ((if_neg h17).trans (if_neg h18))))))))
      ·refine WL.of (WL.of (WL.pv (Pu.pickF rfl rfl) (WL.pv (Pu.pickF rfl rfl) (WL.mv rfl (WL.mv rfl (WL.pv (Pu.ieq rfl rfl) (WL.mv rfl ?_)))))))
       refine WL.splitP 41 rfl dT dF (fun h19 => ?_) (fun h19 => ?_)
       ·refine WL.mv rfl (WL.pv (Pu.notb rfl) (WL.pv (Pu.pickT rfl rfl) (WL.pv (Pu.pickF rfl rfl) (WL.pv (Pu.notb rfl) (WL.nt ?_)))))
        refine CW.condT rfl ?_
        refine CW.seq (CW.reg (WL.as rfl (WL.nt ?_)))
        refine CW.ret (QX.blkR (QX.thenR (QX.thenR (QX.blkR (QX.thenR (QX.thenR (finA Tryz.results139 st (.tmp rfl .nil) ?_)))))))
        exact vb (lk_inl ((Eq.symm e6).trans ((if_pos h13).trans ((if_pos h14).trans ((if_neg h15).trans ((if_neg h16).trans (if_pos h19)))))))
       ·refine WL.of (WL.of (WL.pv (Pu.pickF rfl rfl) (WL.pv (Pu.pickF rfl rfl) (WL.pv (Pu.notb rfl) (WL.nt ?_)))))
        refine CW.condT rfl ?_
        refine CW.seq (CW.reg (WL.as rfl (WL.nt ?_)))
        refine CW.ret (QX.blkR (QX.thenR (QX.thenR (QX.blkR (QX.thenR (QX.thenR (finA Tryz.results139 st (.tmp rfl .nil) ?_)))))))
        exact vb (lk_inl ((Eq.symm e6).trans ((if_pos h13).trans ((if_pos h14).trans ((if_neg h15).trans ((if_neg h16).trans (if_neg h19)))))))
    ·refine WL.of (WL.of (WL.pv (Pu.pickF rfl rfl) (WL.mv rfl (WL.mv rfl (WL.pv (Pu.ile rfl rfl) (WL.mv rfl ?_))))))
     refine WL.splitP 33 rfl dT dF (fun h20 => ?_) (fun h20 => ?_)
     ·refine WL.mv rfl (WL.pv (Pu.ile rfl rfl) (WL.pv (Pu.pickT rfl rfl) (WL.pv (Pu.pickF rfl rfl) (WL.mv rfl ?_))))
      refine WL.splitP 38 rfl dT dF (fun h21 => ?_) (fun h21 => ?_)
      ·refine WL.of (WL.of (WL.of (WL.of (WL.of (WL.of (WL.pv (Pu.pickT rfl rfl) (WL.pv (Pu.notb rfl) (WL.nt ?_))))))))
       refine CW.condF rfl ?_
       refine CW.skip (QX.blkN (QX.thenN ?_))
       refine CW.reg (WL.mv rfl (WL.pv (Pu.iadd rfl rfl (c := r1 + 1) (w64 (by omega) (by omega))) (WL.as rfl ?_)))
       refine WL.nil (QX.round ⟨n2, r1 + 1⟩ ?_ (Nat.lt_succ_self _) (.cons rfl (.cons rfl (.nil _))))
       exact ⟨⟨_, st, l4⟩, (by first|omega|simp<;>omega), (by first|omega|simp<;>omega), (by first|omega|simp<;>omega), Eq.symm ((Eq.symm e6).trans ((if_pos h13).trans ((if_neg h14).trans ((if_pos h20).trans (if_pos h21)))))⟩
      ·refine WL.mv rfl (WL.pv (Pu.ieq rfl rfl) (WL.mv rfl ?_))
       refine WL.splitP 41 rfl dT dF (fun h22 => ?_) (fun h22 => ?_)
       ·refine WL.mv rfl (WL.pv (Pu.notb rfl) (WL.pv (Pu.pickT rfl rfl) (WL.pv (Pu.pickF rfl rfl) (WL.pv (Pu.notb rfl) (WL.nt ?_)))))
        refine CW.condT rfl ?_
        refine CW.seq (CW.reg (WL.as rfl (WL.nt ?_)))
        refine CW.ret (QX.blkR (QX.thenR (QX.thenR (QX.blkR (QX.thenR (QX.thenR (finA Tryz.results139 st (.tmp rfl .nil) ?_)))))))
        exact vb (lk_inl ((Eq.symm e6).trans ((if_pos h13).trans ((if_neg h14).trans ((if_pos h20).trans ((if_neg h21).trans (if_pos h22)))))))
       ·refine WL.of (WL.of (WL.pv (Pu.pickF rfl rfl) (WL.pv (Pu.pickF rfl rfl) (WL.pv (Pu.notb rfl) (WL.nt ?_)))))
        refine CW.condT rfl ?_
        refine CW.seq (CW.reg (WL.as rfl (WL.nt ?_)))
        refine CW.ret (QX.blkR (QX.thenR (QX.thenR (QX.blkR (QX.thenR (QX.thenR (finA Tryz.results139 st (.tmp rfl .nil) ?_)))))))
        exact vb (lk_inl ((Eq.symm e6).trans ((if_pos h13).trans ((if_neg h14).trans ((if_pos h20).trans ((if_neg h21).trans (if_neg h22)))))))
     ·refine WL.of (WL.of (WL.pv (Pu.pickF rfl rfl) (WL.pv (Pu.pickF rfl rfl) (WL.mv rfl (WL.mv rfl (WL.pv (Pu.ieq rfl rfl) (WL.mv rfl ?_)))))))
      refine WL.splitP 41 rfl dT dF (fun h23 => ?_) (fun h23 => ?_)
      ·refine WL.mv rfl (WL.pv (Pu.notb rfl) (WL.pv (Pu.pickT rfl rfl) (WL.pv (Pu.pickF rfl rfl) (WL.pv (Pu.notb rfl) (WL.nt ?_)))))
       refine CW.condT rfl ?_
       refine CW.seq (CW.reg (WL.as rfl (WL.nt ?_)))
       refine CW.ret (QX.blkR (QX.thenR (QX.thenR (QX.blkR (QX.thenR (QX.thenR (finA Tryz.results139 st (.tmp rfl .nil) ?_)))))))
       exact vb (lk_inl ((Eq.symm e6).trans ((if_pos h13).trans ((if_neg h14).trans ((if_neg h20).trans (if_pos h23))))))
      ·refine WL.of (WL.of (WL.pv (Pu.pickF rfl rfl) (WL.pv (Pu.pickF rfl rfl) (WL.pv (Pu.notb rfl) (WL.nt ?_)))))
       refine CW.condT rfl ?_
       refine CW.seq (CW.reg (WL.as rfl (WL.nt ?_)))
       refine CW.ret (QX.blkR (QX.thenR (QX.thenR (QX.blkR (QX.thenR (QX.thenR (finA Tryz.results139 st (.tmp rfl .nil) ?_)))))))
       exact vb (lk_inl ((Eq.symm e6).trans ((if_pos h13).trans ((if_neg h14).trans ((if_neg h20).trans (if_neg h23))))))
   ·refine WL.mv rfl ?_
    refine WL.mv rfl ?_
    have z24 := k0p
    refine WL.pv (Pu.lenstr rfl Tryz.underlying9) (WL.pv (Pu.isub rfl rfl (c := (a0.size : Int) - 1) (w64 (by omega) (by omega))) (WL.pv (Pu.ieq rfl rfl) (WL.pv (Pu.pickF rfl rfl) (WL.as rfl (WL.nt (CW.seq (CW.reg (WL.mv rfl (WL.pv (Pu.ile rfl rfl) ?_)))))))))
    refine WL.mv rfl ?_
    refine WL.splitP 26 rfl dT dF (fun h25 => ?_) (fun h25 => ?_)
    ·refine WL.mv rfl (WL.pv (Pu.ile rfl rfl) (WL.pv (Pu.pickT rfl rfl) (WL.mv rfl ?_)))
     refine WL.splitP 30 rfl dT dF (fun h26 => ?_) (fun h26 => ?_)
     ·refine WL.of (WL.of (WL.of (WL.of (WL.of (WL.of (WL.pv (Pu.pickT rfl rfl) (WL.mv rfl (WL.of (WL.of ?_)))))))))
      refine WL.of (WL.of (WL.of (WL.of (WL.pv (Pu.pickT rfl rfl) (WL.pv (Pu.notb rfl) (WL.nt ?_))))))
      refine CW.condF rfl ?_
      refine CW.skip (QX.blkN (QX.thenN ?_))
      refine CW.reg (WL.mv rfl (WL.pv (Pu.iadd rfl rfl (c := r1 + 1) (w64 (by omega) (by omega))) (WL.as rfl ?_)))
      refine WL.nil (QX.round ⟨n2, r1 + 1⟩ ?_ (Nat.lt_succ_self _) (.cons rfl (.cons rfl (.nil _))))
      exact ⟨⟨_, st, l4⟩, (by first|omega|simp<;>omega), (by first|omega|simp<;>omega), (by first|omega|simp<;>omega), Eq.symm ((Eq.symm e6).trans ((if_neg h13).trans ((if_pos h25).trans (if_pos h26))))⟩
     ·refine WL.mv rfl (WL.pv (Pu.ile rfl rfl) (WL.mv rfl ?_))
      refine WL.splitP 33 rfl dT dF (fun h27 => ?_) (fun h27 => ?_)
      ·refine WL.mv rfl (WL.pv (Pu.ile rfl rfl) (WL.pv (Pu.pickT rfl rfl) (WL.pv (Pu.pickF rfl rfl) (WL.mv rfl ?_))))
       refine WL.splitP 38 rfl dT dF (fun h28 => ?_) (fun h28 => ?_)
       ·refine WL.of (WL.of (WL.of (WL.of (WL.of (WL.of (WL.pv (Pu.pickT rfl rfl) (WL.pv (Pu.notb rfl) (WL.nt ?_))))))))
        refine CW.condF rfl ?_
        refine CW.skip (QX.blkN (QX.thenN ?_))
        refine CW.reg (WL.mv rfl (WL.pv (Pu.iadd rfl rfl (c := r1 + 1) (w64 (by omega) (by omega))) (WL.as rfl ?_)))
        refine WL.nil (QX.round ⟨n2, r1 + 1⟩ ?_ (Nat.lt_succ_self _) (.cons rfl (.cons rfl (.nil _))))
        exact ⟨⟨_, st, l4⟩, (by first|omega|simp<;>omega), (by first|omega|simp<;>omega), (by first|omega|simp<;>omega), Eq.symm ((Eq.symm e6).trans ((if_neg h13).trans ((if_pos h25).trans ((if_neg h26).trans ((if_pos h27).trans (if_pos h28))))))⟩
       ·refine WL.mv rfl (WL.pv (Pu.ieq rfl rfl) (WL.mv rfl ?_))
        refine WL.splitP 41 rfl dT dF (fun h29 => ?_) (fun h29 => ?_)
        ·refine WL.mv rfl (WL.pv (Pu.notb rfl) (WL.pv (Pu.pickT rfl rfl) (WL.pv (Pu.pickF rfl rfl) (WL.pv (Pu.notb rfl) (WL.nt ?_)))))
         refine CW.condP 46 rfl mT mF (fun h30 => ?_) (fun h30 => ?_)
         ·refine CW.seq (CW.reg (WL.as rfl (WL.nt ?_)))
          refine CW.ret (QX.blkR (QX.thenR (QX.thenR (QX.blkR (QX.thenR (QX.thenR (finA Tryz.results139 st (.tmp rfl .nil) ?_)))))))
          exact vb (lk_inl ((Eq.symm e6).trans ((if_neg h13).trans ((if_pos h25).trans ((if_neg h26).trans ((if_pos h27).trans ((if_neg h28).trans ((if_pos h29).trans (if_neg h30)))))))))
         ·refine CW.skip (QX.blkN (QX.thenN ?_))
          refine CW.reg (WL.mv rfl (WL.pv (Pu.iadd rfl rfl (c := r1 + 1) (w64 (by omega) (by omega))) (WL.as rfl ?_)))
          refine WL.nil (QX.round ⟨n2, r1 + 1⟩ ?_ (Nat.lt_succ_self _) (.cons rfl (.cons rfl (.nil _))))
          exact ⟨⟨_, st, l4⟩, (by first|omega|simp<;>omega), (by first|omega|simp<;>omega), (by first|omega|simp<;>omega), Eq.symm ((Eq.symm e6).trans ((if_neg h13).trans ((if_pos h25).trans ((if_neg h26).trans ((if_pos h27).trans ((if_neg h28).trans ((if_pos h29).trans (if_pos h30))))))))⟩
        ·refine WL.of (WL.of (WL.pv (Pu.pickF rfl rfl) (WL.pv (Pu.pickF rfl rfl) (WL.pv (Pu.notb rfl) (WL.nt ?_)))))
         refine CW.condT rfl ?_
         refine CW.seq (CW.reg (WL.as rfl (WL.nt ?_)))
         refine CW.ret (QX.blkR (QX.thenR (QX.thenR (QX.blkR (QX.thenR (QX.thenR (finA Tryz.results139 st (.tmp rfl .nil) ?_)))))))
         exact vb (lk_inl ((Eq.symm e6).trans ((if_neg h13).trans ((if_pos h25).trans ((if_neg h26).trans ((if_pos h27).trans ((if_neg h28).trans (if_neg h29))))))))
      ·refine WL.of (WL.of (WL.pv (Pu.pickF rfl rfl) (WL.pv (Pu.pickF rfl rfl) (WL.mv rfl (WL.mv rfl (WL.pv (Pu.ieq rfl rfl) (WL.mv rfl ?_)))))))
       refine WL.splitP 41 rfl dT dF (fun h31 => ?_) (fun h31 => ?_)
       ·refine WL.mv rfl (WL.pv (Pu.notb rfl) (WL.pv (Pu.pickT rfl rfl) (WL.pv (Pu.pickF rfl rfl) (WL.pv (Pu.notb rfl) (WL.nt ?_)))))
        refine CW.condP 46 rfl mT mF (fun h32 => ?_) (fun h32 => ?_)
        ·refine CW.seq (CW.reg (WL.as rfl (WL.nt ?_)))
         refine CW.ret (QX.blkR (QX.thenR (QX.thenR (QX.blkR (QX.thenR (QX.thenR (finA Tryz.results139 st (.tmp rfl .nil) ?_)))))))
         exact vb (lk_inl ((Eq.symm e6).trans ((if_neg h13).trans ((if_pos h25).trans ((if_neg h26).trans ((if_neg h27).trans ((if_pos h31).trans (if_neg h32))))))))
        ·refine CW.skip (QX.blkN (QX.thenN ?_))
         refine CW.reg (WL.mv rfl (WL.pv (Pu.iadd rfl rfl (c := r1 + 1) (w64 (by omega) (by omega))) (WL.as rfl ?_)))
         refine WL.nil (QX.round ⟨n2, r1 + 1⟩ ?_ (Nat.lt_succ_self _) (.cons rfl (.cons rfl (.nil _))))
         exact ⟨⟨_, st, l4⟩, (by first|omega|simp<;>omega), (by first|omega|simp<;>omega), (by first|omega|simp<;>omega), Eq.symm ((Eq.symm e6).trans ((if_neg h13).trans ((if_pos h25).trans ((if_neg h26).trans ((if_neg h27).trans ((if_pos h31).trans (if_pos h32)))))))⟩
       ·refine WL.of (WL.of (WL.pv (Pu.pickF rfl rfl) (WL.pv (Pu.pickF rfl rfl) (WL.pv (Pu.notb rfl) (WL.nt ?_)))))
        refine CW.condT rfl ?_
        refine CW.seq (CW.reg (WL.as rfl (WL.nt ?_)))
        refine CW.ret (QX.blkR (QX.thenR (QX.thenR (QX.blkR (QX.thenR (QX.thenR (finA Tryz.results139 st (.tmp rfl .nil) ?_)))))))
        exact vb (lk_inl ((Eq.symm e6).trans ((if_neg h13).trans ((if_pos h25).trans ((if_neg h26).trans ((if_neg h27).trans (if_neg h31)))))))
    ·refine WL.of (WL.of (WL.pv (Pu.pickF rfl rfl) (WL.mv rfl (WL.mv rfl (WL.pv (Pu.ile rfl rfl) (WL.mv rfl ?_))))))
     refine WL.splitP 33 rfl dT dF (fun h33 => ?_) (fun h33 => ?_)
     ·refine WL.mv rfl (WL.pv (Pu.ile rfl rfl) (WL.pv (Pu.pickT rfl rfl) (WL.pv (Pu.pickF rfl rfl) (WL.mv rfl ?_))))
      refine WL.splitP 38 rfl dT dF (fun h34 => ?_) (fun h34 => ?_)
      ·refine WL.of (WL.of (WL.of (WL.of (WL.of (WL.of (WL.pv (Pu.pickT rfl rfl) (WL.pv (Pu.notb rfl) (WL.nt ?_))))))))
       refine CW.condF rfl ?_
       refine CW.skip (QX.blkN (QX.thenN ?_))
       refine CW.reg (WL.mv rfl (WL.pv (Pu.iadd rfl rfl (c := r1 + 1) (w64 (by omega) (by omega))) (WL.as rfl ?_)))
       refine WL.nil (QX.round ⟨n2, r1 + 1⟩ ?_ (Nat.lt_succ_self _) (.cons rfl (.cons rfl (.nil _))))
       exact ⟨⟨_, st, l4⟩, (by first|omega|simp<;>omega), (by first|omega|simp<;>omega), (by first|omega|simp<;>omega), Eq.symm ((Eq.symm e6).trans ((if_neg h13).trans ((if_neg h25).trans ((if_pos h33).trans (if_pos h34)))))⟩
      ·refine WL.mv rfl (WL.pv (Pu.ieq rfl rfl) (WL.mv rfl ?_))
       refine WL.splitP 41 rfl dT dF (fun h35 => ?_) (fun h35 => ?_)
       ·refine WL.mv rfl (WL.pv (Pu.notb rfl) (WL.pv (Pu.pickT rfl rfl) (WL.pv (Pu.pickF rfl rfl) (WL.pv (Pu.notb rfl) (WL.nt ?_)))))
        refine CW.condP 46 rfl mT mF (fun h36 => ?_) (fun h36 => ?_)
        ·refine CW.seq (CW.reg (WL.as rfl (WL.nt ?_)))
         refine CW.ret (QX.blkR (QX.thenR (QX.thenR (QX.blkR (QX.thenR (QX.thenR (finA Tryz.results139 st (.tmp rfl .nil) ?_)))))))
         exact vb (lk_inl ((Eq.symm e6).trans ((if_neg h13).trans ((if_neg h25).trans ((if_pos h33).trans ((if_neg h34).trans ((if_pos h35).trans (if_neg h36))))))))
        ·refine CW.skip (QX.blkN (QX.thenN ?_))
         refine CW.reg (WL.mv rfl (WL.pv (Pu.iadd rfl rfl (c := r1 + 1) (w64 (by omega) (by omega))) (WL.as rfl ?_)))
         refine WL.nil (QX.round ⟨n2, r1 + 1⟩ ?_ (Nat.lt_succ_self _) (.cons rfl (.cons rfl (.nil _))))
         exact ⟨⟨_, st, l4⟩, (by first|omega|simp<;>omega), (by first|omega|simp<;>omega), (by first|omega|simp<;>omega), Eq.symm ((Eq.symm e6).trans ((if_neg h13).trans ((if_neg h25).trans ((if_pos h33).trans ((if_neg h34).trans ((if_pos h35).trans (if_pos h36)))))))⟩
       ·refine WL.of (WL.of (WL.pv (Pu.pickF rfl rfl) (WL.pv (Pu.pickF rfl rfl) (WL.pv (Pu.notb rfl) (WL.nt ?_)))))
        refine CW.condT rfl ?_
        refine CW.seq (CW.reg (WL.as rfl (WL.nt ?_)))
        refine CW.ret (QX.blkR (QX.thenR (QX.thenR (QX.blkR (QX.thenR (QX.thenR (finA Tryz.results139 st (.tmp rfl .nil) ?_)))))))
        exact vb (lk_inl ((Eq.symm e6).trans ((if_neg h13).trans ((if_neg h25).trans ((if_pos h33).trans ((if_neg h34).trans (if_neg h35)))))))
     ·refine WL.of (WL.of (WL.pv (Pu.pickF rfl rfl) (WL.pv (Pu.pickF rfl rfl) (WL.mv rfl (WL.mv rfl (WL.pv (Pu.ieq rfl rfl) (WL.mv rfl ?_)))))))
      refine WL.splitP 41 rfl dT dF (fun h37 => ?_) (fun h37 => ?_)
      ·refine WL.mv rfl (WL.pv (Pu.notb rfl) (WL.pv (Pu.pickT rfl rfl) (WL.pv (Pu.pickF rfl rfl) (WL.pv (Pu.notb rfl) (WL.nt ?_)))))
       refine CW.condP 46 rfl mT mF (fun h38 => ?_) (fun h38 => ?_)
       ·refine CW.seq (CW.reg (WL.as rfl (WL.nt ?_)))
        refine CW.ret (QX.blkR (QX.thenR (QX.thenR (QX.blkR (QX.thenR (QX.thenR (finA Tryz.results139 st (.tmp rfl .nil) ?_)))))))
        exact vb (lk_inl ((Eq.symm e6).trans ((if_neg h13).trans ((if_neg h25).trans ((if_neg h33).trans ((if_pos h37).trans (if_neg h38)))))))
       ·refine CW.skip (QX.blkN (QX.thenN ?_))
        refine CW.reg (WL.mv rfl (WL.pv (Pu.iadd rfl rfl (c := r1 + 1) (w64 (by omega) (by omega))) (WL.as rfl ?_)))
        refine WL.nil (QX.round ⟨n2, r1 + 1⟩ ?_ (Nat.lt_succ_self _) (.cons rfl (.cons rfl (.nil _))))
        exact ⟨⟨_, st, l4⟩, (by first|omega|simp<;>omega), (by first|omega|simp<;>omega), (by first|omega|simp<;>omega), Eq.symm ((Eq.symm e6).trans ((if_neg h13).trans ((if_neg h25).trans ((if_neg h33).trans ((if_pos h37).trans (if_pos h38))))))⟩
      ·refine WL.of (WL.of (WL.pv (Pu.pickF rfl rfl) (WL.pv (Pu.pickF rfl rfl) (WL.pv (Pu.notb rfl) (WL.nt ?_)))))
       refine CW.condT rfl ?_
       refine CW.seq (CW.reg (WL.as rfl (WL.nt ?_)))
       refine CW.ret (QX.blkR (QX.thenR (QX.thenR (QX.blkR (QX.thenR (QX.thenR (finA Tryz.results139 st (.tmp rfl .nil) ?_)))))))
       exact vb (lk_inl ((Eq.symm e6).trans ((if_neg h13).trans ((if_neg h25).trans ((if_neg h33).trans (if_neg h37))))))
  ·obtain rfl : N10 = 0 := by omega
   refine CW.exit (QX.thenE (QX.thenE (QX.hit (QX.meets () ?_ (.cons rfl (.nil _))))))
   exact ⟨⟨_, st, l4⟩, Eq.symm e6⟩
 rintro _ W43 ⟨⟨H41, st, l42⟩, e44⟩
 show QX _ _ _ [(0, Value.string a0)] _
 refine QX.thenN (CW.seq (CW.reg (WL.mv rfl ?_)))
 have z45 := k0p
 refine WL.pv (Pu.lenstr rfl Tryz.underlying9) (WL.pv (Pu.ile rfl rfl) (WL.mv rfl ?_))
 refine WL.splitP 50 rfl dT dF (fun h46 => ?_) (fun h46 => ?_)
 ·refine WL.mv rfl ?_
  have z47 := k0p
  refine WL.pv (Pu.lenstr rfl Tryz.underlying9) (WL.pv (Pu.ile rfl rfl) (WL.pv (Pu.pickT rfl rfl) (WL.as rfl (WL.nt ?_))))
  refine CW.ret (finA Tryz.results139 st (.tmp rfl .nil) ?_)
  exact vb ((lk_inr e44).trans (if_pos h46))
 ·refine WL.of (WL.of (WL.of (WL.pv (Pu.pickF rfl rfl) (WL.as rfl (WL.nt ?_)))))
  refine CW.ret (finA Tryz.results139 st (.tmp rfl .nil) ?_)
  exact vb ((lk_inr e44).trans (if_neg h46))
/-! toll tollref01.Name -/
def m138_l0 (a0 : ByteArray) : Nat → Int → (Bool ⊕ Unit)
 | 0, _ => .inr ()
 | n12 + 1, r11 => if (m139 (lg (m172 a0 46) r11)) = true then (m138_l0 a0 n12 (r11 + 1)) else .inl false
def m138 (a0 : ByteArray) : Bool :=
 if (60 : Int) < (a0.size : Int) then false else lk2 (m138_l0 a0 ((((m172 a0 46).length : Int) - 0).toNat) 0) (fun _ => true)
theorem c138 (a0 : ByteArray) {w : World} {H : PH} (hs : Sub H w) (k0p : a0.size < 1048576) : Spec Tryz.prog 138 [.string a0].toArray w H (fun _ v => v = .bool (m138 a0)) := by
 refine Spec.enter Tryz.func138 rfl Tryz.ntmps138 rfl ?_
 have st := St.start hs
 refine CW.seq (CW.reg (WL.as rfl (WL.nt (CW.seq (CW.seq (CW.reg (WL.mv rfl ?_)))))))
 have z1 := k0p
 refine WL.pv (Pu.lenstr rfl Tryz.underlying9) (WL.pv (Pu.igt rfl rfl) (WL.nt ?_))
 refine CW.condP 7 rfl dT dF (fun h2 => ?_) (fun h2 => ?_)
 ·refine CW.seq (CW.reg (WL.as rfl (WL.nt ?_)))
  refine CW.ret (QX.thenR (finA Tryz.results138 st (.tmp rfl .nil) ?_))
  exact vb (if_pos h2)
 ·refine CW.skip (QX.thenN ?_)
  refine CW.seq (CW.reg (WL.mv rfl ?_))
  refine WL.call rfl rfl en172 rfl rfl st (c172 a0 46 st.sub k0p) ?_
  rintro _ W3 H4 st l5 ⟨⟨A9, n10, x6⟩, rfl, k7, e8⟩
  subst e8
  refine WL.as rfl (WL.nt (CW.seq (CW.seq (CW.reg (WL.as rfl (WL.nt ?_))))))
  refine (CW.cuts (fun (s : Unit) W => (∃ H', St w W H H' [] ∧ Le H4 H') ∧ m138_l0 a0 ((((m172 a0 46).length : Int) - 0).toNat) 0 = .inr ()) (fun (s : Unit) => []) ?_ ?_)
  ·refine CW.blk (CW.loop (fun (s : Nat × Int) W => (∃ H', St w W H H' [] ∧ Le H4 H') ∧ 0 ≤ s.2 ∧ s.2 ≤ ((m172 a0 46).length : Int) ∧ s.1 = (((m172 a0 46).length : Int) - s.2).toNat ∧ m138_l0 a0 s.1 s.2 = m138_l0 a0 ((((m172 a0 46).length : Int) - 0).toNat) 0) (fun (s : Nat × Int) => [(3, (⟨A9, n10, m172 a0 46⟩ : Sl ByteArray).v), (4, Value.int .i64 s.2)]) (fun s => s.1) ⟨(((m172 a0 46).length : Int) - 0).toNat, 0⟩ ⟨⟨_, st, Le.refl _⟩, (by first|omega|simp<;>omega), (by first|omega|simp<;>omega), rfl, rfl⟩ (.cons rfl (.cons rfl (.nil _))) ?_)
   rintro ⟨N20, r11⟩ W15 ⟨⟨H13, st, l14⟩, g29, g30, g19, e16⟩
   replace g29 : 0 ≤ r11 := g29
   replace g30 : r11 ≤ ((m172 a0 46).length : Int) := g30
   replace g19 : N20 = (((m172 a0 46).length : Int) - r11).toNat := g19
   replace e16 : m138_l0 a0 N20 r11 = m138_l0 a0 ((((m172 a0 46).length : Int) - 0).toNat) 0 := e16
   show CW _ _ _ _ [(3, (⟨A9, n10, m172 a0 46⟩ : Sl ByteArray).v), (4, Value.int .i64 r11)] _
   refine CW.seq (CW.seq (CW.reg (WL.mv rfl (WL.mv rfl ?_))))
   have z21 : (m172 a0 46).length ≤ 1048576 := (k7.le l14).top
   refine WL.pv (Pu.lens (n := (m172 a0 46).length) rfl sl28) (WL.pv (Pu.ilt rfl rfl) (WL.nt ?_))
   refine CW.condP 13 rfl dT dF (fun h22 => ?_) (fun h22 => ?_)
   ·obtain ⟨n12, rfl⟩ : ∃ k, N20 = k + 1 := ⟨N20 - 1, by omega⟩
    refine CW.skip (QX.thenN ?_)
    refine CW.seq ?_
    refine CW.blk ?_
    refine CW.seq (CW.reg (WL.mv rfl (WL.mv rfl ?_)))
    have y23 := lg_get (l := m172 a0 46) (i := r11) (by omega) (by omega)
    have k26 : (lg (m172 a0 46) r11).size < 1048576 := ((k7.le l14).get _ _ y23).2
    refine WL.idx (s := (⟨A9, n10, m172 a0 46⟩ : Sl ByteArray)) rfl rfl rfl rfl sl28 (k7.le l14) (by omega) y23 ?_
    intro ad24 f25
    refine WL.pv (Pu.load rfl ty9 (f25.w st.sub) rfl) ?_
    refine WL.callv rfl rfl en139 rfl rfl st (c139 (lg (m172 a0 46) r11) st.sub k26) ?_
    intro W27 st
    refine WL.pv (Pu.notb rfl) (WL.nt ?_)
    refine CW.condP 21 rfl mT mF (fun h28 => ?_) (fun h28 => ?_)
    ·refine CW.seq (CW.reg (WL.as rfl (WL.nt ?_)))
     refine CW.ret (QX.blkR (QX.thenR (QX.thenR (QX.blkR (QX.thenR (QX.thenR (finA Tryz.results138 st (.tmp rfl .nil) ?_)))))))
     exact vb ((if_neg h2).trans (lk_inl ((Eq.symm e16).trans (if_neg h28))))
    ·refine CW.skip (QX.blkN (QX.thenN ?_))
     refine CW.reg (WL.mv rfl (WL.pv (Pu.iadd rfl rfl (c := r11 + 1) (w64 (by omega) (by omega))) (WL.as rfl ?_)))
     refine WL.nil (QX.round ⟨n12, r11 + 1⟩ ?_ (Nat.lt_succ_self _) (.cons rfl (.cons rfl (.nil _))))
     exact ⟨⟨_, st, l14⟩, (by first|omega|simp<;>omega), (by first|omega|simp<;>omega), (by first|omega|simp<;>omega), Eq.symm ((Eq.symm e16).trans (if_pos h28))⟩
   ·obtain rfl : N20 = 0 := by omega
    refine CW.exit (QX.thenE (QX.thenE (QX.hit (QX.meets () ?_ (.nil _)))))
    exact ⟨⟨_, st, l14⟩, Eq.symm e16⟩
  rintro _ W33 ⟨⟨H31, st, l32⟩, e34⟩
  show QX _ _ _ [] _
  refine QX.thenN (CW.seq (CW.reg (WL.as rfl (WL.nt ?_))))
  refine CW.ret (finA Tryz.results138 st (.tmp rfl .nil) ?_)
  exact vb ((if_neg h2).trans (lk_inr e34))
/-! toll tollref09.MayRef -/
def m82 (a0 : Ref) : Bool :=
 if a0.kind < 1 then false else if (7 : Int) < a0.kind then false else if a0.kind < 3 then (if a0.space = (⟨#[]⟩ : ByteArray) then (if a0.kind = 1 then (if (m138 a0.name) = true then true else if a0.kind = 2 then (m139 a0.name) else false) else if a0.kind = 2 then (m139 a0.name) else false) else false) else if (m139 a0.space) = true then (m138 a0.name) else false
theorem c82 (a0 : Ref) {w : World} {H : PH} (hs : Sub H w) (k0p : Ref.Ok 1048576 H a0) : Spec Tryz.prog 82 [Ref.v a0].toArray w H (fun _ v => v = .bool (m82 a0)) := by
 refine Spec.enter Tryz.func82 rfl Tryz.ntmps82 rfl ?_
 have st := St.start hs
 refine CW.seq (CW.reg ?_)
 refine WL.box rfl rfl rfl rfl st ?_
 intro b1 W2 H3 st l4 f5
 refine WL.as rfl (WL.nt (CW.seq (CW.seq (CW.reg (WL.pv (Pu.fa rfl fo23_0) (WL.pv (Pu.load rfl ty3 ((f5.drop 0).w st.sub) rfl) (WL.pv (Pu.ilt rfl rfl) (WL.mv rfl ?_))))))))
 refine WL.splitP 6 rfl dT dF (fun h6 => ?_) (fun h6 => ?_)
 ·refine WL.of (WL.of (WL.of (WL.pv (Pu.pickT rfl rfl) (WL.nt ?_))))
  refine CW.condT rfl ?_
  refine CW.seq (CW.reg (WL.as rfl (WL.nt ?_)))
  refine CW.ret (QX.thenR (finA Tryz.results82 st (.tmp rfl .nil) ?_))
  exact vb (if_pos h6)
 ·refine WL.pv (Pu.fa rfl fo23_0) (WL.pv (Pu.load rfl ty3 ((f5.drop 0).w st.sub) rfl) (WL.pv (Pu.igt rfl rfl) (WL.pv (Pu.pickF rfl rfl) (WL.nt ?_))))
  refine CW.condP 10 rfl dT dF (fun h7 => ?_) (fun h7 => ?_)
  ·refine CW.seq (CW.reg (WL.as rfl (WL.nt ?_)))
   refine CW.ret (QX.thenR (finA Tryz.results82 st (.tmp rfl .nil) ?_))
   exact vb ((if_neg h6).trans (if_pos h7))
  ·refine CW.skip (QX.thenN ?_)
   refine CW.seq (CW.seq (CW.reg (WL.pv (Pu.fa rfl fo23_0) (WL.pv (Pu.load rfl ty3 ((f5.drop 0).w st.sub) rfl) (WL.pv (Pu.ilt rfl rfl) (WL.nt ?_))))))
   refine CW.condP 13 rfl dT dF (fun h8 => ?_) (fun h8 => ?_)
   ·refine CW.seq (CW.reg (WL.pv (Pu.fa rfl fo23_1) (WL.pv (Pu.load rfl ty9 ((f5.drop 1).w st.sub) rfl) (WL.pv (Pu.seq rfl rfl) (WL.mv rfl ?_)))))
    refine WL.splitP 17 rfl dT dF (fun h9 => ?_) (fun h9 => ?_)
    ·refine WL.pv (Pu.fa rfl fo23_0) (WL.pv (Pu.load rfl ty3 ((f5.drop 0).w st.sub) rfl) (WL.pv (Pu.ieq rfl rfl) (WL.mv rfl ?_)))
     refine WL.splitP 21 rfl dT dF (fun h11 => ?_) (fun h11 => ?_)
     ·refine WL.pv (Pu.fa rfl fo23_2) (WL.pv (Pu.load rfl ty9 ((f5.drop 2).w st.sub) rfl) ?_)
      refine WL.callv rfl rfl en138 rfl rfl st (c138 a0.name st.sub k0p.name) ?_
      intro W12 st
      refine WL.pv (Pu.pickT rfl rfl) (WL.mv rfl ?_)
      refine WL.splitP 26 rfl rT rF (fun h13 => ?_) (fun h13 => ?_)
      ·refine WL.of (WL.of (WL.of (WL.of (WL.of (WL.of (WL.of (WL.of (WL.pv (Pu.pickT rfl rfl) (WL.pv (Pu.pickT rfl rfl) ?_)))))))))
       refine WL.as rfl (WL.nt ?_)
       refine CW.ret (QX.thenR (finA Tryz.results82 st (.tmp rfl .nil) ?_))
       exact vb ((if_neg h6).trans ((if_neg h7).trans ((if_pos h8).trans ((if_pos h9).trans ((if_pos h11).trans (if_pos h13))))))
      ·refine WL.pv (Pu.fa rfl fo23_0) (WL.pv (Pu.load rfl ty3 ((f5.drop 0).w st.sub) rfl) (WL.pv (Pu.ieq rfl rfl) (WL.mv rfl ?_)))
       refine WL.splitP 30 rfl dT dF (fun h14 => ?_) (fun h14 => ?_)
       ·refine WL.pv (Pu.fa rfl fo23_2) (WL.pv (Pu.load rfl ty9 ((f5.drop 2).w st.sub) rfl) ?_)
        refine WL.callv rfl rfl en139 rfl rfl st (c139 a0.name st.sub k0p.name) ?_
        intro W15 st
        refine WL.pv (Pu.pickT rfl rfl) (WL.pv (Pu.pickF rfl rfl) (WL.pv (Pu.pickT rfl rfl) (WL.as rfl (WL.nt ?_))))
        refine CW.ret (QX.thenR (finA Tryz.results82 st (.tmp rfl .nil) ?_))
        exact vb ((if_neg h6).trans ((if_neg h7).trans ((if_pos h8).trans ((if_pos h9).trans ((if_pos h11).trans ((if_neg h13).trans (if_pos h14)))))))
       ·refine WL.of (WL.of (WL.of (WL.pv (Pu.pickF rfl rfl) (WL.pv (Pu.pickF rfl rfl) (WL.pv (Pu.pickT rfl rfl) (WL.as rfl (WL.nt ?_)))))))
        refine CW.ret (QX.thenR (finA Tryz.results82 st (.tmp rfl .nil) ?_))
        exact vb ((if_neg h6).trans ((if_neg h7).trans ((if_pos h8).trans ((if_pos h9).trans ((if_pos h11).trans ((if_neg h13).trans (if_neg h14)))))))
     ·refine WL.of (WL.of (WL.of (WL.pv (Pu.pickF rfl rfl) (WL.mv rfl (WL.pv (Pu.fa rfl fo23_0) (WL.pv (Pu.load rfl ty3 ((f5.drop 0).w st.sub) rfl) (WL.pv (Pu.ieq rfl rfl) (WL.mv rfl ?_))))))))
      refine WL.splitP 30 rfl dT dF (fun h16 => ?_) (fun h16 => ?_)
      ·refine WL.pv (Pu.fa rfl fo23_2) (WL.pv (Pu.load rfl ty9 ((f5.drop 2).w st.sub) rfl) ?_)
       refine WL.callv rfl rfl en139 rfl rfl st (c139 a0.name st.sub k0p.name) ?_
       intro W17 st
       refine WL.pv (Pu.pickT rfl rfl) (WL.pv (Pu.pickF rfl rfl) (WL.pv (Pu.pickT rfl rfl) (WL.as rfl (WL.nt ?_))))
       refine CW.ret (QX.thenR (finA Tryz.results82 st (.tmp rfl .nil) ?_))
       exact vb ((if_neg h6).trans ((if_neg h7).trans ((if_pos h8).trans ((if_pos h9).trans ((if_neg h11).trans (if_pos h16))))))
      ·refine WL.of (WL.of (WL.of (WL.pv (Pu.pickF rfl rfl) (WL.pv (Pu.pickF rfl rfl) (WL.pv (Pu.pickT rfl rfl) (WL.as rfl (WL.nt ?_)))))))
       refine CW.ret (QX.thenR (finA Tryz.results82 st (.tmp rfl .nil) ?_))
       exact vb ((if_neg h6).trans ((if_neg h7).trans ((if_pos h8).trans ((if_pos h9).trans ((if_neg h11).trans (if_neg h16))))))
    ·have z10 := size_ne h9
     iterate 10 refine WL.of ?_
     refine WL.of (WL.of (WL.of (WL.of (WL.of (WL.of (WL.of (WL.of (WL.pv (Pu.pickF rfl rfl) (WL.as rfl ?_)))))))))
     refine WL.nt ?_
     refine CW.ret (QX.thenR (finA Tryz.results82 st (.tmp rfl .nil) ?_))
     exact vb ((if_neg h6).trans ((if_neg h7).trans ((if_pos h8).trans (if_neg h9))))
   ·refine CW.skip (QX.thenN ?_)
    refine CW.seq (CW.reg (WL.pv (Pu.fa rfl fo23_1) (WL.pv (Pu.load rfl ty9 ((f5.drop 1).w st.sub) rfl) ?_)))
    refine WL.callv rfl rfl en139 rfl rfl st (c139 a0.space st.sub k0p.space) ?_
    intro W18 st
    refine WL.mv rfl ?_
    refine WL.splitP 40 rfl rT rF (fun h19 => ?_) (fun h19 => ?_)
    ·refine WL.pv (Pu.fa rfl fo23_2) (WL.pv (Pu.load rfl ty9 ((f5.drop 2).w st.sub) rfl) ?_)
     refine WL.callv rfl rfl en138 rfl rfl st (c138 a0.name st.sub k0p.name) ?_
     intro W20 st
     refine WL.pv (Pu.pickT rfl rfl) (WL.as rfl (WL.nt ?_))
     refine CW.ret (finA Tryz.results82 st (.tmp rfl .nil) ?_)
     exact vb ((if_neg h6).trans ((if_neg h7).trans ((if_neg h8).trans (if_pos h19))))
    ·refine WL.of (WL.of (WL.of (WL.pv (Pu.pickF rfl rfl) (WL.as rfl (WL.nt ?_)))))
     refine CW.ret (finA Tryz.results82 st (.tmp rfl .nil) ?_)
     exact vb ((if_neg h6).trans ((if_neg h7).trans ((if_neg h8).trans (if_neg h19))))
/-! toll tollref04.Same -/
def m93_l0 (a0 : List Pair) (a1 : List Pair) : Nat → Int → (Bool ⊕ Unit)
 | 0, _ => .inr ()
 | n5 + 1, r4 => if lg a0 r4 = lg a1 r4 then (m93_l0 a0 a1 n5 (r4 + 1)) else .inl false
def m93 (a0 : List Pair) (a1 : List Pair) : Bool :=
 if (a0.length : Int) = (a1.length : Int) then (lk2 (m93_l0 a0 a1 (((a0.length : Int) - 0).toNat) 0) (fun _ => true)) else false
theorem c93 (a0 : Sl Pair) (a1 : Sl Pair) {w : World} {H : PH} (hs : Sub H w) (k0p : Sl.Ok 1048576 H a0) (k1p : Sl.Ok 1048576 H a1) : Spec Tryz.prog 93 [a0.v, a1.v].toArray w H (fun _ v => v = .bool (m93 a0.l a1.l)) := by
 refine Spec.enter Tryz.func93 rfl Tryz.ntmps93 rfl ?_
 have st := St.start hs
 refine CW.seq (CW.reg (WL.as rfl (WL.nt (CW.seq (CW.seq (CW.reg (WL.mv rfl ?_)))))))
 have z1 : a0.l.length ≤ 1048576 := k0p.top
 refine WL.pv (Pu.lens (n := a0.l.length) rfl sl24) (WL.mv rfl ?_)
 have z2 : a1.l.length ≤ 1048576 := k1p.top
 refine WL.pv (Pu.lens (n := a1.l.length) rfl sl24) (WL.pv (Pu.ine rfl rfl) (WL.nt ?_))
 refine CW.condP 10 rfl nT nF (fun h3 => ?_) (fun h3 => ?_)
 ·refine CW.seq (CW.reg (WL.as rfl (WL.nt ?_)))
  refine CW.ret (QX.thenR (finA Tryz.results93 st (.tmp rfl .nil) ?_))
  exact vb (if_neg h3)
 ·refine CW.skip (QX.thenN ?_)
  refine CW.seq (CW.seq (CW.reg (WL.as rfl (WL.nt ?_))))
  refine (CW.cuts (fun (s : Unit) W => (∃ H', St w W H H' [] ∧ Le H H') ∧ m93_l0 a0.l a1.l (((a0.l.length : Int) - 0).toNat) 0 = .inr ()) (fun (s : Unit) => []) ?_ ?_)
  ·refine CW.blk (CW.loop (fun (s : Nat × Int) W => (∃ H', St w W H H' [] ∧ Le H H') ∧ 0 ≤ s.2 ∧ s.2 ≤ (a0.l.length : Int) ∧ s.1 = ((a0.l.length : Int) - s.2).toNat ∧ m93_l0 a0.l a1.l s.1 s.2 = m93_l0 a0.l a1.l (((a0.l.length : Int) - 0).toNat) 0) (fun (s : Nat × Int) => [(0, a0.v), (1, a1.v), (5, Value.int .i64 s.2)]) (fun s => s.1) ⟨((a0.l.length : Int) - 0).toNat, 0⟩ ⟨⟨_, st, Le.refl _⟩, (by first|omega|simp<;>omega), (by first|omega|simp<;>omega), rfl, rfl⟩ (.cons rfl (.cons rfl (.cons rfl (.nil _)))) ?_)
   rintro ⟨N13, r4⟩ W8 ⟨⟨H6, st, l7⟩, g30, g31, g12, e9⟩
   replace g30 : 0 ≤ r4 := g30
   replace g31 : r4 ≤ (a0.l.length : Int) := g31
   replace g12 : N13 = ((a0.l.length : Int) - r4).toNat := g12
   replace e9 : m93_l0 a0.l a1.l N13 r4 = m93_l0 a0.l a1.l (((a0.l.length : Int) - 0).toNat) 0 := e9
   show CW _ _ _ _ [(0, a0.v), (1, a1.v), (5, Value.int .i64 r4)] _
   refine CW.seq (CW.seq (CW.reg (WL.mv rfl (WL.mv rfl ?_))))
   have z14 : a0.l.length ≤ 1048576 := (k0p.le l7).top
   refine WL.pv (Pu.lens (n := a0.l.length) rfl sl24) (WL.pv (Pu.ilt rfl rfl) (WL.nt ?_))
   refine CW.condP 14 rfl dT dF (fun h15 => ?_) (fun h15 => ?_)
   ·obtain ⟨n5, rfl⟩ : ∃ k, N13 = k + 1 := ⟨N13 - 1, by omega⟩
    refine CW.skip (QX.thenN ?_)
    refine CW.seq ?_
    refine CW.blk ?_
    refine CW.seq ?_
    refine CW.regS (C := Cl w H6 []) (tail := []) (S := Grew w H H6 []) mixed (fun W' h1 h2 h3 h4 => grew_start st h1 h2 h3 h4) (n := 9) rfl ?_
    refine WS.pk 0 rfl gg (fun W hC => Pu.move rfl) ?_
    refine WS.pk 1 rfl gg (fun W hC => Pu.move rfl) ?_
    have y16 := lg_get (l := a0.l) (i := r4) (by omega) (by omega)
    have k19 : Pair.Ok 1048576 H6 (lg a0.l r4) := ((k0p.le l7).get _ _ y16).2
    obtain ⟨ad17, qa20, f18⟩ := ((k0p.le l7).get _ _ y16).1
    refine WS.pk 2 rfl gg (fun W hC => Pu.idx0 rfl rfl sl24 (by first|omega|simp<;>omega) (by first|omega|simp<;>omega) qa20) ?_
    refine WS.pk 3 rfl gg (fun W hC => Pu.load (v := Pair.v (lg a0.l r4)) rfl ty182 (f18.w hC.1) rfl) ?_
    refine WS.pk 4 rfl gg (fun W hC => Pu.move rfl) ?_
    refine WS.pk 5 rfl gg (fun W hC => Pu.move rfl) ?_
    have y21 := lg_get (l := a1.l) (i := r4) (by omega) (by omega)
    have k24 : Pair.Ok 1048576 H6 (lg a1.l r4) := ((k1p.le l7).get _ _ y21).2
    obtain ⟨ad22, qa25, f23⟩ := ((k1p.le l7).get _ _ y21).1
    refine WS.pk 6 rfl gg (fun W hC => Pu.idx0 rfl rfl sl24 (by first|omega|simp<;>omega) (by first|omega|simp<;>omega) qa25) ?_
    refine WS.pk 7 rfl gg (fun W hC => Pu.load (v := Pair.v (lg a1.l r4)) rfl ty182 (f23.w hC.1) rfl) ?_
    refine WS.pk 8 rfl gg (fun W hC => Pu.bin rfl rfl (eqg182 _ (lg a0.l r4) (lg a1.l r4)) (ne182 (lg a0.l r4) (lg a1.l r4))) ?_
    refine WS.fin (by kernel_rfl) (fun W28 H26 st l27 => ?_)
    refine QX.thenN ?_
    refine CW.condP 25 rfl nT nF (fun h29 => ?_) (fun h29 => ?_)
    ·refine CW.seq (CW.reg (WL.as rfl (WL.nt ?_)))
     refine CW.ret (QX.blkR (QX.thenR (QX.thenR (QX.blkR (QX.thenR (QX.thenR (finA Tryz.results93 st (.tmp rfl .nil) ?_)))))))
     exact vb ((if_pos h3).trans (lk_inl ((Eq.symm e9).trans (if_neg h29))))
    ·refine CW.skip (QX.blkN (QX.thenN ?_))
     refine CW.reg (WL.mv rfl (WL.pv (Pu.iadd rfl rfl (c := r4 + 1) (w64 (by omega) (by omega))) (WL.as rfl ?_)))
     refine WL.nil (QX.round ⟨n5, r4 + 1⟩ ?_ (Nat.lt_succ_self _) (.cons rfl (.cons rfl (.cons rfl (.nil _)))))
     exact ⟨⟨_, st, (l7.trans l27)⟩, (by first|omega|simp<;>omega), (by first|omega|simp<;>omega), (by first|omega|simp<;>omega), Eq.symm ((Eq.symm e9).trans (if_pos h29))⟩
   ·obtain rfl : N13 = 0 := by omega
    refine CW.exit (QX.thenE (QX.thenE (QX.hit (QX.meets () ?_ (.nil _)))))
    exact ⟨⟨_, st, l7⟩, Eq.symm e9⟩
  rintro _ W34 ⟨⟨H32, st, l33⟩, e35⟩
  show QX _ _ _ [] _
  refine QX.thenN (CW.seq (CW.reg (WL.as rfl (WL.nt ?_))))
  refine CW.ret (finA Tryz.results93 st (.tmp rfl .nil) ?_)
  exact vb ((if_pos h3).trans (lk_inr e35))
/-! toll tollref01.Same -/
def m94_l0 (a0 : List ByteArray) (a1 : List ByteArray) : Nat → Int → (Bool ⊕ Unit)
 | 0, _ => .inr ()
 | n5 + 1, r4 => if lg a0 r4 = lg a1 r4 then (m94_l0 a0 a1 n5 (r4 + 1)) else .inl false
def m94 (a0 : List ByteArray) (a1 : List ByteArray) : Bool :=
 if (a0.length : Int) = (a1.length : Int) then (lk2 (m94_l0 a0 a1 (((a0.length : Int) - 0).toNat) 0) (fun _ => true)) else false
theorem c94 (a0 : Sl ByteArray) (a1 : Sl ByteArray) {w : World} {H : PH} (hs : Sub H w) (k0p : Sl.Ok 1048576 H a0) (k1p : Sl.Ok 1048576 H a1) : Spec Tryz.prog 94 [a0.v, a1.v].toArray w H (fun _ v => v = .bool (m94 a0.l a1.l)) := by
 refine Spec.enter Tryz.func94 rfl Tryz.ntmps94 rfl ?_
 have st := St.start hs
 refine CW.seq (CW.reg (WL.as rfl (WL.nt (CW.seq (CW.seq (CW.reg (WL.mv rfl ?_)))))))
 have z1 : a0.l.length ≤ 1048576 := k0p.top
 refine WL.pv (Pu.lens (n := a0.l.length) rfl sl28) (WL.mv rfl ?_)
 have z2 : a1.l.length ≤ 1048576 := k1p.top
 refine WL.pv (Pu.lens (n := a1.l.length) rfl sl28) (WL.pv (Pu.ine rfl rfl) (WL.nt ?_))
 refine CW.condP 10 rfl nT nF (fun h3 => ?_) (fun h3 => ?_)
 ·refine CW.seq (CW.reg (WL.as rfl (WL.nt ?_)))
  refine CW.ret (QX.thenR (finA Tryz.results94 st (.tmp rfl .nil) ?_))
  exact vb (if_neg h3)
 ·refine CW.skip (QX.thenN ?_)
  refine CW.seq (CW.seq (CW.reg (WL.as rfl (WL.nt ?_))))
  refine (CW.cuts (fun (s : Unit) W => (∃ H', St w W H H' [] ∧ Le H H') ∧ m94_l0 a0.l a1.l (((a0.l.length : Int) - 0).toNat) 0 = .inr ()) (fun (s : Unit) => []) ?_ ?_)
  ·refine CW.blk (CW.loop (fun (s : Nat × Int) W => (∃ H', St w W H H' [] ∧ Le H H') ∧ 0 ≤ s.2 ∧ s.2 ≤ (a0.l.length : Int) ∧ s.1 = ((a0.l.length : Int) - s.2).toNat ∧ m94_l0 a0.l a1.l s.1 s.2 = m94_l0 a0.l a1.l (((a0.l.length : Int) - 0).toNat) 0) (fun (s : Nat × Int) => [(0, a0.v), (1, a1.v), (5, Value.int .i64 s.2)]) (fun s => s.1) ⟨((a0.l.length : Int) - 0).toNat, 0⟩ ⟨⟨_, st, Le.refl _⟩, (by first|omega|simp<;>omega), (by first|omega|simp<;>omega), rfl, rfl⟩ (.cons rfl (.cons rfl (.cons rfl (.nil _)))) ?_)
   rintro ⟨N13, r4⟩ W8 ⟨⟨H6, st, l7⟩, g30, g31, g12, e9⟩
   replace g30 : 0 ≤ r4 := g30
   replace g31 : r4 ≤ (a0.l.length : Int) := g31
   replace g12 : N13 = ((a0.l.length : Int) - r4).toNat := g12
   replace e9 : m94_l0 a0.l a1.l N13 r4 = m94_l0 a0.l a1.l (((a0.l.length : Int) - 0).toNat) 0 := e9
   show CW _ _ _ _ [(0, a0.v), (1, a1.v), (5, Value.int .i64 r4)] _
   refine CW.seq (CW.seq (CW.reg (WL.mv rfl (WL.mv rfl ?_))))
   have z14 : a0.l.length ≤ 1048576 := (k0p.le l7).top
   refine WL.pv (Pu.lens (n := a0.l.length) rfl sl28) (WL.pv (Pu.ilt rfl rfl) (WL.nt ?_))
   refine CW.condP 14 rfl dT dF (fun h15 => ?_) (fun h15 => ?_)
   ·obtain ⟨n5, rfl⟩ : ∃ k, N13 = k + 1 := ⟨N13 - 1, by omega⟩
    refine CW.skip (QX.thenN ?_)
    refine CW.seq ?_
    refine CW.blk ?_
    refine CW.seq ?_
    refine CW.regS (C := Cl w H6 []) (tail := []) (S := Grew w H H6 []) mixed (fun W' h1 h2 h3 h4 => grew_start st h1 h2 h3 h4) (n := 9) rfl ?_
    refine WS.pk 0 rfl gg (fun W hC => Pu.move rfl) ?_
    refine WS.pk 1 rfl gg (fun W hC => Pu.move rfl) ?_
    have y16 := lg_get (l := a0.l) (i := r4) (by omega) (by omega)
    have k19 : (lg a0.l r4).size < 1048576 := ((k0p.le l7).get _ _ y16).2
    obtain ⟨ad17, qa20, f18⟩ := ((k0p.le l7).get _ _ y16).1
    refine WS.pk 2 rfl gg (fun W hC => Pu.idx0 rfl rfl sl28 (by first|omega|simp<;>omega) (by first|omega|simp<;>omega) qa20) ?_
    refine WS.pk 3 rfl gg (fun W hC => Pu.load rfl ty9 (f18.w hC.1) rfl) ?_
    refine WS.pk 4 rfl gg (fun W hC => Pu.move rfl) ?_
    refine WS.pk 5 rfl gg (fun W hC => Pu.move rfl) ?_
    have y21 := lg_get (l := a1.l) (i := r4) (by omega) (by omega)
    have k24 : (lg a1.l r4).size < 1048576 := ((k1p.le l7).get _ _ y21).2
    obtain ⟨ad22, qa25, f23⟩ := ((k1p.le l7).get _ _ y21).1
    refine WS.pk 6 rfl gg (fun W hC => Pu.idx0 rfl rfl sl28 (by first|omega|simp<;>omega) (by first|omega|simp<;>omega) qa25) ?_
    refine WS.pk 7 rfl gg (fun W hC => Pu.load rfl ty9 (f23.w hC.1) rfl) ?_
    refine WS.pk 8 rfl gg (fun W hC => Pu.sne rfl rfl) ?_
    refine WS.fin (by kernel_rfl) (fun W28 H26 st l27 => ?_)
    refine QX.thenN ?_
    refine CW.condP 25 rfl nT nF (fun h29 => ?_) (fun h29 => ?_)
    ·refine CW.seq (CW.reg (WL.as rfl (WL.nt ?_)))
     refine CW.ret (QX.blkR (QX.thenR (QX.thenR (QX.blkR (QX.thenR (QX.thenR (finA Tryz.results94 st (.tmp rfl .nil) ?_)))))))
     exact vb ((if_pos h3).trans (lk_inl ((Eq.symm e9).trans (if_neg h29))))
    ·refine CW.skip (QX.blkN (QX.thenN ?_))
     refine CW.reg (WL.mv rfl (WL.pv (Pu.iadd rfl rfl (c := r4 + 1) (w64 (by omega) (by omega))) (WL.as rfl ?_)))
     refine WL.nil (QX.round ⟨n5, r4 + 1⟩ ?_ (Nat.lt_succ_self _) (.cons rfl (.cons rfl (.cons rfl (.nil _)))))
     exact ⟨⟨_, st, (l7.trans l27)⟩, (by first|omega|simp<;>omega), (by first|omega|simp<;>omega), (by first|omega|simp<;>omega), Eq.symm ((Eq.symm e9).trans (if_pos h29))⟩
   ·obtain rfl : N13 = 0 := by omega
    refine CW.exit (QX.thenE (QX.thenE (QX.hit (QX.meets () ?_ (.nil _)))))
    exact ⟨⟨_, st, l7⟩, Eq.symm e9⟩
  rintro _ W34 ⟨⟨H32, st, l33⟩, e35⟩
  show QX _ _ _ [] _
  refine QX.thenN (CW.seq (CW.reg (WL.as rfl (WL.nt ?_))))
  refine CW.ret (finA Tryz.results94 st (.tmp rfl .nil) ?_)
  exact vb ((if_pos h3).trans (lk_inr e35))
/-! toll tollref08.Same -/
def m95_l0 (a0 : List Need) (a1 : List Need) : Nat → Int → (Bool ⊕ Unit)
 | 0, _ => .inr ()
 | n5 + 1, r4 => if ((lg a0 r4).kind) = (lg a1 r4).kind then (if (lg a0 r4).name = (lg a1 r4).name then (if (m94 (((lg a0 r4).vals).l) (((lg a1 r4).vals).l)) = true then (m95_l0 a0 a1 n5 (r4 + 1)) else .inl false) else .inl false) else .inl false
def m95 (a0 : List Need) (a1 : List Need) : Bool :=
 if (a0.length : Int) = (a1.length : Int) then (lk2 (m95_l0 a0 a1 (((a0.length : Int) - 0).toNat) 0) (fun _ => true)) else false
theorem c95 (a0 : Sl Need) (a1 : Sl Need) {w : World} {H : PH} (hs : Sub H w) (k0p : Sl.Ok 1048576 H a0) (k1p : Sl.Ok 1048576 H a1) : Spec Tryz.prog 95 [a0.v, a1.v].toArray w H (fun _ v => v = .bool (m95 a0.l a1.l)) := by
 refine Spec.enter Tryz.func95 rfl Tryz.ntmps95 rfl ?_
 have st := St.start hs
 refine CW.seq (CW.reg (WL.as rfl (WL.nt (CW.seq (CW.seq (CW.reg (WL.mv rfl ?_)))))))
 have z1 : a0.l.length ≤ 1048576 := k0p.top
 refine WL.pv (Pu.lens (n := a0.l.length) rfl sl92) (WL.mv rfl ?_)
 have z2 : a1.l.length ≤ 1048576 := k1p.top
 refine WL.pv (Pu.lens (n := a1.l.length) rfl sl92) (WL.pv (Pu.ine rfl rfl) (WL.nt ?_))
 refine CW.condP 10 rfl nT nF (fun h3 => ?_) (fun h3 => ?_)
 ·refine CW.seq (CW.reg (WL.as rfl (WL.nt ?_)))
  refine CW.ret (QX.thenR (finA Tryz.results95 st (.tmp rfl .nil) ?_))
  exact vb (if_neg h3)
 ·refine CW.skip (QX.thenN ?_)
  refine CW.seq (CW.seq (CW.reg (WL.as rfl (WL.nt ?_))))
  refine (CW.cuts (fun (s : Unit) W => (∃ H', St w W H H' [] ∧ Le H H') ∧ m95_l0 a0.l a1.l (((a0.l.length : Int) - 0).toNat) 0 = .inr ()) (fun (s : Unit) => []) ?_ ?_)
  ·refine CW.blk (CW.loop (fun (s : Nat × Int) W => (∃ H', St w W H H' [] ∧ Le H H') ∧ 0 ≤ s.2 ∧ s.2 ≤ (a0.l.length : Int) ∧ s.1 = ((a0.l.length : Int) - s.2).toNat ∧ m95_l0 a0.l a1.l s.1 s.2 = m95_l0 a0.l a1.l (((a0.l.length : Int) - 0).toNat) 0) (fun (s : Nat × Int) => [(0, a0.v), (1, a1.v), (5, Value.int .i64 s.2)]) (fun s => s.1) ⟨((a0.l.length : Int) - 0).toNat, 0⟩ ⟨⟨_, st, Le.refl _⟩, (by first|omega|simp<;>omega), (by first|omega|simp<;>omega), rfl, rfl⟩ (.cons rfl (.cons rfl (.cons rfl (.nil _)))) ?_)
   rintro ⟨N13, r4⟩ W8 ⟨⟨H6, st, l7⟩, g58, g59, g12, e9⟩
   replace g58 : 0 ≤ r4 := g58
   replace g59 : r4 ≤ (a0.l.length : Int) := g59
   replace g12 : N13 = ((a0.l.length : Int) - r4).toNat := g12
   replace e9 : m95_l0 a0.l a1.l N13 r4 = m95_l0 a0.l a1.l (((a0.l.length : Int) - 0).toNat) 0 := e9
   show CW _ _ _ _ [(0, a0.v), (1, a1.v), (5, Value.int .i64 r4)] _
   refine CW.seq (CW.seq (CW.reg (WL.mv rfl (WL.mv rfl ?_))))
   have z14 : a0.l.length ≤ 1048576 := (k0p.le l7).top
   refine WL.pv (Pu.lens (n := a0.l.length) rfl sl92) (WL.pv (Pu.ilt rfl rfl) (WL.nt ?_))
   refine CW.condP 14 rfl dT dF (fun h15 => ?_) (fun h15 => ?_)
   ·obtain ⟨n5, rfl⟩ : ∃ k, N13 = k + 1 := ⟨N13 - 1, by omega⟩
    refine CW.skip (QX.thenN ?_)
    refine CW.seq ?_
    refine CW.blk ?_
    refine CW.seq ?_
    refine CW.regS (C := Cl w H6 []) (tail := []) (S := Grew w H H6 []) mixed (fun W' h1 h2 h3 h4 => grew_start st h1 h2 h3 h4) (n := 38) rfl ?_
    refine WS.pk 0 rfl gg (fun W hC => Pu.move rfl) ?_
    refine WS.pk 1 rfl gg (fun W hC => Pu.move rfl) ?_
    have y16 := lg_get (l := a0.l) (i := r4) (by omega) (by omega)
    have k19 : Need.Ok 1048576 H6 (lg a0.l r4) := ((k0p.le l7).get _ _ y16).2
    obtain ⟨ad17, qa20, f18⟩ := ((k0p.le l7).get _ _ y16).1
    refine WS.pk 2 rfl gg (fun W hC => Pu.idx0 rfl rfl sl92 (by first|omega|simp<;>omega) (by first|omega|simp<;>omega) qa20) ?_
    refine WS.pk 3 rfl gg (fun W hC => Pu.fa rfl fo184_0) ?_
    refine WS.pk 4 rfl gg (fun W hC => Pu.load rfl ty3 ((f18.drop 0).w hC.1) rfl) ?_
    refine WS.pk 5 rfl gg (fun W hC => Pu.move rfl) ?_
    refine WS.pk 6 rfl gg (fun W hC => Pu.move rfl) ?_
    have y21 := lg_get (l := a1.l) (i := r4) (by omega) (by omega)
    have k24 : Need.Ok 1048576 H6 (lg a1.l r4) := ((k1p.le l7).get _ _ y21).2
    obtain ⟨ad22, qa25, f23⟩ := ((k1p.le l7).get _ _ y21).1
    refine WS.pk 7 rfl gg (fun W hC => Pu.idx0 rfl rfl sl92 (by first|omega|simp<;>omega) (by first|omega|simp<;>omega) qa25) ?_
    refine WS.pk 8 rfl gg (fun W hC => Pu.fa rfl fo184_0) ?_
    refine WS.pk 9 rfl gg (fun W hC => Pu.load rfl ty3 ((f23.drop 0).w hC.1) rfl) ?_
    refine WS.pk 10 rfl gg (fun W hC => Pu.ine rfl rfl) ?_
    refine WS.pk 11 rfl gg (fun W hC => Pu.move rfl) ?_
    refine WS.split 28 rfl nT nF (fun h26 => ?_) (fun h26 => ?_)
    ·refine WS.ok 12 rfl gg ?_
     refine WS.ok 13 rfl gg ?_
     refine WS.ok 14 rfl gg ?_
     refine WS.ok 15 rfl gg ?_
     refine WS.ok 16 rfl gg ?_
     refine WS.ok 17 rfl gg ?_
     refine WS.ok 18 rfl gg ?_
     refine WS.ok 19 rfl gg ?_
     refine WS.ok 20 rfl gg ?_
     refine WS.ok 21 rfl gg ?_
     refine WS.ok 22 rfl gg ?_
     refine WS.pk 23 rfl gg (fun W hC => Pu.pickT rfl rfl) ?_
     refine WS.pk 24 rfl gg (fun W hC => Pu.move rfl) ?_
     refine WS.ok 25 rfl gg ?_
     refine WS.ok 26 rfl gg ?_
     refine WS.ok 27 rfl gg ?_
     refine WS.ok 28 rfl gg ?_
     refine WS.ok 29 rfl gg ?_
     refine WS.ok 30 rfl gg ?_
     refine WS.ok 31 rfl gg ?_
     refine WS.ok 32 rfl gg ?_
     refine WS.ok 33 rfl gg ?_
     refine WS.ok 34 rfl gg ?_
     refine WS.ok 35 rfl gg ?_
     refine WS.ok 36 rfl gg ?_
     refine WS.pk 37 rfl gg (fun W hC => Pu.pickT rfl rfl) ?_
     refine WS.fin (by kernel_rfl) (fun W29 H27 st l28 => ?_)
     refine QX.thenN ?_
     refine CW.condT rfl ?_
     refine CW.seq (CW.reg (WL.as rfl (WL.nt ?_)))
     refine CW.ret (QX.blkR (QX.thenR (QX.thenR (QX.blkR (QX.thenR (QX.thenR (finA Tryz.results95 st (.tmp rfl .nil) ?_)))))))
     exact vb ((if_pos h3).trans (lk_inl ((Eq.symm e9).trans (if_neg h26))))
    ·refine WS.pk 12 rfl gg (fun W hC => Pu.move rfl) ?_
     refine WS.pk 13 rfl gg (fun W hC => Pu.move rfl) ?_
     have y30 := lg_get (l := a0.l) (i := r4) (by omega) (by omega)
     have k33 : Need.Ok 1048576 H6 (lg a0.l r4) := ((k0p.le l7).get _ _ y30).2
     obtain ⟨ad31, qa34, f32⟩ := ((k0p.le l7).get _ _ y30).1
     refine WS.pk 14 rfl gg (fun W hC => Pu.idx0 rfl rfl sl92 (by first|omega|simp<;>omega) (by first|omega|simp<;>omega) qa34) ?_
     refine WS.pk 15 rfl gg (fun W hC => Pu.fa rfl fo184_1) ?_
     refine WS.pk 16 rfl gg (fun W hC => Pu.load rfl ty9 ((f32.drop 1).w hC.1) rfl) ?_
     refine WS.pk 17 rfl gg (fun W hC => Pu.move rfl) ?_
     refine WS.pk 18 rfl gg (fun W hC => Pu.move rfl) ?_
     have y35 := lg_get (l := a1.l) (i := r4) (by omega) (by omega)
     have k38 : Need.Ok 1048576 H6 (lg a1.l r4) := ((k1p.le l7).get _ _ y35).2
     obtain ⟨ad36, qa39, f37⟩ := ((k1p.le l7).get _ _ y35).1
     refine WS.pk 19 rfl gg (fun W hC => Pu.idx0 rfl rfl sl92 (by first|omega|simp<;>omega) (by first|omega|simp<;>omega) qa39) ?_
     refine WS.pk 20 rfl gg (fun W hC => Pu.fa rfl fo184_1) ?_
     refine WS.pk 21 rfl gg (fun W hC => Pu.load rfl ty9 ((f37.drop 1).w hC.1) rfl) ?_
     refine WS.pk 22 rfl gg (fun W hC => Pu.sne rfl rfl) ?_
     refine WS.pk 23 rfl gg (fun W hC => Pu.pickF rfl rfl) ?_
     refine WS.pk 24 rfl gg (fun W hC => Pu.move rfl) ?_
     refine WS.split 41 rfl nT nF (fun h40 => ?_) (fun h40 => ?_)
     ·refine WS.ok 25 rfl gg ?_
      refine WS.ok 26 rfl gg ?_
      refine WS.ok 27 rfl gg ?_
      refine WS.ok 28 rfl gg ?_
      refine WS.ok 29 rfl gg ?_
      refine WS.ok 30 rfl gg ?_
      refine WS.ok 31 rfl gg ?_
      refine WS.ok 32 rfl gg ?_
      refine WS.ok 33 rfl gg ?_
      refine WS.ok 34 rfl gg ?_
      refine WS.ok 35 rfl gg ?_
      refine WS.ok 36 rfl gg ?_
      refine WS.pk 37 rfl gg (fun W hC => Pu.pickT rfl rfl) ?_
      refine WS.fin (by kernel_rfl) (fun W43 H41 st l42 => ?_)
      refine QX.thenN ?_
      refine CW.condT rfl ?_
      refine CW.seq (CW.reg (WL.as rfl (WL.nt ?_)))
      refine CW.ret (QX.blkR (QX.thenR (QX.thenR (QX.blkR (QX.thenR (QX.thenR (finA Tryz.results95 st (.tmp rfl .nil) ?_)))))))
      exact vb ((if_pos h3).trans (lk_inl ((Eq.symm e9).trans ((if_pos h26).trans (if_neg h40)))))
     ·refine WS.pk 25 rfl gg (fun W hC => Pu.move rfl) ?_
      refine WS.pk 26 rfl gg (fun W hC => Pu.move rfl) ?_
      have y44 := lg_get (l := a0.l) (i := r4) (by omega) (by omega)
      have k47 : Need.Ok 1048576 H6 (lg a0.l r4) := ((k0p.le l7).get _ _ y44).2
      obtain ⟨ad45, qa48, f46⟩ := ((k0p.le l7).get _ _ y44).1
      refine WS.pk 27 rfl gg (fun W hC => Pu.idx0 rfl rfl sl92 (by first|omega|simp<;>omega) (by first|omega|simp<;>omega) qa48) ?_
      refine WS.pk 28 rfl gg (fun W hC => Pu.fa rfl fo184_2) ?_
      refine WS.pk 29 rfl gg (fun W hC => Pu.load rfl ty28 ((f46.drop 2).w hC.1) rfl) ?_
      refine WS.pk 30 rfl gg (fun W hC => Pu.move rfl) ?_
      refine WS.pk 31 rfl gg (fun W hC => Pu.move rfl) ?_
      have y49 := lg_get (l := a1.l) (i := r4) (by omega) (by omega)
      have k52 : Need.Ok 1048576 H6 (lg a1.l r4) := ((k1p.le l7).get _ _ y49).2
      obtain ⟨ad50, qa53, f51⟩ := ((k1p.le l7).get _ _ y49).1
      refine WS.pk 32 rfl gg (fun W hC => Pu.idx0 rfl rfl sl92 (by first|omega|simp<;>omega) (by first|omega|simp<;>omega) qa53) ?_
      refine WS.pk 33 rfl gg (fun W hC => Pu.fa rfl fo184_2) ?_
      refine WS.pk 34 rfl gg (fun W hC => Pu.load rfl ty28 ((f51.drop 2).w hC.1) rfl) ?_
      refine WS.callv (by kernel_rfl) (.then (.blk (.then (.then (.blk (.then (.then .body))))))) 35 rfl (by kernel_rfl) (good_grew (Le.refl _) (fun _ h => h)) rfl rfl en94 rfl rfl (fun W hC => ⟨_, c94 ((lg a0.l r4).vals) ((lg a1.l r4).vals) hC.1 k47.vals k52.vals⟩) ?_
      refine WS.pk 36 rfl gg (fun W hC => Pu.notb rfl) ?_
      refine WS.pk 37 rfl gg (fun W hC => Pu.pickF rfl rfl) ?_
      refine WS.fin (by kernel_rfl) (fun W56 H54 st l55 => ?_)
      refine QX.thenN ?_
      refine CW.condP 54 rfl mT mF (fun h57 => ?_) (fun h57 => ?_)
      ·refine CW.seq (CW.reg (WL.as rfl (WL.nt ?_)))
       refine CW.ret (QX.blkR (QX.thenR (QX.thenR (QX.blkR (QX.thenR (QX.thenR (finA Tryz.results95 st (.tmp rfl .nil) ?_)))))))
       exact vb ((if_pos h3).trans (lk_inl ((Eq.symm e9).trans ((if_pos h26).trans ((if_pos h40).trans (if_neg h57))))))
      ·refine CW.skip (QX.blkN (QX.thenN ?_))
       refine CW.reg (WL.mv rfl (WL.pv (Pu.iadd rfl rfl (c := r4 + 1) (w64 (by omega) (by omega))) (WL.as rfl ?_)))
       refine WL.nil (QX.round ⟨n5, r4 + 1⟩ ?_ (Nat.lt_succ_self _) (.cons rfl (.cons rfl (.cons rfl (.nil _)))))
       exact ⟨⟨_, st, (l7.trans l55)⟩, (by first|omega|simp<;>omega), (by first|omega|simp<;>omega), (by first|omega|simp<;>omega), Eq.symm ((Eq.symm e9).trans ((if_pos h26).trans ((if_pos h40).trans (if_pos h57))))⟩
   ·obtain rfl : N13 = 0 := by omega
    refine CW.exit (QX.thenE (QX.thenE (QX.hit (QX.meets () ?_ (.nil _)))))
    exact ⟨⟨_, st, l7⟩, Eq.symm e9⟩
  rintro _ W62 ⟨⟨H60, st, l61⟩, e63⟩
  show QX _ _ _ [] _
  refine QX.thenN (CW.seq (CW.reg (WL.as rfl (WL.nt ?_))))
  refine CW.ret (finA Tryz.results95 st (.tmp rfl .nil) ?_)
  exact vb ((if_pos h3).trans (lk_inr e63))
/-! toll tollref06.Same -/
def m147 (a0 : Match) (a1 : Match) : Bool :=
 if a0.path = a1.path then (if a0.method = a1.method then (if (m93 a0.head.l a1.head.l) = true then (m93 a0.query.l a1.query.l) else false) else false) else false
theorem c147 (a0 : Match) (a1 : Match) {w : World} {H : PH} (hs : Sub H w) (k0p : Match.Ok 1048576 H a0) (k1p : Match.Ok 1048576 H a1) : Spec Tryz.prog 147 [Match.v a0, Match.v a1].toArray w H (fun _ v => v = .bool (m147 a0 a1)) := by
 refine Spec.enter Tryz.func147 rfl Tryz.ntmps147 rfl ?_
 have st := St.start hs
 refine CW.seq (CW.reg ?_)
 refine WL.box rfl rfl rfl rfl st ?_
 intro b1 W2 H3 st l4 f5
 refine WL.box rfl rfl rfl rfl st ?_
 intro b6 W7 H8 st l9 f10
 refine WL.as rfl (WL.nt (CW.seq (CW.reg (WL.pv (Pu.fa rfl fo124_0) (WL.pv (Pu.load (v := Path.v a0.path) rfl ty122 (((f5.le l9).drop 0).w st.sub) rfl) (WL.pv (Pu.fa rfl fo124_0) (WL.pv (Pu.load (v := Path.v a1.path) rfl ty122 ((f10.drop 0).w st.sub) rfl) (WL.pv (Pu.bin rfl rfl (eqg122 _ a0.path a1.path) (eq122 a0.path a1.path)) (WL.mv rfl ?_)))))))))
 refine WL.splitP 10 rfl dT dF (fun h11 => ?_) (fun h11 => ?_)
 ·refine WL.pv (Pu.fa rfl fo124_1) (WL.pv (Pu.load rfl ty9 (((f5.le l9).drop 2).w st.sub) rfl) (WL.pv (Pu.fa rfl fo124_1) (WL.pv (Pu.load rfl ty9 ((f10.drop 2).w st.sub) rfl) (WL.pv (Pu.seq rfl rfl) (WL.pv (Pu.pickT rfl rfl) (WL.mv rfl ?_))))))
  refine WL.splitP 17 rfl dT dF (fun h12 => ?_) (fun h12 => ?_)
  ·refine WL.pv (Pu.fa rfl fo124_2) (WL.pv (Pu.load rfl ty24 (((f5.le l9).drop 3).w st.sub) rfl) (WL.pv (Pu.fa rfl fo124_2) (WL.pv (Pu.load rfl ty24 ((f10.drop 3).w st.sub) rfl) ?_)))
   refine WL.callv rfl rfl en93 rfl rfl st (c93 a0.head a1.head st.sub (k0p.head.le (l4.trans l9)) (k1p.head.le (l4.trans l9))) ?_
   intro W13 st
   refine WL.pv (Pu.pickT rfl rfl) (WL.mv rfl ?_)
   refine WL.splitP 24 rfl rT rF (fun h14 => ?_) (fun h14 => ?_)
   ·refine WL.pv (Pu.fa rfl fo124_3) (WL.pv (Pu.load rfl ty24 (((f5.le l9).drop 4).w st.sub) rfl) (WL.pv (Pu.fa rfl fo124_3) (WL.pv (Pu.load rfl ty24 ((f10.drop 4).w st.sub) rfl) ?_)))
    refine WL.callv rfl rfl en93 rfl rfl st (c93 a0.query a1.query st.sub (k0p.query.le (l4.trans l9)) (k1p.query.le (l4.trans l9))) ?_
    intro W15 st
    refine WL.pv (Pu.pickT rfl rfl) (WL.as rfl (WL.nt ?_))
    refine CW.ret (finA Tryz.results147 st (.tmp rfl .nil) ?_)
    exact vb ((if_pos h11).trans ((if_pos h12).trans (if_pos h14)))
   ·refine WL.of (WL.of (WL.of (WL.of (WL.of (WL.pv (Pu.pickF rfl rfl) (WL.as rfl (WL.nt ?_)))))))
    refine CW.ret (finA Tryz.results147 st (.tmp rfl .nil) ?_)
    exact vb ((if_pos h11).trans ((if_pos h12).trans (if_neg h14)))
  ·refine WL.of (WL.of (WL.of (WL.of (WL.of (WL.pv (Pu.pickF rfl rfl) (WL.mv rfl (WL.of (WL.of (WL.of ?_)))))))))
   refine WL.of (WL.of (WL.pv (Pu.pickF rfl rfl) (WL.as rfl (WL.nt ?_))))
   refine CW.ret (finA Tryz.results147 st (.tmp rfl .nil) ?_)
   exact vb ((if_pos h11).trans (if_neg h12))
 ·refine WL.of (WL.of (WL.of (WL.of (WL.of (WL.pv (Pu.pickF rfl rfl) (WL.mv rfl (WL.of (WL.of (WL.of ?_)))))))))
  refine WL.of (WL.of (WL.pv (Pu.pickF rfl rfl) (WL.mv rfl (WL.of (WL.of (WL.of (WL.of (WL.of (WL.pv (Pu.pickF rfl rfl) ?_)))))))))
  refine WL.as rfl (WL.nt ?_)
  refine CW.ret (finA Tryz.results147 st (.tmp rfl .nil) ?_)
  exact vb (if_neg h11)
/-! toll tollref09.SameRule -/
def m96_l0 (a0 : Rule) (a1 : Rule) : Nat → Int → (Bool ⊕ Unit)
 | 0, _ => .inr ()
 | n21 + 1, r20 => if (m147 (lg a0.mats.l r20) (lg a1.mats.l r20)) = true then (m96_l0 a0 a1 n21 (r20 + 1)) else .inl false
def m96_l1 (a0 : Rule) (a1 : Rule) : Nat → Int → (Bool ⊕ Unit)
 | 0, _ => .inr ()
 | n53 + 1, r52 => if lg a0.filters.l r52 = lg a1.filters.l r52 then (m96_l1 a0 a1 n53 (r52 + 1)) else .inl false
def m96_l2 (a0 : Rule) (a1 : Rule) : Nat → Int → (Bool ⊕ Unit)
 | 0, _ => .inr ()
 | n85 + 1, r84 => if lg a0.backends.l r84 = lg a1.backends.l r84 then (m96_l2 a0 a1 n85 (r84 + 1)) else .inl false
def m96 (a0 : Rule) (a1 : Rule) : Bool :=
 if (a0.mats.l.length : Int) = (a1.mats.l.length : Int) then (if (a0.filters.l.length : Int) = (a1.filters.l.length : Int) then (if (a0.backends.l.length : Int) = (a1.backends.l.length : Int) then (lk2 (m96_l0 a0 a1 (((a0.mats.l.length : Int) - 0).toNat) 0) (fun _ => lk2 (m96_l1 a0 a1 (((a0.filters.l.length : Int) - 0).toNat) 0) (fun _ => lk2 (m96_l2 a0 a1 (((a0.backends.l.length : Int) - 0).toNat) 0) (fun _ => true)))) else false) else false) else false
theorem c96 (a0 : Rule) (a1 : Rule) {w : World} {H : PH} (hs : Sub H w) (k0p : Rule.Ok 1048576 H a0) (k1p : Rule.Ok 1048576 H a1) : Spec Tryz.prog 96 [Rule.v a0, Rule.v a1].toArray w H (fun _ v => v = .bool (m96 a0 a1)) := by
 refine Spec.enter Tryz.func96 rfl Tryz.ntmps96 rfl ?_
 have st := St.start hs
 refine CW.seq (CW.reg ?_)
 refine WL.box rfl rfl rfl rfl st ?_
 intro b1 W2 H3 st l4 f5
 refine WL.box rfl rfl rfl rfl st ?_
 intro b6 W7 H8 st l9 f10
 refine WL.as rfl (WL.nt (CW.seq (CW.seq (CW.reg (WL.pv (Pu.fa rfl fo66_0) (WL.pv (Pu.load rfl ty62 (((f5.le l9).drop 0).w st.sub) rfl) ?_))))))
 have z11 : a0.mats.l.length ≤ 1048576 := (k0p.mats.le (l4.trans l9)).top
 refine WL.pv (Pu.lens (n := a0.mats.l.length) rfl sl62) (WL.pv (Pu.fa rfl fo66_0) (WL.pv (Pu.load rfl ty62 ((f10.drop 0).w st.sub) rfl) ?_))
 have z12 : a1.mats.l.length ≤ 1048576 := (k1p.mats.le (l4.trans l9)).top
 refine WL.pv (Pu.lens (n := a1.mats.l.length) rfl sl62) (WL.pv (Pu.ine rfl rfl) (WL.mv rfl ?_))
 refine WL.splitP 15 rfl nT nF (fun h13 => ?_) (fun h13 => ?_)
 ·refine WL.of (WL.of (WL.of (WL.of (WL.of (WL.of (WL.of (WL.pv (Pu.pickT rfl rfl) (WL.mv rfl (WL.of ?_)))))))))
  refine WL.of (WL.of (WL.of (WL.of (WL.of (WL.of (WL.pv (Pu.pickT rfl rfl) (WL.nt ?_)))))))
  refine CW.condT rfl ?_
  refine CW.seq (CW.reg (WL.as rfl (WL.nt ?_)))
  refine CW.ret (QX.thenR (finA Tryz.results96 st (.tmp rfl .nil) ?_))
  exact vb (if_neg h13)
 ·refine WL.pv (Pu.fa rfl fo66_1) (WL.pv (Pu.load rfl ty63 (((f5.le l9).drop 1).w st.sub) rfl) ?_)
  have z14 : a0.filters.l.length ≤ 1048576 := (k0p.filters.le (l4.trans l9)).top
  refine WL.pv (Pu.lens (n := a0.filters.l.length) rfl sl63) (WL.pv (Pu.fa rfl fo66_1) (WL.pv (Pu.load rfl ty63 ((f10.drop 1).w st.sub) rfl) ?_))
  have z15 : a1.filters.l.length ≤ 1048576 := (k1p.filters.le (l4.trans l9)).top
  refine WL.pv (Pu.lens (n := a1.filters.l.length) rfl sl63) (WL.pv (Pu.ine rfl rfl) (WL.pv (Pu.pickF rfl rfl) (WL.mv rfl ?_)))
  refine WL.splitP 24 rfl nT nF (fun h16 => ?_) (fun h16 => ?_)
  ·refine WL.of (WL.of (WL.of (WL.of (WL.of (WL.of (WL.of (WL.pv (Pu.pickT rfl rfl) (WL.nt ?_))))))))
   refine CW.condT rfl ?_
   refine CW.seq (CW.reg (WL.as rfl (WL.nt ?_)))
   refine CW.ret (QX.thenR (finA Tryz.results96 st (.tmp rfl .nil) ?_))
   exact vb ((if_pos h13).trans (if_neg h16))
  ·refine WL.pv (Pu.fa rfl fo66_2) (WL.pv (Pu.load rfl ty64 (((f5.le l9).drop 2).w st.sub) rfl) ?_)
   have z17 : a0.backends.l.length ≤ 1048576 := (k0p.backends.le (l4.trans l9)).top
   refine WL.pv (Pu.lens (n := a0.backends.l.length) rfl sl64) (WL.pv (Pu.fa rfl fo66_2) (WL.pv (Pu.load rfl ty64 ((f10.drop 2).w st.sub) rfl) ?_))
   have z18 : a1.backends.l.length ≤ 1048576 := (k1p.backends.le (l4.trans l9)).top
   refine WL.pv (Pu.lens (n := a1.backends.l.length) rfl sl64) (WL.pv (Pu.ine rfl rfl) (WL.pv (Pu.pickF rfl rfl) (WL.nt ?_)))
   refine CW.condP 32 rfl nT nF (fun h19 => ?_) (fun h19 => ?_)
   ·refine CW.seq (CW.reg (WL.as rfl (WL.nt ?_)))
    refine CW.ret (QX.thenR (finA Tryz.results96 st (.tmp rfl .nil) ?_))
    exact vb ((if_pos h13).trans ((if_pos h16).trans (if_neg h19)))
   ·refine CW.skip (QX.thenN ?_)
    refine CW.seq (CW.seq (CW.reg (WL.as rfl (WL.nt ?_))))
    refine (CW.cuts (fun (s : Unit) W => (∃ H', St w W H H' [] ∧ Le H8 H') ∧ m96_l0 a0 a1 (((a0.mats.l.length : Int) - 0).toNat) 0 = .inr ()) (fun (s : Unit) => [(2, Value.pointer (some (⟨b1, 0, none⟩ : Addr))), (3, Value.pointer (some (⟨b6, 0, none⟩ : Addr)))]) ?_ ?_)
    ·refine CW.blk (CW.loop (fun (s : Nat × Int) W => (∃ H', St w W H H' [] ∧ Le H8 H') ∧ 0 ≤ s.2 ∧ s.2 ≤ (a0.mats.l.length : Int) ∧ s.1 = ((a0.mats.l.length : Int) - s.2).toNat ∧ m96_l0 a0 a1 s.1 s.2 = m96_l0 a0 a1 (((a0.mats.l.length : Int) - 0).toNat) 0) (fun (s : Nat × Int) => [(2, Value.pointer (some (⟨b1, 0, none⟩ : Addr))), (3, Value.pointer (some (⟨b6, 0, none⟩ : Addr))), (5, Value.int .i64 s.2)]) (fun s => s.1) ⟨((a0.mats.l.length : Int) - 0).toNat, 0⟩ ⟨⟨_, st, Le.refl _⟩, (by first|omega|simp<;>omega), (by first|omega|simp<;>omega), rfl, rfl⟩ (.cons rfl (.cons rfl (.cons rfl (.nil _)))) ?_)
     rintro ⟨N29, r20⟩ W24 ⟨⟨H22, st, l23⟩, g46, g47, g28, e25⟩
     replace g46 : 0 ≤ r20 := g46
     replace g47 : r20 ≤ (a0.mats.l.length : Int) := g47
     replace g28 : N29 = ((a0.mats.l.length : Int) - r20).toNat := g28
     replace e25 : m96_l0 a0 a1 N29 r20 = m96_l0 a0 a1 (((a0.mats.l.length : Int) - 0).toNat) 0 := e25
     show CW _ _ _ _ [(2, Value.pointer (some (⟨b1, 0, none⟩ : Addr))), (3, Value.pointer (some (⟨b6, 0, none⟩ : Addr))), (5, Value.int .i64 r20)] _
     refine CW.seq (CW.seq (CW.reg (WL.mv rfl (WL.pv (Pu.fa rfl fo66_0) (WL.pv (Pu.load rfl ty62 (((f5.le (l9.trans l23)).drop 0).w st.sub) rfl) ?_)))))
     have z30 : a0.mats.l.length ≤ 1048576 := (k0p.mats.le ((l4.trans l9).trans l23)).top
     refine WL.pv (Pu.lens (n := a0.mats.l.length) rfl sl62) (WL.pv (Pu.ilt rfl rfl) (WL.nt ?_))
     refine CW.condP 37 rfl dT dF (fun h31 => ?_) (fun h31 => ?_)
     ·obtain ⟨n21, rfl⟩ : ∃ k, N29 = k + 1 := ⟨N29 - 1, by omega⟩
      refine CW.skip (QX.thenN ?_)
      refine CW.seq ?_
      refine CW.blk ?_
      refine CW.seq ?_
      refine CW.regS (C := Cl w H22 []) (tail := []) (S := Grew w H H22 []) mixed (fun W' h1 h2 h3 h4 => grew_start st h1 h2 h3 h4) (n := 12) rfl ?_
      refine WS.pk 0 rfl gg (fun W hC => Pu.fa rfl fo66_0) ?_
      refine WS.pk 1 rfl gg (fun W hC => Pu.load rfl ty62 (((f5.le (l9.trans l23)).drop 0).w hC.1) rfl) ?_
      refine WS.pk 2 rfl gg (fun W hC => Pu.move rfl) ?_
      have y32 := lg_get (l := a0.mats.l) (i := r20) (by omega) (by omega)
      have k35 : Match.Ok 1048576 H22 (lg a0.mats.l r20) := ((k0p.mats.le ((l4.trans l9).trans l23)).get _ _ y32).2
      obtain ⟨ad33, qa36, f34⟩ := ((k0p.mats.le ((l4.trans l9).trans l23)).get _ _ y32).1
      refine WS.pk 3 rfl gg (fun W hC => Pu.idx0 rfl rfl sl62 (by first|omega|simp<;>omega) (by first|omega|simp<;>omega) qa36) ?_
      refine WS.pk 4 rfl gg (fun W hC => Pu.load (v := Match.v (lg a0.mats.l r20)) rfl ty124 (f34.w hC.1) rfl) ?_
      refine WS.pk 5 rfl gg (fun W hC => Pu.fa rfl fo66_0) ?_
      refine WS.pk 6 rfl gg (fun W hC => Pu.load rfl ty62 (((f10.le l23).drop 0).w hC.1) rfl) ?_
      refine WS.pk 7 rfl gg (fun W hC => Pu.move rfl) ?_
      have y37 := lg_get (l := a1.mats.l) (i := r20) (by omega) (by omega)
      have k40 : Match.Ok 1048576 H22 (lg a1.mats.l r20) := ((k1p.mats.le ((l4.trans l9).trans l23)).get _ _ y37).2
      obtain ⟨ad38, qa41, f39⟩ := ((k1p.mats.le ((l4.trans l9).trans l23)).get _ _ y37).1
      refine WS.pk 8 rfl gg (fun W hC => Pu.idx0 rfl rfl sl62 (by first|omega|simp<;>omega) (by first|omega|simp<;>omega) qa41) ?_
      refine WS.pk 9 rfl gg (fun W hC => Pu.load (v := Match.v (lg a1.mats.l r20)) rfl ty124 (f39.w hC.1) rfl) ?_
      refine WS.callv (by kernel_rfl) (.then (.blk (.then (.then (.blk (.then (.then .body))))))) 10 rfl (by kernel_rfl) (good_grew (Le.refl _) (fun _ h => h)) rfl rfl en147 rfl rfl (fun W hC => ⟨_, c147 (lg a0.mats.l r20) (lg a1.mats.l r20) hC.1 k35 k40⟩) ?_
      refine WS.pk 11 rfl gg (fun W hC => Pu.notb rfl) ?_
      refine WS.fin (by kernel_rfl) (fun W44 H42 st l43 => ?_)
      refine QX.thenN ?_
      refine CW.condP 51 rfl mT mF (fun h45 => ?_) (fun h45 => ?_)
      ·refine CW.seq (CW.reg (WL.as rfl (WL.nt ?_)))
       refine CW.ret (QX.blkR (QX.thenR (QX.thenR (QX.blkR (QX.thenR (QX.thenR (finA Tryz.results96 st (.tmp rfl .nil) ?_)))))))
       exact vb ((if_pos h13).trans ((if_pos h16).trans ((if_pos h19).trans (lk_inl ((Eq.symm e25).trans (if_neg h45))))))
      ·refine CW.skip (QX.blkN (QX.thenN ?_))
       refine CW.reg (WL.mv rfl (WL.pv (Pu.iadd rfl rfl (c := r20 + 1) (w64 (by omega) (by omega))) (WL.as rfl ?_)))
       refine WL.nil (QX.round ⟨n21, r20 + 1⟩ ?_ (Nat.lt_succ_self _) (.cons rfl (.cons rfl (.cons rfl (.nil _)))))
       exact ⟨⟨_, st, (l23.trans l43)⟩, (by first|omega|simp<;>omega), (by first|omega|simp<;>omega), (by first|omega|simp<;>omega), Eq.symm ((Eq.symm e25).trans (if_pos h45))⟩
     ·obtain rfl : N29 = 0 := by omega
      refine CW.exit (QX.thenE (QX.thenE (QX.hit (QX.meets () ?_ (.cons rfl (.cons rfl (.nil _)))))))
      exact ⟨⟨_, st, l23⟩, Eq.symm e25⟩
    rintro _ W50 ⟨⟨H48, st, l49⟩, e51⟩
    show QX _ _ _ [(2, Value.pointer (some (⟨b1, 0, none⟩ : Addr))), (3, Value.pointer (some (⟨b6, 0, none⟩ : Addr)))] _
    refine QX.thenN (CW.seq (CW.seq (CW.reg (WL.as rfl (WL.nt ?_)))))
    refine (CW.cuts (fun (s : Unit) W => (∃ H', St w W H H' [] ∧ Le H48 H') ∧ m96_l1 a0 a1 (((a0.filters.l.length : Int) - 0).toNat) 0 = .inr ()) (fun (s : Unit) => [(2, Value.pointer (some (⟨b1, 0, none⟩ : Addr))), (3, Value.pointer (some (⟨b6, 0, none⟩ : Addr)))]) ?_ ?_)
    ·refine CW.blk (CW.loop (fun (s : Nat × Int) W => (∃ H', St w W H H' [] ∧ Le H48 H') ∧ 0 ≤ s.2 ∧ s.2 ≤ (a0.filters.l.length : Int) ∧ s.1 = ((a0.filters.l.length : Int) - s.2).toNat ∧ m96_l1 a0 a1 s.1 s.2 = m96_l1 a0 a1 (((a0.filters.l.length : Int) - 0).toNat) 0) (fun (s : Nat × Int) => [(2, Value.pointer (some (⟨b1, 0, none⟩ : Addr))), (3, Value.pointer (some (⟨b6, 0, none⟩ : Addr))), (6, Value.int .i64 s.2)]) (fun s => s.1) ⟨((a0.filters.l.length : Int) - 0).toNat, 0⟩ ⟨⟨_, st, Le.refl _⟩, (by first|omega|simp<;>omega), (by first|omega|simp<;>omega), rfl, rfl⟩ (.cons rfl (.cons rfl (.cons rfl (.nil _)))) ?_)
     rintro ⟨N61, r52⟩ W56 ⟨⟨H54, st, l55⟩, g78, g79, g60, e57⟩
     replace g78 : 0 ≤ r52 := g78
     replace g79 : r52 ≤ (a0.filters.l.length : Int) := g79
     replace g60 : N61 = ((a0.filters.l.length : Int) - r52).toNat := g60
     replace e57 : m96_l1 a0 a1 N61 r52 = m96_l1 a0 a1 (((a0.filters.l.length : Int) - 0).toNat) 0 := e57
     show CW _ _ _ _ [(2, Value.pointer (some (⟨b1, 0, none⟩ : Addr))), (3, Value.pointer (some (⟨b6, 0, none⟩ : Addr))), (6, Value.int .i64 r52)] _
     refine CW.seq (CW.seq (CW.reg (WL.mv rfl (WL.pv (Pu.fa rfl fo66_1) (WL.pv (Pu.load rfl ty63 (((f5.le ((l9.trans l49).trans l55)).drop 1).w st.sub) rfl) ?_)))))
     have z62 : a0.filters.l.length ≤ 1048576 := (k0p.filters.le (((l4.trans l9).trans l49).trans l55)).top
     refine WL.pv (Pu.lens (n := a0.filters.l.length) rfl sl63) (WL.pv (Pu.ilt rfl rfl) (WL.nt ?_))
     refine CW.condP 56 rfl dT dF (fun h63 => ?_) (fun h63 => ?_)
     ·obtain ⟨n53, rfl⟩ : ∃ k, N61 = k + 1 := ⟨N61 - 1, by omega⟩
      refine CW.skip (QX.thenN ?_)
      refine CW.seq ?_
      refine CW.blk ?_
      refine CW.seq ?_
      refine CW.regS (C := Cl w H54 []) (tail := []) (S := Grew w H H54 []) mixed (fun W' h1 h2 h3 h4 => grew_start st h1 h2 h3 h4) (n := 11) rfl ?_
      refine WS.pk 0 rfl gg (fun W hC => Pu.fa rfl fo66_1) ?_
      refine WS.pk 1 rfl gg (fun W hC => Pu.load rfl ty63 (((f5.le ((l9.trans l49).trans l55)).drop 1).w hC.1) rfl) ?_
      refine WS.pk 2 rfl gg (fun W hC => Pu.move rfl) ?_
      have y64 := lg_get (l := a0.filters.l) (i := r52) (by omega) (by omega)
      have k67 : Filter.Ok 1048576 H54 (lg a0.filters.l r52) := ((k0p.filters.le (((l4.trans l9).trans l49).trans l55)).get _ _ y64).2
      obtain ⟨ad65, qa68, f66⟩ := ((k0p.filters.le (((l4.trans l9).trans l49).trans l55)).get _ _ y64).1
      refine WS.pk 3 rfl gg (fun W hC => Pu.idx0 rfl rfl sl63 (by first|omega|simp<;>omega) (by first|omega|simp<;>omega) qa68) ?_
      refine WS.pk 4 rfl gg (fun W hC => Pu.load (v := Filter.v (lg a0.filters.l r52)) rfl ty186 (f66.w hC.1) rfl) ?_
      refine WS.pk 5 rfl gg (fun W hC => Pu.fa rfl fo66_1) ?_
      refine WS.pk 6 rfl gg (fun W hC => Pu.load rfl ty63 (((f10.le (l49.trans l55)).drop 1).w hC.1) rfl) ?_
      refine WS.pk 7 rfl gg (fun W hC => Pu.move rfl) ?_
      have y69 := lg_get (l := a1.filters.l) (i := r52) (by omega) (by omega)
      have k72 : Filter.Ok 1048576 H54 (lg a1.filters.l r52) := ((k1p.filters.le (((l4.trans l9).trans l49).trans l55)).get _ _ y69).2
      obtain ⟨ad70, qa73, f71⟩ := ((k1p.filters.le (((l4.trans l9).trans l49).trans l55)).get _ _ y69).1
      refine WS.pk 8 rfl gg (fun W hC => Pu.idx0 rfl rfl sl63 (by first|omega|simp<;>omega) (by first|omega|simp<;>omega) qa73) ?_
      refine WS.pk 9 rfl gg (fun W hC => Pu.load (v := Filter.v (lg a1.filters.l r52)) rfl ty186 (f71.w hC.1) rfl) ?_
      refine WS.pk 10 rfl gg (fun W hC => Pu.bin rfl rfl (eqg186 _ (lg a0.filters.l r52) (lg a1.filters.l r52)) (ne186 (lg a0.filters.l r52) (lg a1.filters.l r52))) ?_
      refine WS.fin (by kernel_rfl) (fun W76 H74 st l75 => ?_)
      refine QX.thenN ?_
      refine CW.condP 69 rfl nT nF (fun h77 => ?_) (fun h77 => ?_)
      ·refine CW.seq (CW.reg (WL.as rfl (WL.nt ?_)))
       refine CW.ret (QX.blkR (QX.thenR (QX.thenR (QX.blkR (QX.thenR (QX.thenR (finA Tryz.results96 st (.tmp rfl .nil) ?_)))))))
       exact vb ((if_pos h13).trans ((if_pos h16).trans ((if_pos h19).trans ((lk_inr e51).trans (lk_inl ((Eq.symm e57).trans (if_neg h77)))))))
      ·refine CW.skip (QX.blkN (QX.thenN ?_))
       refine CW.reg (WL.mv rfl (WL.pv (Pu.iadd rfl rfl (c := r52 + 1) (w64 (by omega) (by omega))) (WL.as rfl ?_)))
       refine WL.nil (QX.round ⟨n53, r52 + 1⟩ ?_ (Nat.lt_succ_self _) (.cons rfl (.cons rfl (.cons rfl (.nil _)))))
       exact ⟨⟨_, st, (l55.trans l75)⟩, (by first|omega|simp<;>omega), (by first|omega|simp<;>omega), (by first|omega|simp<;>omega), Eq.symm ((Eq.symm e57).trans (if_pos h77))⟩
     ·obtain rfl : N61 = 0 := by omega
      refine CW.exit (QX.thenE (QX.thenE (QX.hit (QX.meets () ?_ (.cons rfl (.cons rfl (.nil _)))))))
      exact ⟨⟨_, st, l55⟩, Eq.symm e57⟩
    rintro _ W82 ⟨⟨H80, st, l81⟩, e83⟩
    show QX _ _ _ [(2, Value.pointer (some (⟨b1, 0, none⟩ : Addr))), (3, Value.pointer (some (⟨b6, 0, none⟩ : Addr)))] _
    refine QX.thenN (CW.seq (CW.seq (CW.reg (WL.as rfl (WL.nt ?_)))))
    refine (CW.cuts (fun (s : Unit) W => (∃ H', St w W H H' [] ∧ Le H80 H') ∧ m96_l2 a0 a1 (((a0.backends.l.length : Int) - 0).toNat) 0 = .inr ()) (fun (s : Unit) => []) ?_ ?_)
    ·refine CW.blk (CW.loop (fun (s : Nat × Int) W => (∃ H', St w W H H' [] ∧ Le H80 H') ∧ 0 ≤ s.2 ∧ s.2 ≤ (a0.backends.l.length : Int) ∧ s.1 = ((a0.backends.l.length : Int) - s.2).toNat ∧ m96_l2 a0 a1 s.1 s.2 = m96_l2 a0 a1 (((a0.backends.l.length : Int) - 0).toNat) 0) (fun (s : Nat × Int) => [(2, Value.pointer (some (⟨b1, 0, none⟩ : Addr))), (3, Value.pointer (some (⟨b6, 0, none⟩ : Addr))), (7, Value.int .i64 s.2)]) (fun s => s.1) ⟨((a0.backends.l.length : Int) - 0).toNat, 0⟩ ⟨⟨_, st, Le.refl _⟩, (by first|omega|simp<;>omega), (by first|omega|simp<;>omega), rfl, rfl⟩ (.cons rfl (.cons rfl (.cons rfl (.nil _)))) ?_)
     rintro ⟨N93, r84⟩ W88 ⟨⟨H86, st, l87⟩, g110, g111, g92, e89⟩
     replace g110 : 0 ≤ r84 := g110
     replace g111 : r84 ≤ (a0.backends.l.length : Int) := g111
     replace g92 : N93 = ((a0.backends.l.length : Int) - r84).toNat := g92
     replace e89 : m96_l2 a0 a1 N93 r84 = m96_l2 a0 a1 (((a0.backends.l.length : Int) - 0).toNat) 0 := e89
     show CW _ _ _ _ [(2, Value.pointer (some (⟨b1, 0, none⟩ : Addr))), (3, Value.pointer (some (⟨b6, 0, none⟩ : Addr))), (7, Value.int .i64 r84)] _
     refine CW.seq (CW.seq (CW.reg (WL.mv rfl (WL.pv (Pu.fa rfl fo66_2) (WL.pv (Pu.load rfl ty64 (((f5.le (((l9.trans l49).trans l81).trans l87)).drop 2).w st.sub) rfl) ?_)))))
     have z94 : a0.backends.l.length ≤ 1048576 := (k0p.backends.le ((((l4.trans l9).trans l49).trans l81).trans l87)).top
     refine WL.pv (Pu.lens (n := a0.backends.l.length) rfl sl64) (WL.pv (Pu.ilt rfl rfl) (WL.nt ?_))
     refine CW.condP 74 rfl dT dF (fun h95 => ?_) (fun h95 => ?_)
     ·obtain ⟨n85, rfl⟩ : ∃ k, N93 = k + 1 := ⟨N93 - 1, by omega⟩
      refine CW.skip (QX.thenN ?_)
      refine CW.seq ?_
      refine CW.blk ?_
      refine CW.seq ?_
      refine CW.regS (C := Cl w H86 []) (tail := []) (S := Grew w H H86 []) mixed (fun W' h1 h2 h3 h4 => grew_start st h1 h2 h3 h4) (n := 11) rfl ?_
      refine WS.pk 0 rfl gg (fun W hC => Pu.fa rfl fo66_2) ?_
      refine WS.pk 1 rfl gg (fun W hC => Pu.load rfl ty64 (((f5.le (((l9.trans l49).trans l81).trans l87)).drop 2).w hC.1) rfl) ?_
      refine WS.pk 2 rfl gg (fun W hC => Pu.move rfl) ?_
      have y96 := lg_get (l := a0.backends.l) (i := r84) (by omega) (by omega)
      have k99 : Backend.Ok 1048576 H86 (lg a0.backends.l r84) := ((k0p.backends.le ((((l4.trans l9).trans l49).trans l81).trans l87)).get _ _ y96).2
      obtain ⟨ad97, qa100, f98⟩ := ((k0p.backends.le ((((l4.trans l9).trans l49).trans l81).trans l87)).get _ _ y96).1
      refine WS.pk 3 rfl gg (fun W hC => Pu.idx0 rfl rfl sl64 (by first|omega|simp<;>omega) (by first|omega|simp<;>omega) qa100) ?_
      refine WS.pk 4 rfl gg (fun W hC => Pu.load (v := Backend.v (lg a0.backends.l r84)) rfl ty68 (f98.w hC.1) rfl) ?_
      refine WS.pk 5 rfl gg (fun W hC => Pu.fa rfl fo66_2) ?_
      refine WS.pk 6 rfl gg (fun W hC => Pu.load rfl ty64 (((f10.le ((l49.trans l81).trans l87)).drop 2).w hC.1) rfl) ?_
      refine WS.pk 7 rfl gg (fun W hC => Pu.move rfl) ?_
      have y101 := lg_get (l := a1.backends.l) (i := r84) (by omega) (by omega)
      have k104 : Backend.Ok 1048576 H86 (lg a1.backends.l r84) := ((k1p.backends.le ((((l4.trans l9).trans l49).trans l81).trans l87)).get _ _ y101).2
      obtain ⟨ad102, qa105, f103⟩ := ((k1p.backends.le ((((l4.trans l9).trans l49).trans l81).trans l87)).get _ _ y101).1
      refine WS.pk 8 rfl gg (fun W hC => Pu.idx0 rfl rfl sl64 (by first|omega|simp<;>omega) (by first|omega|simp<;>omega) qa105) ?_
      refine WS.pk 9 rfl gg (fun W hC => Pu.load (v := Backend.v (lg a1.backends.l r84)) rfl ty68 (f103.w hC.1) rfl) ?_
      refine WS.pk 10 rfl gg (fun W hC => Pu.bin rfl rfl (eqg68 _ (lg a0.backends.l r84) (lg a1.backends.l r84)) (ne68 (lg a0.backends.l r84) (lg a1.backends.l r84))) ?_
      refine WS.fin (by kernel_rfl) (fun W108 H106 st l107 => ?_)
      refine QX.thenN ?_
      refine CW.condP 87 rfl nT nF (fun h109 => ?_) (fun h109 => ?_)
      ·refine CW.seq (CW.reg (WL.as rfl (WL.nt ?_)))
       refine CW.ret (QX.blkR (QX.thenR (QX.thenR (QX.blkR (QX.thenR (QX.thenR (finA Tryz.results96 st (.tmp rfl .nil) ?_)))))))
       exact vb ((if_pos h13).trans ((if_pos h16).trans ((if_pos h19).trans ((lk_inr e51).trans ((lk_inr e83).trans (lk_inl ((Eq.symm e89).trans (if_neg h109))))))))
      ·refine CW.skip (QX.blkN (QX.thenN ?_))
       refine CW.reg (WL.mv rfl (WL.pv (Pu.iadd rfl rfl (c := r84 + 1) (w64 (by omega) (by omega))) (WL.as rfl ?_)))
       refine WL.nil (QX.round ⟨n85, r84 + 1⟩ ?_ (Nat.lt_succ_self _) (.cons rfl (.cons rfl (.cons rfl (.nil _)))))
       exact ⟨⟨_, st, (l87.trans l107)⟩, (by first|omega|simp<;>omega), (by first|omega|simp<;>omega), (by first|omega|simp<;>omega), Eq.symm ((Eq.symm e89).trans (if_pos h109))⟩
     ·obtain rfl : N93 = 0 := by omega
      refine CW.exit (QX.thenE (QX.thenE (QX.hit (QX.meets () ?_ (.nil _)))))
      exact ⟨⟨_, st, l87⟩, Eq.symm e89⟩
    rintro _ W114 ⟨⟨H112, st, l113⟩, e115⟩
    show QX _ _ _ [] _
    refine QX.thenN (CW.seq (CW.reg (WL.as rfl (WL.nt ?_))))
    refine CW.ret (finA Tryz.results96 st (.tmp rfl .nil) ?_)
    exact vb ((if_pos h13).trans ((if_pos h16).trans ((if_pos h19).trans ((lk_inr e51).trans ((lk_inr e83).trans (lk_inr e115))))))
/-! toll tollref09.Same -/
def m25_l0 (a0 : Object) (a1 : Object) : Nat → Int → (Bool ⊕ Unit)
 | 0, _ => .inr ()
 | n37 + 1, r36 => if (lg a0.ports.l r36) = lg a1.ports.l r36 then (m25_l0 a0 a1 n37 (r36 + 1)) else .inl false
def m25_l1 (a0 : Object) (a1 : Object) : Nat → Int → (Bool ⊕ Unit)
 | 0, _ => .inr ()
 | n69 + 1, r68 => if (lg a0.listeners.l r68).name = (lg a1.listeners.l r68).name then (if ((lg a0.listeners.l r68).port) = (lg a1.listeners.l r68).port then (if (((lg a0.listeners.l r68).tls) == ((lg a1.listeners.l r68).tls)) = true then (if (lg a0.listeners.l r68).host = (lg a1.listeners.l r68).host then (if (lg a0.listeners.l r68).cert = (lg a1.listeners.l r68).cert then (if ((lg a0.listeners.l r68).frm) = (lg a1.listeners.l r68).frm then (if (m95 (((lg a0.listeners.l r68).needs).l) (((lg a1.listeners.l r68).needs).l)) = true then (m25_l1 a0 a1 n69 (r68 + 1)) else .inl false) else .inl false) else .inl false) else .inl false) else .inl false) else .inl false) else .inl false
def m25_l2 (a0 : Object) (a1 : Object) : Nat → Int → (Bool ⊕ Unit)
 | 0, _ => .inr ()
 | n151 + 1, r150 => if lg a0.parents.l r150 = lg a1.parents.l r150 then (m25_l2 a0 a1 n151 (r150 + 1)) else .inl false
def m25_l3 (a0 : Object) (a1 : Object) : Nat → Int → (Bool ⊕ Unit)
 | 0, _ => .inr ()
 | n183 + 1, r182 => if lg a0.frm.l r182 = lg a1.frm.l r182 then (m25_l3 a0 a1 n183 (r182 + 1)) else .inl false
def m25_l4 (a0 : Object) (a1 : Object) : Nat → Int → (Bool ⊕ Unit)
 | 0, _ => .inr ()
 | n215 + 1, r214 => if lg a0.to.l r214 = lg a1.to.l r214 then (m25_l4 a0 a1 n215 (r214 + 1)) else .inl false
def m25_l5 (a0 : Object) (a1 : Object) : Nat → Int → (Bool ⊕ Unit)
 | 0, _ => .inr ()
 | n247 + 1, r246 => if (m96 (lg a0.rules.l r246) (lg a1.rules.l r246)) = true then (m25_l5 a0 a1 n247 (r246 + 1)) else .inl false
def m25 (a0 : Object) (a1 : Object) : Bool :=
 if a0.ref = a1.ref then (if (a0.good == a1.good) = true then (if a0.cls = a1.cls then (if (m93 a0.labels.l a1.labels.l) = true then (if (m94 a0.hosts.l a1.hosts.l) = true then (if (a0.ports.l.length : Int) = (a1.ports.l.length : Int) then (if (a0.listeners.l.length : Int) = (a1.listeners.l.length : Int) then (if (a0.parents.l.length : Int) = (a1.parents.l.length : Int) then (if (a0.rules.l.length : Int) = (a1.rules.l.length : Int) then (if (a0.frm.l.length : Int) = (a1.frm.l.length : Int) then (if (a0.to.l.length : Int) = (a1.to.l.length : Int) then (lk2 (m25_l0 a0 a1 (((a0.ports.l.length : Int) - 0).toNat) 0) (fun _ => lk2 (m25_l1 a0 a1 (((a0.listeners.l.length : Int) - 0).toNat) 0) (fun _ => lk2 (m25_l2 a0 a1 (((a0.parents.l.length : Int) - 0).toNat) 0) (fun _ => lk2 (m25_l3 a0 a1 (((a0.frm.l.length : Int) - 0).toNat) 0) (fun _ => lk2 (m25_l4 a0 a1 (((a0.to.l.length : Int) - 0).toNat) 0) (fun _ => lk2 (m25_l5 a0 a1 (((a0.rules.l.length : Int) - 0).toNat) 0) (fun _ => true))))))) else false) else false) else false) else false) else false) else false) else false) else false) else false) else false) else false
theorem c25 (a0 : Object) (a1 : Object) {w : World} {H : PH} (hs : Sub H w) (k0p : Object.Ok 1048576 H a0) (k1p : Object.Ok 1048576 H a1) : Spec Tryz.prog 25 [Object.v a0, Object.v a1].toArray w H (fun _ v => v = .bool (m25 a0 a1)) := by
 refine Spec.enter Tryz.func25 rfl Tryz.ntmps25 rfl ?_
 have st := St.start hs
 refine CW.seq (CW.reg ?_)
 refine WL.box rfl rfl rfl rfl st ?_
 intro b1 W2 H3 st l4 f5
 refine WL.box rfl rfl rfl rfl st ?_
 intro b6 W7 H8 st l9 f10
 refine WL.as rfl (WL.nt (CW.seq (CW.seq (CW.reg (WL.pv (Pu.fa rfl fo32_0) (WL.pv (Pu.load (v := Ref.v a0.ref) rfl ty23 (((f5.le l9).drop 0).w st.sub) rfl) (WL.pv (Pu.fa rfl fo32_0) (WL.pv (Pu.load (v := Ref.v a1.ref) rfl ty23 ((f10.drop 0).w st.sub) rfl) (WL.pv (Pu.bin rfl rfl (eqg23 _ a0.ref a1.ref) (ne23 a0.ref a1.ref)) ?_)))))))))
 refine WL.mv rfl ?_
 refine WL.splitP 18 rfl nT nF (fun h11 => ?_) (fun h11 => ?_)
 ·refine WL.of (WL.of (WL.of (WL.of (WL.of (WL.pv (Pu.pickT rfl rfl) (WL.mv rfl (WL.of (WL.of (WL.of ?_)))))))))
  refine WL.of (WL.of (WL.pv (Pu.pickT rfl rfl) (WL.mv rfl (WL.of (WL.of (WL.of (WL.of (WL.of (WL.of ?_)))))))))
  refine WL.pv (Pu.pickT rfl rfl) (WL.mv rfl (WL.of (WL.of (WL.of (WL.of (WL.of (WL.of (WL.pv (Pu.pickT rfl rfl) (WL.nt ?_)))))))))
  refine CW.condT rfl ?_
  refine CW.seq (CW.reg (WL.as rfl (WL.nt ?_)))
  refine CW.ret (QX.thenR (finA Tryz.results25 st (.tmp rfl .nil) ?_))
  exact vb (if_neg h11)
 ·refine WL.pv (Pu.fa rfl fo32_1) (WL.pv (Pu.load rfl ty4 (((f5.le l9).drop 3).w st.sub) rfl) (WL.pv (Pu.fa rfl fo32_1) (WL.pv (Pu.load rfl ty4 ((f10.drop 3).w st.sub) rfl) (WL.pv (Pu.bne rfl rfl Tryz.underlying4) (WL.pv (Pu.pickF rfl rfl) (WL.mv rfl ?_))))))
  refine WL.splitP 25 rfl mT mF (fun h12 => ?_) (fun h12 => ?_)
  ·refine WL.of (WL.of (WL.of (WL.of (WL.of (WL.pv (Pu.pickT rfl rfl) (WL.mv rfl (WL.of (WL.of (WL.of ?_)))))))))
   refine WL.of (WL.of (WL.of (WL.pv (Pu.pickT rfl rfl) (WL.mv rfl (WL.of (WL.of (WL.of (WL.of (WL.of ?_)))))))))
   refine WL.of (WL.pv (Pu.pickT rfl rfl) (WL.nt ?_))
   refine CW.condT rfl ?_
   refine CW.seq (CW.reg (WL.as rfl (WL.nt ?_)))
   refine CW.ret (QX.thenR (finA Tryz.results25 st (.tmp rfl .nil) ?_))
   exact vb ((if_pos h11).trans (if_neg h12))
  ·refine WL.pv (Pu.fa rfl fo32_4) (WL.pv (Pu.load rfl ty9 (((f5.le l9).drop 6).w st.sub) rfl) (WL.pv (Pu.fa rfl fo32_4) (WL.pv (Pu.load rfl ty9 ((f10.drop 6).w st.sub) rfl) (WL.pv (Pu.sne rfl rfl) (WL.pv (Pu.pickF rfl rfl) (WL.mv rfl ?_))))))
   refine WL.splitP 32 rfl nT nF (fun h13 => ?_) (fun h13 => ?_)
   ·refine WL.of (WL.of (WL.of (WL.of (WL.of (WL.of (WL.pv (Pu.pickT rfl rfl) (WL.mv rfl (WL.of (WL.of ?_)))))))))
    refine WL.of (WL.of (WL.of (WL.of (WL.pv (Pu.pickT rfl rfl) (WL.nt ?_)))))
    refine CW.condT rfl ?_
    refine CW.seq (CW.reg (WL.as rfl (WL.nt ?_)))
    refine CW.ret (QX.thenR (finA Tryz.results25 st (.tmp rfl .nil) ?_))
    exact vb ((if_pos h11).trans ((if_pos h12).trans (if_neg h13)))
   ·refine WL.pv (Pu.fa rfl fo32_2) (WL.pv (Pu.load rfl ty24 (((f5.le l9).drop 4).w st.sub) rfl) (WL.pv (Pu.fa rfl fo32_2) (WL.pv (Pu.load rfl ty24 ((f10.drop 4).w st.sub) rfl) ?_)))
    refine WL.callv rfl rfl en93 rfl rfl st (c93 a0.labels a1.labels st.sub (k0p.labels.le (l4.trans l9)) (k1p.labels.le (l4.trans l9))) ?_
    intro W14 st
    refine WL.pv (Pu.notb rfl) (WL.pv (Pu.pickF rfl rfl) (WL.mv rfl ?_))
    refine WL.splitP 40 rfl mT mF (fun h15 => ?_) (fun h15 => ?_)
    ·refine WL.of (WL.of (WL.of (WL.of (WL.of (WL.of (WL.pv (Pu.pickT rfl rfl) (WL.nt ?_)))))))
     refine CW.condT rfl ?_
     refine CW.seq (CW.reg (WL.as rfl (WL.nt ?_)))
     refine CW.ret (QX.thenR (finA Tryz.results25 st (.tmp rfl .nil) ?_))
     exact vb ((if_pos h11).trans ((if_pos h12).trans ((if_pos h13).trans (if_neg h15))))
    ·refine WL.pv (Pu.fa rfl fo32_7) (WL.pv (Pu.load rfl ty28 (((f5.le l9).drop 9).w st.sub) rfl) (WL.pv (Pu.fa rfl fo32_7) (WL.pv (Pu.load rfl ty28 ((f10.drop 9).w st.sub) rfl) ?_)))
     refine WL.callv rfl rfl en94 rfl rfl st (c94 a0.hosts a1.hosts st.sub (k0p.hosts.le (l4.trans l9)) (k1p.hosts.le (l4.trans l9))) ?_
     intro W16 st
     refine WL.pv (Pu.notb rfl) (WL.pv (Pu.pickF rfl rfl) (WL.nt ?_))
     refine CW.condP 47 rfl mT mF (fun h17 => ?_) (fun h17 => ?_)
     ·refine CW.seq (CW.reg (WL.as rfl (WL.nt ?_)))
      refine CW.ret (QX.thenR (finA Tryz.results25 st (.tmp rfl .nil) ?_))
      exact vb ((if_pos h11).trans ((if_pos h12).trans ((if_pos h13).trans ((if_pos h15).trans (if_neg h17)))))
     ·refine CW.skip (QX.thenN ?_)
      refine CW.seq (CW.seq (CW.reg (WL.pv (Pu.fa rfl fo32_3) (WL.pv (Pu.load rfl ty25 (((f5.le l9).drop 5).w st.sub) rfl) ?_))))
      have z18 : a0.ports.l.length ≤ 1048576 := (k0p.ports.le (l4.trans l9)).top
      refine WL.pv (Pu.lens (n := a0.ports.l.length) rfl sl25) (WL.pv (Pu.fa rfl fo32_3) (WL.pv (Pu.load rfl ty25 ((f10.drop 5).w st.sub) rfl) ?_))
      have z19 : a1.ports.l.length ≤ 1048576 := (k1p.ports.le (l4.trans l9)).top
      refine WL.pv (Pu.lens (n := a1.ports.l.length) rfl sl25) (WL.pv (Pu.ine rfl rfl) (WL.mv rfl ?_))
      refine WL.splitP 55 rfl nT nF (fun h20 => ?_) (fun h20 => ?_)
      ·refine WL.of (WL.of (WL.of (WL.of (WL.of (WL.of (WL.of (WL.pv (Pu.pickT rfl rfl) (WL.mv rfl (WL.of ?_)))))))))
       refine WL.of (WL.of (WL.of (WL.of (WL.of (WL.of (WL.pv (Pu.pickT rfl rfl) (WL.mv rfl (WL.of (WL.of ?_)))))))))
       refine WL.of (WL.of (WL.of (WL.of (WL.of (WL.pv (Pu.pickT rfl rfl) (WL.mv rfl (WL.of (WL.of (WL.of ?_)))))))))
       refine WL.of (WL.of (WL.of (WL.of (WL.pv (Pu.pickT rfl rfl) (WL.mv rfl (WL.of (WL.of (WL.of (WL.of ?_)))))))))
       refine WL.of (WL.of (WL.of (WL.pv (Pu.pickT rfl rfl) (WL.nt ?_))))
       refine CW.condT rfl ?_
       refine CW.seq (CW.reg (WL.as rfl (WL.nt ?_)))
       refine CW.ret (QX.thenR (finA Tryz.results25 st (.tmp rfl .nil) ?_))
       exact vb ((if_pos h11).trans ((if_pos h12).trans ((if_pos h13).trans ((if_pos h15).trans ((if_pos h17).trans (if_neg h20))))))
      ·refine WL.pv (Pu.fa rfl fo32_5) (WL.pv (Pu.load rfl ty26 (((f5.le l9).drop 7).w st.sub) rfl) ?_)
       have z21 : a0.listeners.l.length ≤ 1048576 := (k0p.listeners.le (l4.trans l9)).top
       refine WL.pv (Pu.lens (n := a0.listeners.l.length) rfl sl26) (WL.pv (Pu.fa rfl fo32_5) (WL.pv (Pu.load rfl ty26 ((f10.drop 7).w st.sub) rfl) ?_))
       have z22 : a1.listeners.l.length ≤ 1048576 := (k1p.listeners.le (l4.trans l9)).top
       refine WL.pv (Pu.lens (n := a1.listeners.l.length) rfl sl26) (WL.pv (Pu.ine rfl rfl) (WL.pv (Pu.pickF rfl rfl) (WL.mv rfl ?_)))
       refine WL.splitP 64 rfl nT nF (fun h23 => ?_) (fun h23 => ?_)
       ·refine WL.of (WL.of (WL.of (WL.of (WL.of (WL.of (WL.of (WL.pv (Pu.pickT rfl rfl) (WL.mv rfl (WL.of ?_)))))))))
        refine WL.of (WL.of (WL.of (WL.of (WL.of (WL.of (WL.pv (Pu.pickT rfl rfl) (WL.mv rfl (WL.of (WL.of ?_)))))))))
        refine WL.of (WL.of (WL.of (WL.of (WL.of (WL.pv (Pu.pickT rfl rfl) (WL.mv rfl (WL.of (WL.of (WL.of ?_)))))))))
        refine WL.of (WL.of (WL.of (WL.of (WL.pv (Pu.pickT rfl rfl) (WL.nt ?_)))))
        refine CW.condT rfl ?_
        refine CW.seq (CW.reg (WL.as rfl (WL.nt ?_)))
        refine CW.ret (QX.thenR (finA Tryz.results25 st (.tmp rfl .nil) ?_))
        exact vb ((if_pos h11).trans ((if_pos h12).trans ((if_pos h13).trans ((if_pos h15).trans ((if_pos h17).trans ((if_pos h20).trans (if_neg h23)))))))
       ·refine WL.pv (Pu.fa rfl fo32_6) (WL.pv (Pu.load rfl ty27 (((f5.le l9).drop 8).w st.sub) rfl) ?_)
        have z24 : a0.parents.l.length ≤ 1048576 := (k0p.parents.le (l4.trans l9)).top
        refine WL.pv (Pu.lens (n := a0.parents.l.length) rfl sl27) (WL.pv (Pu.fa rfl fo32_6) (WL.pv (Pu.load rfl ty27 ((f10.drop 8).w st.sub) rfl) ?_))
        have z25 : a1.parents.l.length ≤ 1048576 := (k1p.parents.le (l4.trans l9)).top
        refine WL.pv (Pu.lens (n := a1.parents.l.length) rfl sl27) (WL.pv (Pu.ine rfl rfl) (WL.pv (Pu.pickF rfl rfl) (WL.mv rfl ?_)))
        refine WL.splitP 73 rfl nT nF (fun h26 => ?_) (fun h26 => ?_)
        ·refine WL.of (WL.of (WL.of (WL.of (WL.of (WL.of (WL.of (WL.pv (Pu.pickT rfl rfl) (WL.mv rfl (WL.of ?_)))))))))
         refine WL.of (WL.of (WL.of (WL.of (WL.of (WL.of (WL.pv (Pu.pickT rfl rfl) (WL.mv rfl (WL.of (WL.of ?_)))))))))
         refine WL.of (WL.of (WL.of (WL.of (WL.of (WL.pv (Pu.pickT rfl rfl) (WL.nt ?_))))))
         refine CW.condT rfl ?_
         refine CW.seq (CW.reg (WL.as rfl (WL.nt ?_)))
         refine CW.ret (QX.thenR (finA Tryz.results25 st (.tmp rfl .nil) ?_))
         exact vb ((if_pos h11).trans ((if_pos h12).trans ((if_pos h13).trans ((if_pos h15).trans ((if_pos h17).trans ((if_pos h20).trans ((if_pos h23).trans (if_neg h26))))))))
        ·refine WL.pv (Pu.fa rfl fo32_8) (WL.pv (Pu.load rfl ty29 (((f5.le l9).drop 10).w st.sub) rfl) ?_)
         have z27 : a0.rules.l.length ≤ 1048576 := (k0p.rules.le (l4.trans l9)).top
         refine WL.pv (Pu.lens (n := a0.rules.l.length) rfl sl29) (WL.pv (Pu.fa rfl fo32_8) (WL.pv (Pu.load rfl ty29 ((f10.drop 10).w st.sub) rfl) ?_))
         have z28 : a1.rules.l.length ≤ 1048576 := (k1p.rules.le (l4.trans l9)).top
         refine WL.pv (Pu.lens (n := a1.rules.l.length) rfl sl29) (WL.pv (Pu.ine rfl rfl) (WL.pv (Pu.pickF rfl rfl) (WL.mv rfl ?_)))
         refine WL.splitP 82 rfl nT nF (fun h29 => ?_) (fun h29 => ?_)
         ·refine WL.of (WL.of (WL.of (WL.of (WL.of (WL.of (WL.of (WL.pv (Pu.pickT rfl rfl) (WL.mv rfl (WL.of ?_)))))))))
          refine WL.of (WL.of (WL.of (WL.of (WL.of (WL.of (WL.pv (Pu.pickT rfl rfl) (WL.nt ?_)))))))
          refine CW.condT rfl ?_
          refine CW.seq (CW.reg (WL.as rfl (WL.nt ?_)))
          refine CW.ret (QX.thenR (finA Tryz.results25 st (.tmp rfl .nil) ?_))
          exact vb ((if_pos h11).trans ((if_pos h12).trans ((if_pos h13).trans ((if_pos h15).trans ((if_pos h17).trans ((if_pos h20).trans ((if_pos h23).trans ((if_pos h26).trans (if_neg h29)))))))))
         ·refine WL.pv (Pu.fa rfl fo32_9) (WL.pv (Pu.load rfl ty30 (((f5.le l9).drop 11).w st.sub) rfl) ?_)
          have z30 : a0.frm.l.length ≤ 1048576 := (k0p.frm.le (l4.trans l9)).top
          refine WL.pv (Pu.lens (n := a0.frm.l.length) rfl sl30) (WL.pv (Pu.fa rfl fo32_9) (WL.pv (Pu.load rfl ty30 ((f10.drop 11).w st.sub) rfl) ?_))
          have z31 : a1.frm.l.length ≤ 1048576 := (k1p.frm.le (l4.trans l9)).top
          refine WL.pv (Pu.lens (n := a1.frm.l.length) rfl sl30) (WL.pv (Pu.ine rfl rfl) (WL.pv (Pu.pickF rfl rfl) (WL.mv rfl ?_)))
          refine WL.splitP 91 rfl nT nF (fun h32 => ?_) (fun h32 => ?_)
          ·refine WL.of (WL.of (WL.of (WL.of (WL.of (WL.of (WL.of (WL.pv (Pu.pickT rfl rfl) (WL.nt ?_))))))))
           refine CW.condT rfl ?_
           refine CW.seq (CW.reg (WL.as rfl (WL.nt ?_)))
           refine CW.ret (QX.thenR (finA Tryz.results25 st (.tmp rfl .nil) ?_))
           exact vb ((if_pos h11).trans ((if_pos h12).trans ((if_pos h13).trans ((if_pos h15).trans ((if_pos h17).trans ((if_pos h20).trans ((if_pos h23).trans ((if_pos h26).trans ((if_pos h29).trans (if_neg h32))))))))))
          ·refine WL.pv (Pu.fa rfl fo32_10) (WL.pv (Pu.load rfl ty30 (((f5.le l9).drop 12).w st.sub) rfl) ?_)
           have z33 : a0.to.l.length ≤ 1048576 := (k0p.to.le (l4.trans l9)).top
           refine WL.pv (Pu.lens (n := a0.to.l.length) rfl sl30) (WL.pv (Pu.fa rfl fo32_10) (WL.pv (Pu.load rfl ty30 ((f10.drop 12).w st.sub) rfl) ?_))
           have z34 : a1.to.l.length ≤ 1048576 := (k1p.to.le (l4.trans l9)).top
           refine WL.pv (Pu.lens (n := a1.to.l.length) rfl sl30) (WL.pv (Pu.ine rfl rfl) (WL.pv (Pu.pickF rfl rfl) (WL.nt ?_)))
           refine CW.condP 99 rfl nT nF (fun h35 => ?_) (fun h35 => ?_)
           ·refine CW.seq (CW.reg (WL.as rfl (WL.nt ?_)))
            refine CW.ret (QX.thenR (finA Tryz.results25 st (.tmp rfl .nil) ?_))
            exact vb ((if_pos h11).trans ((if_pos h12).trans ((if_pos h13).trans ((if_pos h15).trans ((if_pos h17).trans ((if_pos h20).trans ((if_pos h23).trans ((if_pos h26).trans ((if_pos h29).trans ((if_pos h32).trans (if_neg h35)))))))))))
           ·refine CW.skip (QX.thenN ?_)
            refine CW.seq (CW.seq (CW.reg (WL.as rfl (WL.nt ?_))))
            refine (CW.cuts (fun (s : Unit) W => (∃ H', St w W H H' [] ∧ Le H8 H') ∧ m25_l0 a0 a1 (((a0.ports.l.length : Int) - 0).toNat) 0 = .inr ()) (fun (s : Unit) => [(2, Value.pointer (some (⟨b1, 0, none⟩ : Addr))), (3, Value.pointer (some (⟨b6, 0, none⟩ : Addr)))]) ?_ ?_)
            ·refine CW.blk (CW.loop (fun (s : Nat × Int) W => (∃ H', St w W H H' [] ∧ Le H8 H') ∧ 0 ≤ s.2 ∧ s.2 ≤ (a0.ports.l.length : Int) ∧ s.1 = ((a0.ports.l.length : Int) - s.2).toNat ∧ m25_l0 a0 a1 s.1 s.2 = m25_l0 a0 a1 (((a0.ports.l.length : Int) - 0).toNat) 0) (fun (s : Nat × Int) => [(2, Value.pointer (some (⟨b1, 0, none⟩ : Addr))), (3, Value.pointer (some (⟨b6, 0, none⟩ : Addr))), (5, Value.int .i64 s.2)]) (fun s => s.1) ⟨((a0.ports.l.length : Int) - 0).toNat, 0⟩ ⟨⟨_, st, Le.refl _⟩, (by first|omega|simp<;>omega), (by first|omega|simp<;>omega), rfl, rfl⟩ (.cons rfl (.cons rfl (.cons rfl (.nil _)))) ?_)
             rintro ⟨N45, r36⟩ W40 ⟨⟨H38, st, l39⟩, g62, g63, g44, e41⟩
             replace g62 : 0 ≤ r36 := g62
             replace g63 : r36 ≤ (a0.ports.l.length : Int) := g63
             replace g44 : N45 = ((a0.ports.l.length : Int) - r36).toNat := g44
             replace e41 : m25_l0 a0 a1 N45 r36 = m25_l0 a0 a1 (((a0.ports.l.length : Int) - 0).toNat) 0 := e41
             show CW _ _ _ _ [(2, Value.pointer (some (⟨b1, 0, none⟩ : Addr))), (3, Value.pointer (some (⟨b6, 0, none⟩ : Addr))), (5, Value.int .i64 r36)] _
             refine CW.seq (CW.seq (CW.reg (WL.mv rfl (WL.pv (Pu.fa rfl fo32_3) (WL.pv (Pu.load rfl ty25 (((f5.le (l9.trans l39)).drop 5).w st.sub) rfl) ?_)))))
             have z46 : a0.ports.l.length ≤ 1048576 := (k0p.ports.le ((l4.trans l9).trans l39)).top
             refine WL.pv (Pu.lens (n := a0.ports.l.length) rfl sl25) (WL.pv (Pu.ilt rfl rfl) (WL.nt ?_))
             refine CW.condP 104 rfl dT dF (fun h47 => ?_) (fun h47 => ?_)
             ·obtain ⟨n37, rfl⟩ : ∃ k, N45 = k + 1 := ⟨N45 - 1, by omega⟩
              refine CW.skip (QX.thenN ?_)
              refine CW.seq ?_
              refine CW.blk ?_
              refine CW.seq ?_
              refine CW.regS (C := Cl w H38 []) (tail := []) (S := Grew w H H38 []) mixed (fun W' h1 h2 h3 h4 => grew_start st h1 h2 h3 h4) (n := 11) rfl ?_
              refine WS.pk 0 rfl gg (fun W hC => Pu.fa rfl fo32_3) ?_
              refine WS.pk 1 rfl gg (fun W hC => Pu.load rfl ty25 (((f5.le (l9.trans l39)).drop 5).w hC.1) rfl) ?_
              refine WS.pk 2 rfl gg (fun W hC => Pu.move rfl) ?_
              have y48 := lg_get (l := a0.ports.l) (i := r36) (by omega) (by omega)
              obtain ⟨ad49, qa52, f50⟩ := ((k0p.ports.le ((l4.trans l9).trans l39)).get _ _ y48).1
              refine WS.pk 3 rfl gg (fun W hC => Pu.idx0 rfl rfl sl25 (by first|omega|simp<;>omega) (by first|omega|simp<;>omega) qa52) ?_
              refine WS.pk 4 rfl gg (fun W hC => Pu.load rfl ty3 (f50.w hC.1) rfl) ?_
              refine WS.pk 5 rfl gg (fun W hC => Pu.fa rfl fo32_3) ?_
              refine WS.pk 6 rfl gg (fun W hC => Pu.load rfl ty25 (((f10.le l39).drop 5).w hC.1) rfl) ?_
              refine WS.pk 7 rfl gg (fun W hC => Pu.move rfl) ?_
              have y53 := lg_get (l := a1.ports.l) (i := r36) (by omega) (by omega)
              obtain ⟨ad54, qa57, f55⟩ := ((k1p.ports.le ((l4.trans l9).trans l39)).get _ _ y53).1
              refine WS.pk 8 rfl gg (fun W hC => Pu.idx0 rfl rfl sl25 (by first|omega|simp<;>omega) (by first|omega|simp<;>omega) qa57) ?_
              refine WS.pk 9 rfl gg (fun W hC => Pu.load rfl ty3 (f55.w hC.1) rfl) ?_
              refine WS.pk 10 rfl gg (fun W hC => Pu.ine rfl rfl) ?_
              refine WS.fin (by kernel_rfl) (fun W60 H58 st l59 => ?_)
              refine QX.thenN ?_
              refine CW.condP 117 rfl nT nF (fun h61 => ?_) (fun h61 => ?_)
              ·refine CW.seq (CW.reg (WL.as rfl (WL.nt ?_)))
               refine CW.ret (QX.blkR (QX.thenR (QX.thenR (QX.blkR (QX.thenR (QX.thenR (finA Tryz.results25 st (.tmp rfl .nil) ?_)))))))
               exact vb ((if_pos h11).trans ((if_pos h12).trans ((if_pos h13).trans ((if_pos h15).trans ((if_pos h17).trans ((if_pos h20).trans ((if_pos h23).trans ((if_pos h26).trans ((if_pos h29).trans ((if_pos h32).trans ((if_pos h35).trans (lk_inl ((Eq.symm e41).trans (if_neg h61))))))))))))))
              ·refine CW.skip (QX.blkN (QX.thenN ?_))
               refine CW.reg (WL.mv rfl (WL.pv (Pu.iadd rfl rfl (c := r36 + 1) (w64 (by omega) (by omega))) (WL.as rfl ?_)))
               refine WL.nil (QX.round ⟨n37, r36 + 1⟩ ?_ (Nat.lt_succ_self _) (.cons rfl (.cons rfl (.cons rfl (.nil _)))))
               exact ⟨⟨_, st, (l39.trans l59)⟩, (by first|omega|simp<;>omega), (by first|omega|simp<;>omega), (by first|omega|simp<;>omega), Eq.symm ((Eq.symm e41).trans (if_pos h61))⟩
             ·obtain rfl : N45 = 0 := by omega
              refine CW.exit (QX.thenE (QX.thenE (QX.hit (QX.meets () ?_ (.cons rfl (.cons rfl (.nil _)))))))
              exact ⟨⟨_, st, l39⟩, Eq.symm e41⟩
            rintro _ W66 ⟨⟨H64, st, l65⟩, e67⟩
            show QX _ _ _ [(2, Value.pointer (some (⟨b1, 0, none⟩ : Addr))), (3, Value.pointer (some (⟨b6, 0, none⟩ : Addr)))] _
            refine QX.thenN (CW.seq (CW.seq (CW.reg (WL.as rfl (WL.nt ?_)))))
            refine (CW.cuts (fun (s : Unit) W => (∃ H', St w W H H' [] ∧ Le H64 H') ∧ m25_l1 a0 a1 (((a0.listeners.l.length : Int) - 0).toNat) 0 = .inr ()) (fun (s : Unit) => [(2, Value.pointer (some (⟨b1, 0, none⟩ : Addr))), (3, Value.pointer (some (⟨b6, 0, none⟩ : Addr)))]) ?_ ?_)
            ·refine CW.blk (CW.loop (fun (s : Nat × Int) W => (∃ H', St w W H H' [] ∧ Le H64 H') ∧ 0 ≤ s.2 ∧ s.2 ≤ (a0.listeners.l.length : Int) ∧ s.1 = ((a0.listeners.l.length : Int) - s.2).toNat ∧ m25_l1 a0 a1 s.1 s.2 = m25_l1 a0 a1 (((a0.listeners.l.length : Int) - 0).toNat) 0) (fun (s : Nat × Int) => [(2, Value.pointer (some (⟨b1, 0, none⟩ : Addr))), (3, Value.pointer (some (⟨b6, 0, none⟩ : Addr))), (6, Value.int .i64 s.2)]) (fun s => s.1) ⟨((a0.listeners.l.length : Int) - 0).toNat, 0⟩ ⟨⟨_, st, Le.refl _⟩, (by first|omega|simp<;>omega), (by first|omega|simp<;>omega), rfl, rfl⟩ (.cons rfl (.cons rfl (.cons rfl (.nil _)))) ?_)
             rintro ⟨N77, r68⟩ W72 ⟨⟨H70, st, l71⟩, g144, g145, g76, e73⟩
             replace g144 : 0 ≤ r68 := g144
             replace g145 : r68 ≤ (a0.listeners.l.length : Int) := g145
             replace g76 : N77 = ((a0.listeners.l.length : Int) - r68).toNat := g76
             replace e73 : m25_l1 a0 a1 N77 r68 = m25_l1 a0 a1 (((a0.listeners.l.length : Int) - 0).toNat) 0 := e73
             show CW _ _ _ _ [(2, Value.pointer (some (⟨b1, 0, none⟩ : Addr))), (3, Value.pointer (some (⟨b6, 0, none⟩ : Addr))), (6, Value.int .i64 r68)] _
             refine CW.seq (CW.seq (CW.reg (WL.mv rfl (WL.pv (Pu.fa rfl fo32_5) (WL.pv (Pu.load rfl ty26 (((f5.le ((l9.trans l65).trans l71)).drop 7).w st.sub) rfl) ?_)))))
             have z78 : a0.listeners.l.length ≤ 1048576 := (k0p.listeners.le (((l4.trans l9).trans l65).trans l71)).top
             refine WL.pv (Pu.lens (n := a0.listeners.l.length) rfl sl26) (WL.pv (Pu.ilt rfl rfl) (WL.nt ?_))
             refine CW.condP 122 rfl dT dF (fun h79 => ?_) (fun h79 => ?_)
             ·obtain ⟨n69, rfl⟩ : ∃ k, N77 = k + 1 := ⟨N77 - 1, by omega⟩
              refine CW.skip (QX.thenN ?_)
              refine CW.seq ?_
              refine CW.blk ?_
              refine CW.seq ?_
              refine CW.regS (C := Cl w H70 []) (tail := []) (S := Grew w H H70 []) mixed (fun W' h1 h2 h3 h4 => grew_start st h1 h2 h3 h4) (n := 14) rfl ?_
              refine WS.pk 0 rfl gg (fun W hC => Pu.fa rfl fo32_5) ?_
              refine WS.pk 1 rfl gg (fun W hC => Pu.load rfl ty26 (((f5.le ((l9.trans l65).trans l71)).drop 7).w hC.1) rfl) ?_
              refine WS.pk 2 rfl gg (fun W hC => Pu.move rfl) ?_
              have y80 := lg_get (l := a0.listeners.l) (i := r68) (by omega) (by omega)
              have k83 : Listener.Ok 1048576 H70 (lg a0.listeners.l r68) := ((k0p.listeners.le (((l4.trans l9).trans l65).trans l71)).get _ _ y80).2
              obtain ⟨ad81, qa84, f82⟩ := ((k0p.listeners.le (((l4.trans l9).trans l65).trans l71)).get _ _ y80).1
              refine WS.pk 3 rfl gg (fun W hC => Pu.idx0 rfl rfl sl26 (by first|omega|simp<;>omega) (by first|omega|simp<;>omega) qa84) ?_
              refine WS.pk 4 rfl gg (fun W hC => Pu.load (v := Listener.v (lg a0.listeners.l r68)) rfl ty94 (f82.w hC.1) rfl) ?_
              refine WS.pk 5 rfl gg (fun W hC => Pu.fa rfl fo32_5) ?_
              refine WS.pk 6 rfl gg (fun W hC => Pu.load rfl ty26 (((f10.le (l65.trans l71)).drop 7).w hC.1) rfl) ?_
              refine WS.pk 7 rfl gg (fun W hC => Pu.move rfl) ?_
              have y85 := lg_get (l := a1.listeners.l) (i := r68) (by omega) (by omega)
              have k88 : Listener.Ok 1048576 H70 (lg a1.listeners.l r68) := ((k1p.listeners.le (((l4.trans l9).trans l65).trans l71)).get _ _ y85).2
              obtain ⟨ad86, qa89, f87⟩ := ((k1p.listeners.le (((l4.trans l9).trans l65).trans l71)).get _ _ y85).1
              refine WS.pk 8 rfl gg (fun W hC => Pu.idx0 rfl rfl sl26 (by first|omega|simp<;>omega) (by first|omega|simp<;>omega) qa89) ?_
              refine WS.pk 9 rfl gg (fun W hC => Pu.load (v := Listener.v (lg a1.listeners.l r68)) rfl ty94 (f87.w hC.1) rfl) ?_
              refine WS.two (i := 10) (j := 11) (by kernel_rfl) ?_ ?_
              ·refine WO.alloco (c := #[.string (⟨#[]⟩ : ByteArray), .int .i64 0, .bool false, .string (⟨#[]⟩ : ByteArray), .int .i64 0, .string (⟨#[]⟩ : ByteArray), .string (⟨#[]⟩ : ByteArray), .int .i64 0, .slice none 0 0]) 10 rfl rfl rfl ze94 rfl (fun b _ H' l => good_grew ((Le.refl _).trans l) (fun _ h => .tail _ (h))) ?_
               intro b90 H91 l92
               refine WS.one (i := 11) (by kernel_rfl) ?_
               refine WO.alloco (c := #[.string (⟨#[]⟩ : ByteArray), .int .i64 0, .bool false, .string (⟨#[]⟩ : ByteArray), .int .i64 0, .string (⟨#[]⟩ : ByteArray), .string (⟨#[]⟩ : ByteArray), .int .i64 0, .slice none 0 0]) 11 rfl rfl rfl ze94 rfl (fun b _ H' l => good_grew (l92.trans l) (fun _ h => .tail _ (.tail _ (h)))) ?_
               intro b93 H94 l95
               refine WS.one (i := 12) (by kernel_rfl) ?_
               refine WO.front2 ?_
               refine WO.store (o := 0) (c' := [.string ((lg a0.listeners.l r68).name), .int .i64 ((lg a0.listeners.l r68).port), .bool ((lg a0.listeners.l r68).tls), .string ((lg a0.listeners.l r68).host), .int .i64 (((lg a0.listeners.l r68).cert).kind), .string (((lg a0.listeners.l r68).cert).space), .string (((lg a0.listeners.l r68).cert).name), .int .i64 ((lg a0.listeners.l r68).frm), ((lg a0.listeners.l r68).needs).v]) 12 rfl rfl (fun _ H' l => good_grew ((l92.trans l95).trans l) (fun _ h => .tail _ (.tail _ (h)))) rfl rfl rfl ty94 rfl (Enc.one (α := Listener) _) rfl rfl ?_
               intro H96 l97
               refine WS.one (i := 13) (by kernel_rfl) ?_
               refine WO.front2 ?_
               refine WO.store (o := 0) (c' := [.string ((lg a1.listeners.l r68).name), .int .i64 ((lg a1.listeners.l r68).port), .bool ((lg a1.listeners.l r68).tls), .string ((lg a1.listeners.l r68).host), .int .i64 (((lg a1.listeners.l r68).cert).kind), .string (((lg a1.listeners.l r68).cert).space), .string (((lg a1.listeners.l r68).cert).name), .int .i64 ((lg a1.listeners.l r68).frm), ((lg a1.listeners.l r68).needs).v]) 13 rfl rfl (fun _ H' l => good_grew (((l92.trans l95).trans l97).trans l) (fun _ h => .tail _ (.tail _ (h)))) rfl rfl rfl ty94 rfl (Enc.one (α := Listener) _) rfl rfl ?_
               intro H98 l99
               refine WS.fin (by kernel_rfl) (fun W102 H100 st l101 => ?_)
               obtain ⟨H103, st, l104, f105⟩ := st.keepbox
               obtain ⟨H106, st, l107, f108⟩ := st.keepbox
               refine QX.thenN (CW.seq (CW.reg (WL.pv (Pu.fa rfl fo94_0) (WL.pv (Pu.load rfl ty9 ((f108.drop 0).w st.sub) rfl) (WL.pv (Pu.fa rfl fo94_0) (WL.pv (Pu.load rfl ty9 (((f105.le l107).drop 0).w st.sub) rfl) (WL.pv (Pu.sne rfl rfl) (WL.mv rfl ?_))))))))
               refine WL.splitP 140 rfl nT nF (fun h109 => ?_) (fun h109 => ?_)
               ·refine WL.of (WL.of (WL.of (WL.of (WL.of (WL.pv (Pu.pickT rfl rfl) (WL.mv rfl (WL.of (WL.of (WL.of ?_)))))))))
                refine WL.of (WL.of (WL.pv (Pu.pickT rfl rfl) (WL.mv rfl (WL.of (WL.of (WL.of (WL.of (WL.of (WL.pv (Pu.pickT rfl rfl) ?_)))))))))
                refine WL.mv rfl (WL.of (WL.of (WL.of (WL.of (WL.of (WL.pv (Pu.pickT rfl rfl) (WL.mv rfl (WL.of (WL.of ?_)))))))))
                refine WL.of (WL.of (WL.of (WL.pv (Pu.pickT rfl rfl) (WL.mv rfl (WL.of (WL.of (WL.of (WL.of (WL.of ?_)))))))))
                refine WL.of (WL.pv (Pu.pickT rfl rfl) (WL.nt ?_))
                refine CW.condT rfl ?_
                refine CW.seq (CW.reg (WL.as rfl (WL.nt ?_)))
                refine CW.ret (QX.blkR (QX.thenR (QX.thenR (QX.blkR (QX.thenR (QX.thenR (finA Tryz.results25 st (.tmp rfl .nil) ?_)))))))
                exact vb ((if_pos h11).trans ((if_pos h12).trans ((if_pos h13).trans ((if_pos h15).trans ((if_pos h17).trans ((if_pos h20).trans ((if_pos h23).trans ((if_pos h26).trans ((if_pos h29).trans ((if_pos h32).trans ((if_pos h35).trans ((lk_inr e67).trans (lk_inl ((Eq.symm e73).trans (if_neg h109)))))))))))))))
               ·refine WL.pv (Pu.fa rfl fo94_1) (WL.pv (Pu.load rfl ty3 ((f108.drop 1).w st.sub) rfl) (WL.pv (Pu.fa rfl fo94_1) (WL.pv (Pu.load rfl ty3 (((f105.le l107).drop 1).w st.sub) rfl) (WL.pv (Pu.ine rfl rfl) (WL.pv (Pu.pickF rfl rfl) (WL.mv rfl ?_))))))
                refine WL.splitP 147 rfl nT nF (fun h110 => ?_) (fun h110 => ?_)
                ·refine WL.of (WL.of (WL.of (WL.of (WL.of (WL.pv (Pu.pickT rfl rfl) (WL.mv rfl (WL.of (WL.of (WL.of ?_)))))))))
                 refine WL.of (WL.of (WL.pv (Pu.pickT rfl rfl) (WL.mv rfl (WL.of (WL.of (WL.of (WL.of (WL.of (WL.pv (Pu.pickT rfl rfl) ?_)))))))))
                 refine WL.mv rfl (WL.of (WL.of (WL.of (WL.of (WL.of (WL.pv (Pu.pickT rfl rfl) (WL.mv rfl (WL.of (WL.of ?_)))))))))
                 refine WL.of (WL.of (WL.of (WL.of (WL.pv (Pu.pickT rfl rfl) (WL.nt ?_)))))
                 refine CW.condT rfl ?_
                 refine CW.seq (CW.reg (WL.as rfl (WL.nt ?_)))
                 refine CW.ret (QX.blkR (QX.thenR (QX.thenR (QX.blkR (QX.thenR (QX.thenR (finA Tryz.results25 st (.tmp rfl .nil) ?_)))))))
                 exact vb ((if_pos h11).trans ((if_pos h12).trans ((if_pos h13).trans ((if_pos h15).trans ((if_pos h17).trans ((if_pos h20).trans ((if_pos h23).trans ((if_pos h26).trans ((if_pos h29).trans ((if_pos h32).trans ((if_pos h35).trans ((lk_inr e67).trans (lk_inl ((Eq.symm e73).trans ((if_pos h109).trans (if_neg h110))))))))))))))))
                ·refine WL.pv (Pu.fa rfl fo94_2) (WL.pv (Pu.load rfl ty4 ((f108.drop 2).w st.sub) rfl) (WL.pv (Pu.fa rfl fo94_2) (WL.pv (Pu.load rfl ty4 (((f105.le l107).drop 2).w st.sub) rfl) (WL.pv (Pu.bne rfl rfl Tryz.underlying4) (WL.pv (Pu.pickF rfl rfl) (WL.mv rfl ?_))))))
                 refine WL.splitP 154 rfl mT mF (fun h111 => ?_) (fun h111 => ?_)
                 ·refine WL.of (WL.of (WL.of (WL.of (WL.of (WL.pv (Pu.pickT rfl rfl) (WL.mv rfl (WL.of (WL.of (WL.of ?_)))))))))
                  refine WL.of (WL.of (WL.pv (Pu.pickT rfl rfl) (WL.mv rfl (WL.of (WL.of (WL.of (WL.of (WL.of (WL.pv (Pu.pickT rfl rfl) ?_)))))))))
                  refine WL.mv rfl (WL.of (WL.of (WL.of (WL.of (WL.of (WL.of (WL.pv (Pu.pickT rfl rfl) (WL.nt ?_))))))))
                  refine CW.condT rfl ?_
                  refine CW.seq (CW.reg (WL.as rfl (WL.nt ?_)))
                  refine CW.ret (QX.blkR (QX.thenR (QX.thenR (QX.blkR (QX.thenR (QX.thenR (finA Tryz.results25 st (.tmp rfl .nil) ?_)))))))
                  exact vb ((if_pos h11).trans ((if_pos h12).trans ((if_pos h13).trans ((if_pos h15).trans ((if_pos h17).trans ((if_pos h20).trans ((if_pos h23).trans ((if_pos h26).trans ((if_pos h29).trans ((if_pos h32).trans ((if_pos h35).trans ((lk_inr e67).trans (lk_inl ((Eq.symm e73).trans ((if_pos h109).trans ((if_pos h110).trans (if_neg h111)))))))))))))))))
                 ·refine WL.pv (Pu.fa rfl fo94_3) (WL.pv (Pu.load rfl ty9 ((f108.drop 3).w st.sub) rfl) (WL.pv (Pu.fa rfl fo94_3) (WL.pv (Pu.load rfl ty9 (((f105.le l107).drop 3).w st.sub) rfl) (WL.pv (Pu.sne rfl rfl) (WL.pv (Pu.pickF rfl rfl) (WL.mv rfl ?_))))))
                  refine WL.splitP 161 rfl nT nF (fun h112 => ?_) (fun h112 => ?_)
                  ·refine WL.of (WL.of (WL.of (WL.of (WL.of (WL.pv (Pu.pickT rfl rfl) (WL.mv rfl (WL.of (WL.of (WL.of ?_)))))))))
                   refine WL.of (WL.of (WL.pv (Pu.pickT rfl rfl) (WL.mv rfl (WL.of (WL.of (WL.of (WL.of (WL.of (WL.of ?_)))))))))
                   refine WL.pv (Pu.pickT rfl rfl) (WL.nt ?_)
                   refine CW.condT rfl ?_
                   refine CW.seq (CW.reg (WL.as rfl (WL.nt ?_)))
                   refine CW.ret (QX.blkR (QX.thenR (QX.thenR (QX.blkR (QX.thenR (QX.thenR (finA Tryz.results25 st (.tmp rfl .nil) ?_)))))))
                   exact vb ((if_pos h11).trans ((if_pos h12).trans ((if_pos h13).trans ((if_pos h15).trans ((if_pos h17).trans ((if_pos h20).trans ((if_pos h23).trans ((if_pos h26).trans ((if_pos h29).trans ((if_pos h32).trans ((if_pos h35).trans ((lk_inr e67).trans (lk_inl ((Eq.symm e73).trans ((if_pos h109).trans ((if_pos h110).trans ((if_pos h111).trans (if_neg h112))))))))))))))))))
                  ·refine WL.pv (Pu.fa rfl fo94_4) (WL.pv (Pu.load (v := Ref.v ((lg a0.listeners.l r68).cert)) rfl ty23 ((f108.drop 4).w st.sub) rfl) (WL.pv (Pu.fa rfl fo94_4) (WL.pv (Pu.load (v := Ref.v ((lg a1.listeners.l r68).cert)) rfl ty23 (((f105.le l107).drop 4).w st.sub) rfl) (WL.pv (Pu.bin rfl rfl (eqg23 _ ((lg a0.listeners.l r68).cert) ((lg a1.listeners.l r68).cert)) (ne23 ((lg a0.listeners.l r68).cert) ((lg a1.listeners.l r68).cert))) (WL.pv (Pu.pickF rfl rfl) (WL.mv rfl ?_))))))
                   refine WL.splitP 168 rfl nT nF (fun h113 => ?_) (fun h113 => ?_)
                   ·refine WL.of (WL.of (WL.of (WL.of (WL.of (WL.pv (Pu.pickT rfl rfl) (WL.mv rfl (WL.of (WL.of (WL.of ?_)))))))))
                    refine WL.of (WL.of (WL.of (WL.pv (Pu.pickT rfl rfl) (WL.nt ?_))))
                    refine CW.condT rfl ?_
                    refine CW.seq (CW.reg (WL.as rfl (WL.nt ?_)))
                    refine CW.ret (QX.blkR (QX.thenR (QX.thenR (QX.blkR (QX.thenR (QX.thenR (finA Tryz.results25 st (.tmp rfl .nil) ?_)))))))
                    exact vb ((if_pos h11).trans ((if_pos h12).trans ((if_pos h13).trans ((if_pos h15).trans ((if_pos h17).trans ((if_pos h20).trans ((if_pos h23).trans ((if_pos h26).trans ((if_pos h29).trans ((if_pos h32).trans ((if_pos h35).trans ((lk_inr e67).trans (lk_inl ((Eq.symm e73).trans ((if_pos h109).trans ((if_pos h110).trans ((if_pos h111).trans ((if_pos h112).trans (if_neg h113)))))))))))))))))))
                   ·refine WL.pv (Pu.fa rfl fo94_5) (WL.pv (Pu.load rfl ty3 ((f108.drop 7).w st.sub) rfl) (WL.pv (Pu.fa rfl fo94_5) (WL.pv (Pu.load rfl ty3 (((f105.le l107).drop 7).w st.sub) rfl) (WL.pv (Pu.ine rfl rfl) (WL.pv (Pu.pickF rfl rfl) (WL.mv rfl ?_))))))
                    refine WL.splitP 175 rfl nT nF (fun h114 => ?_) (fun h114 => ?_)
                    ·refine WL.of (WL.of (WL.of (WL.of (WL.of (WL.of (WL.pv (Pu.pickT rfl rfl) (WL.nt ?_)))))))
                     refine CW.condT rfl ?_
                     refine CW.seq (CW.reg (WL.as rfl (WL.nt ?_)))
                     refine CW.ret (QX.blkR (QX.thenR (QX.thenR (QX.blkR (QX.thenR (QX.thenR (finA Tryz.results25 st (.tmp rfl .nil) ?_)))))))
                     exact vb ((if_pos h11).trans ((if_pos h12).trans ((if_pos h13).trans ((if_pos h15).trans ((if_pos h17).trans ((if_pos h20).trans ((if_pos h23).trans ((if_pos h26).trans ((if_pos h29).trans ((if_pos h32).trans ((if_pos h35).trans ((lk_inr e67).trans (lk_inl ((Eq.symm e73).trans ((if_pos h109).trans ((if_pos h110).trans ((if_pos h111).trans ((if_pos h112).trans ((if_pos h113).trans (if_neg h114))))))))))))))))))))
                    ·refine WL.pv (Pu.fa rfl fo94_6) (WL.pv (Pu.load rfl ty92 ((f108.drop 8).w st.sub) rfl) (WL.pv (Pu.fa rfl fo94_6) (WL.pv (Pu.load rfl ty92 (((f105.le l107).drop 8).w st.sub) rfl) ?_)))
                     refine WL.callv rfl rfl en95 rfl rfl st (c95 ((lg a0.listeners.l r68).needs) ((lg a1.listeners.l r68).needs) st.sub (k83.needs.le ((((((l92.trans l95).trans l97).trans l99).trans l101).trans l104).trans l107)) (k88.needs.le ((((((l92.trans l95).trans l97).trans l99).trans l101).trans l104).trans l107))) ?_
                     intro W115 st
                     refine WL.pv (Pu.notb rfl) (WL.pv (Pu.pickF rfl rfl) (WL.nt ?_))
                     refine CW.condP 182 rfl mT mF (fun h116 => ?_) (fun h116 => ?_)
                     ·refine CW.seq (CW.reg (WL.as rfl (WL.nt ?_)))
                      refine CW.ret (QX.blkR (QX.thenR (QX.thenR (QX.blkR (QX.thenR (QX.thenR (finA Tryz.results25 st (.tmp rfl .nil) ?_)))))))
                      exact vb ((if_pos h11).trans ((if_pos h12).trans ((if_pos h13).trans ((if_pos h15).trans ((if_pos h17).trans ((if_pos h20).trans ((if_pos h23).trans ((if_pos h26).trans ((if_pos h29).trans ((if_pos h32).trans ((if_pos h35).trans ((lk_inr e67).trans (lk_inl ((Eq.symm e73).trans ((if_pos h109).trans ((if_pos h110).trans ((if_pos h111).trans ((if_pos h112).trans ((if_pos h113).trans ((if_pos h114).trans (if_neg h116)))))))))))))))))))))
                     ·refine CW.skip (QX.blkN (QX.thenN ?_))
                      refine CW.reg (WL.mv rfl (WL.pv (Pu.iadd rfl rfl (c := r68 + 1) (w64 (by omega) (by omega))) (WL.as rfl ?_)))
                      refine WL.nil (QX.round ⟨n69, r68 + 1⟩ ?_ (Nat.lt_succ_self _) (.cons rfl (.cons rfl (.cons rfl (.nil _)))))
                      exact ⟨⟨_, st, (((((((l71.trans l92).trans l95).trans l97).trans l99).trans l101).trans l104).trans l107)⟩, (by first|omega|simp<;>omega), (by first|omega|simp<;>omega), (by first|omega|simp<;>omega), Eq.symm ((Eq.symm e73).trans ((if_pos h109).trans ((if_pos h110).trans ((if_pos h111).trans ((if_pos h112).trans ((if_pos h113).trans ((if_pos h114).trans (if_pos h116))))))))⟩
              ·refine WO.alloco (c := #[.string (⟨#[]⟩ : ByteArray), .int .i64 0, .bool false, .string (⟨#[]⟩ : ByteArray), .int .i64 0, .string (⟨#[]⟩ : ByteArray), .string (⟨#[]⟩ : ByteArray), .int .i64 0, .slice none 0 0]) 11 rfl rfl rfl ze94 rfl (fun b _ H' l => good_grew ((Le.refl _).trans l) (fun _ h => .tail _ (h))) ?_
               intro b117 H118 l119
               refine WS.one (i := 10) (by kernel_rfl) ?_
               refine WO.alloco (c := #[.string (⟨#[]⟩ : ByteArray), .int .i64 0, .bool false, .string (⟨#[]⟩ : ByteArray), .int .i64 0, .string (⟨#[]⟩ : ByteArray), .string (⟨#[]⟩ : ByteArray), .int .i64 0, .slice none 0 0]) 10 rfl rfl rfl ze94 rfl (fun b _ H' l => good_grew (l119.trans l) (fun _ h => .tail _ (.tail _ (h)))) ?_
               intro b120 H121 l122
               refine WS.one (i := 12) (by kernel_rfl) ?_
               refine WO.store (o := 0) (c' := [.string ((lg a0.listeners.l r68).name), .int .i64 ((lg a0.listeners.l r68).port), .bool ((lg a0.listeners.l r68).tls), .string ((lg a0.listeners.l r68).host), .int .i64 (((lg a0.listeners.l r68).cert).kind), .string (((lg a0.listeners.l r68).cert).space), .string (((lg a0.listeners.l r68).cert).name), .int .i64 ((lg a0.listeners.l r68).frm), ((lg a0.listeners.l r68).needs).v]) 12 rfl rfl (fun _ H' l => good_grew ((l119.trans l122).trans l) (fun _ h => .tail _ (.tail _ (h)))) rfl rfl rfl ty94 rfl (Enc.one (α := Listener) _) rfl rfl ?_
               intro H123 l124
               refine WS.one (i := 13) (by kernel_rfl) ?_
               refine WO.front2 ?_
               refine WO.store (o := 0) (c' := [.string ((lg a1.listeners.l r68).name), .int .i64 ((lg a1.listeners.l r68).port), .bool ((lg a1.listeners.l r68).tls), .string ((lg a1.listeners.l r68).host), .int .i64 (((lg a1.listeners.l r68).cert).kind), .string (((lg a1.listeners.l r68).cert).space), .string (((lg a1.listeners.l r68).cert).name), .int .i64 ((lg a1.listeners.l r68).frm), ((lg a1.listeners.l r68).needs).v]) 13 rfl rfl (fun _ H' l => good_grew (((l119.trans l122).trans l124).trans l) (fun _ h => .tail _ (.tail _ (h)))) rfl rfl rfl ty94 rfl (Enc.one (α := Listener) _) rfl rfl ?_
               intro H125 l126
               refine WS.fin (by kernel_rfl) (fun W129 H127 st l128 => ?_)
               obtain ⟨H130, st, l131, f132⟩ := st.keepbox
               obtain ⟨H133, st, l134, f135⟩ := st.keepbox
               refine QX.thenN (CW.seq (CW.reg (WL.pv (Pu.fa rfl fo94_0) (WL.pv (Pu.load rfl ty9 ((f135.drop 0).w st.sub) rfl) (WL.pv (Pu.fa rfl fo94_0) (WL.pv (Pu.load rfl ty9 (((f132.le l134).drop 0).w st.sub) rfl) (WL.pv (Pu.sne rfl rfl) (WL.mv rfl ?_))))))))
               refine WL.splitP 140 rfl nT nF (fun h136 => ?_) (fun h136 => ?_)
               ·refine WL.of (WL.of (WL.of (WL.of (WL.of (WL.pv (Pu.pickT rfl rfl) (WL.mv rfl (WL.of (WL.of (WL.of ?_)))))))))
                refine WL.of (WL.of (WL.pv (Pu.pickT rfl rfl) (WL.mv rfl (WL.of (WL.of (WL.of (WL.of (WL.of (WL.pv (Pu.pickT rfl rfl) ?_)))))))))
                refine WL.mv rfl (WL.of (WL.of (WL.of (WL.of (WL.of (WL.pv (Pu.pickT rfl rfl) (WL.mv rfl (WL.of (WL.of ?_)))))))))
                refine WL.of (WL.of (WL.of (WL.pv (Pu.pickT rfl rfl) (WL.mv rfl (WL.of (WL.of (WL.of (WL.of (WL.of ?_)))))))))
                refine WL.of (WL.pv (Pu.pickT rfl rfl) (WL.nt ?_))
                refine CW.condT rfl ?_
                refine CW.seq (CW.reg (WL.as rfl (WL.nt ?_)))
                refine CW.ret (QX.blkR (QX.thenR (QX.thenR (QX.blkR (QX.thenR (QX.thenR (finA Tryz.results25 st (.tmp rfl .nil) ?_)))))))
                exact vb ((if_pos h11).trans ((if_pos h12).trans ((if_pos h13).trans ((if_pos h15).trans ((if_pos h17).trans ((if_pos h20).trans ((if_pos h23).trans ((if_pos h26).trans ((if_pos h29).trans ((if_pos h32).trans ((if_pos h35).trans ((lk_inr e67).trans (lk_inl ((Eq.symm e73).trans (if_neg h136)))))))))))))))
               ·refine WL.pv (Pu.fa rfl fo94_1) (WL.pv (Pu.load rfl ty3 ((f135.drop 1).w st.sub) rfl) (WL.pv (Pu.fa rfl fo94_1) (WL.pv (Pu.load rfl ty3 (((f132.le l134).drop 1).w st.sub) rfl) (WL.pv (Pu.ine rfl rfl) (WL.pv (Pu.pickF rfl rfl) (WL.mv rfl ?_))))))
                refine WL.splitP 147 rfl nT nF (fun h137 => ?_) (fun h137 => ?_)
                ·refine WL.of (WL.of (WL.of (WL.of (WL.of (WL.pv (Pu.pickT rfl rfl) (WL.mv rfl (WL.of (WL.of (WL.of ?_)))))))))
                 refine WL.of (WL.of (WL.pv (Pu.pickT rfl rfl) (WL.mv rfl (WL.of (WL.of (WL.of (WL.of (WL.of (WL.pv (Pu.pickT rfl rfl) ?_)))))))))
                 refine WL.mv rfl (WL.of (WL.of (WL.of (WL.of (WL.of (WL.pv (Pu.pickT rfl rfl) (WL.mv rfl (WL.of (WL.of ?_)))))))))
                 refine WL.of (WL.of (WL.of (WL.of (WL.pv (Pu.pickT rfl rfl) (WL.nt ?_)))))
                 refine CW.condT rfl ?_
                 refine CW.seq (CW.reg (WL.as rfl (WL.nt ?_)))
                 refine CW.ret (QX.blkR (QX.thenR (QX.thenR (QX.blkR (QX.thenR (QX.thenR (finA Tryz.results25 st (.tmp rfl .nil) ?_)))))))
                 exact vb ((if_pos h11).trans ((if_pos h12).trans ((if_pos h13).trans ((if_pos h15).trans ((if_pos h17).trans ((if_pos h20).trans ((if_pos h23).trans ((if_pos h26).trans ((if_pos h29).trans ((if_pos h32).trans ((if_pos h35).trans ((lk_inr e67).trans (lk_inl ((Eq.symm e73).trans ((if_pos h136).trans (if_neg h137))))))))))))))))
                ·refine WL.pv (Pu.fa rfl fo94_2) (WL.pv (Pu.load rfl ty4 ((f135.drop 2).w st.sub) rfl) (WL.pv (Pu.fa rfl fo94_2) (WL.pv (Pu.load rfl ty4 (((f132.le l134).drop 2).w st.sub) rfl) (WL.pv (Pu.bne rfl rfl Tryz.underlying4) (WL.pv (Pu.pickF rfl rfl) (WL.mv rfl ?_))))))
                 refine WL.splitP 154 rfl mT mF (fun h138 => ?_) (fun h138 => ?_)
                 ·refine WL.of (WL.of (WL.of (WL.of (WL.of (WL.pv (Pu.pickT rfl rfl) (WL.mv rfl (WL.of (WL.of (WL.of ?_)))))))))
                  refine WL.of (WL.of (WL.pv (Pu.pickT rfl rfl) (WL.mv rfl (WL.of (WL.of (WL.of (WL.of (WL.of (WL.pv (Pu.pickT rfl rfl) ?_)))))))))
                  refine WL.mv rfl (WL.of (WL.of (WL.of (WL.of (WL.of (WL.of (WL.pv (Pu.pickT rfl rfl) (WL.nt ?_))))))))
                  refine CW.condT rfl ?_
                  refine CW.seq (CW.reg (WL.as rfl (WL.nt ?_)))
                  refine CW.ret (QX.blkR (QX.thenR (QX.thenR (QX.blkR (QX.thenR (QX.thenR (finA Tryz.results25 st (.tmp rfl .nil) ?_)))))))
                  exact vb ((if_pos h11).trans ((if_pos h12).trans ((if_pos h13).trans ((if_pos h15).trans ((if_pos h17).trans ((if_pos h20).trans ((if_pos h23).trans ((if_pos h26).trans ((if_pos h29).trans ((if_pos h32).trans ((if_pos h35).trans ((lk_inr e67).trans (lk_inl ((Eq.symm e73).trans ((if_pos h136).trans ((if_pos h137).trans (if_neg h138)))))))))))))))))
                 ·refine WL.pv (Pu.fa rfl fo94_3) (WL.pv (Pu.load rfl ty9 ((f135.drop 3).w st.sub) rfl) (WL.pv (Pu.fa rfl fo94_3) (WL.pv (Pu.load rfl ty9 (((f132.le l134).drop 3).w st.sub) rfl) (WL.pv (Pu.sne rfl rfl) (WL.pv (Pu.pickF rfl rfl) (WL.mv rfl ?_))))))
                  refine WL.splitP 161 rfl nT nF (fun h139 => ?_) (fun h139 => ?_)
                  ·refine WL.of (WL.of (WL.of (WL.of (WL.of (WL.pv (Pu.pickT rfl rfl) (WL.mv rfl (WL.of (WL.of (WL.of ?_)))))))))
                   refine WL.of (WL.of (WL.pv (Pu.pickT rfl rfl) (WL.mv rfl (WL.of (WL.of (WL.of (WL.of (WL.of (WL.of ?_)))))))))
                   refine WL.pv (Pu.pickT rfl rfl) (WL.nt ?_)
                   refine CW.condT rfl ?_
                   refine CW.seq (CW.reg (WL.as rfl (WL.nt ?_)))
                   refine CW.ret (QX.blkR (QX.thenR (QX.thenR (QX.blkR (QX.thenR (QX.thenR (finA Tryz.results25 st (.tmp rfl .nil) ?_)))))))
                   exact vb ((if_pos h11).trans ((if_pos h12).trans ((if_pos h13).trans ((if_pos h15).trans ((if_pos h17).trans ((if_pos h20).trans ((if_pos h23).trans ((if_pos h26).trans ((if_pos h29).trans ((if_pos h32).trans ((if_pos h35).trans ((lk_inr e67).trans (lk_inl ((Eq.symm e73).trans ((if_pos h136).trans ((if_pos h137).trans ((if_pos h138).trans (if_neg h139))))))))))))))))))
                  ·refine WL.pv (Pu.fa rfl fo94_4) (WL.pv (Pu.load (v := Ref.v ((lg a0.listeners.l r68).cert)) rfl ty23 ((f135.drop 4).w st.sub) rfl) (WL.pv (Pu.fa rfl fo94_4) (WL.pv (Pu.load (v := Ref.v ((lg a1.listeners.l r68).cert)) rfl ty23 (((f132.le l134).drop 4).w st.sub) rfl) (WL.pv (Pu.bin rfl rfl (eqg23 _ ((lg a0.listeners.l r68).cert) ((lg a1.listeners.l r68).cert)) (ne23 ((lg a0.listeners.l r68).cert) ((lg a1.listeners.l r68).cert))) (WL.pv (Pu.pickF rfl rfl) (WL.mv rfl ?_))))))
                   refine WL.splitP 168 rfl nT nF (fun h140 => ?_) (fun h140 => ?_)
                   ·refine WL.of (WL.of (WL.of (WL.of (WL.of (WL.pv (Pu.pickT rfl rfl) (WL.mv rfl (WL.of (WL.of (WL.of ?_)))))))))
                    refine WL.of (WL.of (WL.of (WL.pv (Pu.pickT rfl rfl) (WL.nt ?_))))
                    refine CW.condT rfl ?_
                    refine CW.seq (CW.reg (WL.as rfl (WL.nt ?_)))
                    refine CW.ret (QX.blkR (QX.thenR (QX.thenR (QX.blkR (QX.thenR (QX.thenR (finA Tryz.results25 st (.tmp rfl .nil) ?_)))))))
                    exact vb ((if_pos h11).trans ((if_pos h12).trans ((if_pos h13).trans ((if_pos h15).trans ((if_pos h17).trans ((if_pos h20).trans ((if_pos h23).trans ((if_pos h26).trans ((if_pos h29).trans ((if_pos h32).trans ((if_pos h35).trans ((lk_inr e67).trans (lk_inl ((Eq.symm e73).trans ((if_pos h136).trans ((if_pos h137).trans ((if_pos h138).trans ((if_pos h139).trans (if_neg h140)))))))))))))))))))
                   ·refine WL.pv (Pu.fa rfl fo94_5) (WL.pv (Pu.load rfl ty3 ((f135.drop 7).w st.sub) rfl) (WL.pv (Pu.fa rfl fo94_5) (WL.pv (Pu.load rfl ty3 (((f132.le l134).drop 7).w st.sub) rfl) (WL.pv (Pu.ine rfl rfl) (WL.pv (Pu.pickF rfl rfl) (WL.mv rfl ?_))))))
                    refine WL.splitP 175 rfl nT nF (fun h141 => ?_) (fun h141 => ?_)
                    ·refine WL.of (WL.of (WL.of (WL.of (WL.of (WL.of (WL.pv (Pu.pickT rfl rfl) (WL.nt ?_)))))))
                     refine CW.condT rfl ?_
                     refine CW.seq (CW.reg (WL.as rfl (WL.nt ?_)))
                     refine CW.ret (QX.blkR (QX.thenR (QX.thenR (QX.blkR (QX.thenR (QX.thenR (finA Tryz.results25 st (.tmp rfl .nil) ?_)))))))
                     exact vb ((if_pos h11).trans ((if_pos h12).trans ((if_pos h13).trans ((if_pos h15).trans ((if_pos h17).trans ((if_pos h20).trans ((if_pos h23).trans ((if_pos h26).trans ((if_pos h29).trans ((if_pos h32).trans ((if_pos h35).trans ((lk_inr e67).trans (lk_inl ((Eq.symm e73).trans ((if_pos h136).trans ((if_pos h137).trans ((if_pos h138).trans ((if_pos h139).trans ((if_pos h140).trans (if_neg h141))))))))))))))))))))
                    ·refine WL.pv (Pu.fa rfl fo94_6) (WL.pv (Pu.load rfl ty92 ((f135.drop 8).w st.sub) rfl) (WL.pv (Pu.fa rfl fo94_6) (WL.pv (Pu.load rfl ty92 (((f132.le l134).drop 8).w st.sub) rfl) ?_)))
                     refine WL.callv rfl rfl en95 rfl rfl st (c95 ((lg a0.listeners.l r68).needs) ((lg a1.listeners.l r68).needs) st.sub (k83.needs.le ((((((l119.trans l122).trans l124).trans l126).trans l128).trans l131).trans l134)) (k88.needs.le ((((((l119.trans l122).trans l124).trans l126).trans l128).trans l131).trans l134))) ?_
                     intro W142 st
                     refine WL.pv (Pu.notb rfl) (WL.pv (Pu.pickF rfl rfl) (WL.nt ?_))
                     refine CW.condP 182 rfl mT mF (fun h143 => ?_) (fun h143 => ?_)
                     ·refine CW.seq (CW.reg (WL.as rfl (WL.nt ?_)))
                      refine CW.ret (QX.blkR (QX.thenR (QX.thenR (QX.blkR (QX.thenR (QX.thenR (finA Tryz.results25 st (.tmp rfl .nil) ?_)))))))
                      exact vb ((if_pos h11).trans ((if_pos h12).trans ((if_pos h13).trans ((if_pos h15).trans ((if_pos h17).trans ((if_pos h20).trans ((if_pos h23).trans ((if_pos h26).trans ((if_pos h29).trans ((if_pos h32).trans ((if_pos h35).trans ((lk_inr e67).trans (lk_inl ((Eq.symm e73).trans ((if_pos h136).trans ((if_pos h137).trans ((if_pos h138).trans ((if_pos h139).trans ((if_pos h140).trans ((if_pos h141).trans (if_neg h143)))))))))))))))))))))
                     ·refine CW.skip (QX.blkN (QX.thenN ?_))
                      refine CW.reg (WL.mv rfl (WL.pv (Pu.iadd rfl rfl (c := r68 + 1) (w64 (by omega) (by omega))) (WL.as rfl ?_)))
                      refine WL.nil (QX.round ⟨n69, r68 + 1⟩ ?_ (Nat.lt_succ_self _) (.cons rfl (.cons rfl (.cons rfl (.nil _)))))
                      exact ⟨⟨_, st, (((((((l71.trans l119).trans l122).trans l124).trans l126).trans l128).trans l131).trans l134)⟩, (by first|omega|simp<;>omega), (by first|omega|simp<;>omega), (by first|omega|simp<;>omega), Eq.symm ((Eq.symm e73).trans ((if_pos h136).trans ((if_pos h137).trans ((if_pos h138).trans ((if_pos h139).trans ((if_pos h140).trans ((if_pos h141).trans (if_pos h143))))))))⟩
             ·obtain rfl : N77 = 0 := by omega
              refine CW.exit (QX.thenE (QX.thenE (QX.hit (QX.meets () ?_ (.cons rfl (.cons rfl (.nil _)))))))
              exact ⟨⟨_, st, l71⟩, Eq.symm e73⟩
            rintro _ W148 ⟨⟨H146, st, l147⟩, e149⟩
            show QX _ _ _ [(2, Value.pointer (some (⟨b1, 0, none⟩ : Addr))), (3, Value.pointer (some (⟨b6, 0, none⟩ : Addr)))] _
            refine QX.thenN (CW.seq (CW.seq (CW.reg (WL.as rfl (WL.nt ?_)))))
            refine (CW.cuts (fun (s : Unit) W => (∃ H', St w W H H' [] ∧ Le H146 H') ∧ m25_l2 a0 a1 (((a0.parents.l.length : Int) - 0).toNat) 0 = .inr ()) (fun (s : Unit) => [(2, Value.pointer (some (⟨b1, 0, none⟩ : Addr))), (3, Value.pointer (some (⟨b6, 0, none⟩ : Addr)))]) ?_ ?_)
            ·refine CW.blk (CW.loop (fun (s : Nat × Int) W => (∃ H', St w W H H' [] ∧ Le H146 H') ∧ 0 ≤ s.2 ∧ s.2 ≤ (a0.parents.l.length : Int) ∧ s.1 = ((a0.parents.l.length : Int) - s.2).toNat ∧ m25_l2 a0 a1 s.1 s.2 = m25_l2 a0 a1 (((a0.parents.l.length : Int) - 0).toNat) 0) (fun (s : Nat × Int) => [(2, Value.pointer (some (⟨b1, 0, none⟩ : Addr))), (3, Value.pointer (some (⟨b6, 0, none⟩ : Addr))), (9, Value.int .i64 s.2)]) (fun s => s.1) ⟨((a0.parents.l.length : Int) - 0).toNat, 0⟩ ⟨⟨_, st, Le.refl _⟩, (by first|omega|simp<;>omega), (by first|omega|simp<;>omega), rfl, rfl⟩ (.cons rfl (.cons rfl (.cons rfl (.nil _)))) ?_)
             rintro ⟨N159, r150⟩ W154 ⟨⟨H152, st, l153⟩, g176, g177, g158, e155⟩
             replace g176 : 0 ≤ r150 := g176
             replace g177 : r150 ≤ (a0.parents.l.length : Int) := g177
             replace g158 : N159 = ((a0.parents.l.length : Int) - r150).toNat := g158
             replace e155 : m25_l2 a0 a1 N159 r150 = m25_l2 a0 a1 (((a0.parents.l.length : Int) - 0).toNat) 0 := e155
             show CW _ _ _ _ [(2, Value.pointer (some (⟨b1, 0, none⟩ : Addr))), (3, Value.pointer (some (⟨b6, 0, none⟩ : Addr))), (9, Value.int .i64 r150)] _
             refine CW.seq (CW.seq (CW.reg (WL.mv rfl (WL.pv (Pu.fa rfl fo32_6) (WL.pv (Pu.load rfl ty27 (((f5.le (((l9.trans l65).trans l147).trans l153)).drop 8).w st.sub) rfl) ?_)))))
             have z160 : a0.parents.l.length ≤ 1048576 := (k0p.parents.le ((((l4.trans l9).trans l65).trans l147).trans l153)).top
             refine WL.pv (Pu.lens (n := a0.parents.l.length) rfl sl27) (WL.pv (Pu.ilt rfl rfl) (WL.nt ?_))
             refine CW.condP 187 rfl dT dF (fun h161 => ?_) (fun h161 => ?_)
             ·obtain ⟨n151, rfl⟩ : ∃ k, N159 = k + 1 := ⟨N159 - 1, by omega⟩
              refine CW.skip (QX.thenN ?_)
              refine CW.seq ?_
              refine CW.blk ?_
              refine CW.seq ?_
              refine CW.regS (C := Cl w H152 []) (tail := []) (S := Grew w H H152 []) mixed (fun W' h1 h2 h3 h4 => grew_start st h1 h2 h3 h4) (n := 11) rfl ?_
              refine WS.pk 0 rfl gg (fun W hC => Pu.fa rfl fo32_6) ?_
              refine WS.pk 1 rfl gg (fun W hC => Pu.load rfl ty27 (((f5.le (((l9.trans l65).trans l147).trans l153)).drop 8).w hC.1) rfl) ?_
              refine WS.pk 2 rfl gg (fun W hC => Pu.move rfl) ?_
              have y162 := lg_get (l := a0.parents.l) (i := r150) (by omega) (by omega)
              have k165 : Parent.Ok 1048576 H152 (lg a0.parents.l r150) := ((k0p.parents.le ((((l4.trans l9).trans l65).trans l147).trans l153)).get _ _ y162).2
              obtain ⟨ad163, qa166, f164⟩ := ((k0p.parents.le ((((l4.trans l9).trans l65).trans l147).trans l153)).get _ _ y162).1
              refine WS.pk 3 rfl gg (fun W hC => Pu.idx0 rfl rfl sl27 (by first|omega|simp<;>omega) (by first|omega|simp<;>omega) qa166) ?_
              refine WS.pk 4 rfl gg (fun W hC => Pu.load (v := Parent.v (lg a0.parents.l r150)) rfl ty99 (f164.w hC.1) rfl) ?_
              refine WS.pk 5 rfl gg (fun W hC => Pu.fa rfl fo32_6) ?_
              refine WS.pk 6 rfl gg (fun W hC => Pu.load rfl ty27 (((f10.le ((l65.trans l147).trans l153)).drop 8).w hC.1) rfl) ?_
              refine WS.pk 7 rfl gg (fun W hC => Pu.move rfl) ?_
              have y167 := lg_get (l := a1.parents.l) (i := r150) (by omega) (by omega)
              have k170 : Parent.Ok 1048576 H152 (lg a1.parents.l r150) := ((k1p.parents.le ((((l4.trans l9).trans l65).trans l147).trans l153)).get _ _ y167).2
              obtain ⟨ad168, qa171, f169⟩ := ((k1p.parents.le ((((l4.trans l9).trans l65).trans l147).trans l153)).get _ _ y167).1
              refine WS.pk 8 rfl gg (fun W hC => Pu.idx0 rfl rfl sl27 (by first|omega|simp<;>omega) (by first|omega|simp<;>omega) qa171) ?_
              refine WS.pk 9 rfl gg (fun W hC => Pu.load (v := Parent.v (lg a1.parents.l r150)) rfl ty99 (f169.w hC.1) rfl) ?_
              refine WS.pk 10 rfl gg (fun W hC => Pu.bin rfl rfl (eqg99 _ (lg a0.parents.l r150) (lg a1.parents.l r150)) (ne99 (lg a0.parents.l r150) (lg a1.parents.l r150))) ?_
              refine WS.fin (by kernel_rfl) (fun W174 H172 st l173 => ?_)
              refine QX.thenN ?_
              refine CW.condP 200 rfl nT nF (fun h175 => ?_) (fun h175 => ?_)
              ·refine CW.seq (CW.reg (WL.as rfl (WL.nt ?_)))
               refine CW.ret (QX.blkR (QX.thenR (QX.thenR (QX.blkR (QX.thenR (QX.thenR (finA Tryz.results25 st (.tmp rfl .nil) ?_)))))))
               exact vb ((if_pos h11).trans ((if_pos h12).trans ((if_pos h13).trans ((if_pos h15).trans ((if_pos h17).trans ((if_pos h20).trans ((if_pos h23).trans ((if_pos h26).trans ((if_pos h29).trans ((if_pos h32).trans ((if_pos h35).trans ((lk_inr e67).trans ((lk_inr e149).trans (lk_inl ((Eq.symm e155).trans (if_neg h175))))))))))))))))
              ·refine CW.skip (QX.blkN (QX.thenN ?_))
               refine CW.reg (WL.mv rfl (WL.pv (Pu.iadd rfl rfl (c := r150 + 1) (w64 (by omega) (by omega))) (WL.as rfl ?_)))
               refine WL.nil (QX.round ⟨n151, r150 + 1⟩ ?_ (Nat.lt_succ_self _) (.cons rfl (.cons rfl (.cons rfl (.nil _)))))
               exact ⟨⟨_, st, (l153.trans l173)⟩, (by first|omega|simp<;>omega), (by first|omega|simp<;>omega), (by first|omega|simp<;>omega), Eq.symm ((Eq.symm e155).trans (if_pos h175))⟩
             ·obtain rfl : N159 = 0 := by omega
              refine CW.exit (QX.thenE (QX.thenE (QX.hit (QX.meets () ?_ (.cons rfl (.cons rfl (.nil _)))))))
              exact ⟨⟨_, st, l153⟩, Eq.symm e155⟩
            rintro _ W180 ⟨⟨H178, st, l179⟩, e181⟩
            show QX _ _ _ [(2, Value.pointer (some (⟨b1, 0, none⟩ : Addr))), (3, Value.pointer (some (⟨b6, 0, none⟩ : Addr)))] _
            refine QX.thenN (CW.seq (CW.seq (CW.reg (WL.as rfl (WL.nt ?_)))))
            refine (CW.cuts (fun (s : Unit) W => (∃ H', St w W H H' [] ∧ Le H178 H') ∧ m25_l3 a0 a1 (((a0.frm.l.length : Int) - 0).toNat) 0 = .inr ()) (fun (s : Unit) => [(2, Value.pointer (some (⟨b1, 0, none⟩ : Addr))), (3, Value.pointer (some (⟨b6, 0, none⟩ : Addr)))]) ?_ ?_)
            ·refine CW.blk (CW.loop (fun (s : Nat × Int) W => (∃ H', St w W H H' [] ∧ Le H178 H') ∧ 0 ≤ s.2 ∧ s.2 ≤ (a0.frm.l.length : Int) ∧ s.1 = ((a0.frm.l.length : Int) - s.2).toNat ∧ m25_l3 a0 a1 s.1 s.2 = m25_l3 a0 a1 (((a0.frm.l.length : Int) - 0).toNat) 0) (fun (s : Nat × Int) => [(2, Value.pointer (some (⟨b1, 0, none⟩ : Addr))), (3, Value.pointer (some (⟨b6, 0, none⟩ : Addr))), (10, Value.int .i64 s.2)]) (fun s => s.1) ⟨((a0.frm.l.length : Int) - 0).toNat, 0⟩ ⟨⟨_, st, Le.refl _⟩, (by first|omega|simp<;>omega), (by first|omega|simp<;>omega), rfl, rfl⟩ (.cons rfl (.cons rfl (.cons rfl (.nil _)))) ?_)
             rintro ⟨N191, r182⟩ W186 ⟨⟨H184, st, l185⟩, g208, g209, g190, e187⟩
             replace g208 : 0 ≤ r182 := g208
             replace g209 : r182 ≤ (a0.frm.l.length : Int) := g209
             replace g190 : N191 = ((a0.frm.l.length : Int) - r182).toNat := g190
             replace e187 : m25_l3 a0 a1 N191 r182 = m25_l3 a0 a1 (((a0.frm.l.length : Int) - 0).toNat) 0 := e187
             show CW _ _ _ _ [(2, Value.pointer (some (⟨b1, 0, none⟩ : Addr))), (3, Value.pointer (some (⟨b6, 0, none⟩ : Addr))), (10, Value.int .i64 r182)] _
             refine CW.seq (CW.seq (CW.reg (WL.mv rfl (WL.pv (Pu.fa rfl fo32_9) (WL.pv (Pu.load rfl ty30 (((f5.le ((((l9.trans l65).trans l147).trans l179).trans l185)).drop 11).w st.sub) rfl) ?_)))))
             have z192 : a0.frm.l.length ≤ 1048576 := (k0p.frm.le (((((l4.trans l9).trans l65).trans l147).trans l179).trans l185)).top
             refine WL.pv (Pu.lens (n := a0.frm.l.length) rfl sl30) (WL.pv (Pu.ilt rfl rfl) (WL.nt ?_))
             refine CW.condP 205 rfl dT dF (fun h193 => ?_) (fun h193 => ?_)
             ·obtain ⟨n183, rfl⟩ : ∃ k, N191 = k + 1 := ⟨N191 - 1, by omega⟩
              refine CW.skip (QX.thenN ?_)
              refine CW.seq ?_
              refine CW.blk ?_
              refine CW.seq ?_
              refine CW.regS (C := Cl w H184 []) (tail := []) (S := Grew w H H184 []) mixed (fun W' h1 h2 h3 h4 => grew_start st h1 h2 h3 h4) (n := 11) rfl ?_
              refine WS.pk 0 rfl gg (fun W hC => Pu.fa rfl fo32_9) ?_
              refine WS.pk 1 rfl gg (fun W hC => Pu.load rfl ty30 (((f5.le ((((l9.trans l65).trans l147).trans l179).trans l185)).drop 11).w hC.1) rfl) ?_
              refine WS.pk 2 rfl gg (fun W hC => Pu.move rfl) ?_
              have y194 := lg_get (l := a0.frm.l) (i := r182) (by omega) (by omega)
              have k197 : Side.Ok 1048576 H184 (lg a0.frm.l r182) := ((k0p.frm.le (((((l4.trans l9).trans l65).trans l147).trans l179).trans l185)).get _ _ y194).2
              obtain ⟨ad195, qa198, f196⟩ := ((k0p.frm.le (((((l4.trans l9).trans l65).trans l147).trans l179).trans l185)).get _ _ y194).1
              refine WS.pk 3 rfl gg (fun W hC => Pu.idx0 rfl rfl sl30 (by first|omega|simp<;>omega) (by first|omega|simp<;>omega) qa198) ?_
              refine WS.pk 4 rfl gg (fun W hC => Pu.load (v := Side.v (lg a0.frm.l r182)) rfl ty41 (f196.w hC.1) rfl) ?_
              refine WS.pk 5 rfl gg (fun W hC => Pu.fa rfl fo32_9) ?_
              refine WS.pk 6 rfl gg (fun W hC => Pu.load rfl ty30 (((f10.le (((l65.trans l147).trans l179).trans l185)).drop 11).w hC.1) rfl) ?_
              refine WS.pk 7 rfl gg (fun W hC => Pu.move rfl) ?_
              have y199 := lg_get (l := a1.frm.l) (i := r182) (by omega) (by omega)
              have k202 : Side.Ok 1048576 H184 (lg a1.frm.l r182) := ((k1p.frm.le (((((l4.trans l9).trans l65).trans l147).trans l179).trans l185)).get _ _ y199).2
              obtain ⟨ad200, qa203, f201⟩ := ((k1p.frm.le (((((l4.trans l9).trans l65).trans l147).trans l179).trans l185)).get _ _ y199).1
              refine WS.pk 8 rfl gg (fun W hC => Pu.idx0 rfl rfl sl30 (by first|omega|simp<;>omega) (by first|omega|simp<;>omega) qa203) ?_
              refine WS.pk 9 rfl gg (fun W hC => Pu.load (v := Side.v (lg a1.frm.l r182)) rfl ty41 (f201.w hC.1) rfl) ?_
              refine WS.pk 10 rfl gg (fun W hC => Pu.bin rfl rfl (eqg41 _ (lg a0.frm.l r182) (lg a1.frm.l r182)) (ne41 (lg a0.frm.l r182) (lg a1.frm.l r182))) ?_
              refine WS.fin (by kernel_rfl) (fun W206 H204 st l205 => ?_)
              refine QX.thenN ?_
              refine CW.condP 218 rfl nT nF (fun h207 => ?_) (fun h207 => ?_)
              ·refine CW.seq (CW.reg (WL.as rfl (WL.nt ?_)))
               refine CW.ret (QX.blkR (QX.thenR (QX.thenR (QX.blkR (QX.thenR (QX.thenR (finA Tryz.results25 st (.tmp rfl .nil) ?_)))))))
               exact vb ((if_pos h11).trans ((if_pos h12).trans ((if_pos h13).trans ((if_pos h15).trans ((if_pos h17).trans ((if_pos h20).trans ((if_pos h23).trans ((if_pos h26).trans ((if_pos h29).trans ((if_pos h32).trans ((if_pos h35).trans ((lk_inr e67).trans ((lk_inr e149).trans ((lk_inr e181).trans (lk_inl ((Eq.symm e187).trans (if_neg h207)))))))))))))))))
              ·refine CW.skip (QX.blkN (QX.thenN ?_))
               refine CW.reg (WL.mv rfl (WL.pv (Pu.iadd rfl rfl (c := r182 + 1) (w64 (by omega) (by omega))) (WL.as rfl ?_)))
               refine WL.nil (QX.round ⟨n183, r182 + 1⟩ ?_ (Nat.lt_succ_self _) (.cons rfl (.cons rfl (.cons rfl (.nil _)))))
               exact ⟨⟨_, st, (l185.trans l205)⟩, (by first|omega|simp<;>omega), (by first|omega|simp<;>omega), (by first|omega|simp<;>omega), Eq.symm ((Eq.symm e187).trans (if_pos h207))⟩
             ·obtain rfl : N191 = 0 := by omega
              refine CW.exit (QX.thenE (QX.thenE (QX.hit (QX.meets () ?_ (.cons rfl (.cons rfl (.nil _)))))))
              exact ⟨⟨_, st, l185⟩, Eq.symm e187⟩
            rintro _ W212 ⟨⟨H210, st, l211⟩, e213⟩
            show QX _ _ _ [(2, Value.pointer (some (⟨b1, 0, none⟩ : Addr))), (3, Value.pointer (some (⟨b6, 0, none⟩ : Addr)))] _
            refine QX.thenN (CW.seq (CW.seq (CW.reg (WL.as rfl (WL.nt ?_)))))
            refine (CW.cuts (fun (s : Unit) W => (∃ H', St w W H H' [] ∧ Le H210 H') ∧ m25_l4 a0 a1 (((a0.to.l.length : Int) - 0).toNat) 0 = .inr ()) (fun (s : Unit) => [(2, Value.pointer (some (⟨b1, 0, none⟩ : Addr))), (3, Value.pointer (some (⟨b6, 0, none⟩ : Addr)))]) ?_ ?_)
            ·refine CW.blk (CW.loop (fun (s : Nat × Int) W => (∃ H', St w W H H' [] ∧ Le H210 H') ∧ 0 ≤ s.2 ∧ s.2 ≤ (a0.to.l.length : Int) ∧ s.1 = ((a0.to.l.length : Int) - s.2).toNat ∧ m25_l4 a0 a1 s.1 s.2 = m25_l4 a0 a1 (((a0.to.l.length : Int) - 0).toNat) 0) (fun (s : Nat × Int) => [(2, Value.pointer (some (⟨b1, 0, none⟩ : Addr))), (3, Value.pointer (some (⟨b6, 0, none⟩ : Addr))), (11, Value.int .i64 s.2)]) (fun s => s.1) ⟨((a0.to.l.length : Int) - 0).toNat, 0⟩ ⟨⟨_, st, Le.refl _⟩, (by first|omega|simp<;>omega), (by first|omega|simp<;>omega), rfl, rfl⟩ (.cons rfl (.cons rfl (.cons rfl (.nil _)))) ?_)
             rintro ⟨N223, r214⟩ W218 ⟨⟨H216, st, l217⟩, g240, g241, g222, e219⟩
             replace g240 : 0 ≤ r214 := g240
             replace g241 : r214 ≤ (a0.to.l.length : Int) := g241
             replace g222 : N223 = ((a0.to.l.length : Int) - r214).toNat := g222
             replace e219 : m25_l4 a0 a1 N223 r214 = m25_l4 a0 a1 (((a0.to.l.length : Int) - 0).toNat) 0 := e219
             show CW _ _ _ _ [(2, Value.pointer (some (⟨b1, 0, none⟩ : Addr))), (3, Value.pointer (some (⟨b6, 0, none⟩ : Addr))), (11, Value.int .i64 r214)] _
             refine CW.seq (CW.seq (CW.reg (WL.mv rfl (WL.pv (Pu.fa rfl fo32_10) (WL.pv (Pu.load rfl ty30 (((f5.le (((((l9.trans l65).trans l147).trans l179).trans l211).trans l217)).drop 12).w st.sub) rfl) ?_)))))
             have z224 : a0.to.l.length ≤ 1048576 := (k0p.to.le ((((((l4.trans l9).trans l65).trans l147).trans l179).trans l211).trans l217)).top
             refine WL.pv (Pu.lens (n := a0.to.l.length) rfl sl30) (WL.pv (Pu.ilt rfl rfl) (WL.nt ?_))
             refine CW.condP 223 rfl dT dF (fun h225 => ?_) (fun h225 => ?_)
             ·obtain ⟨n215, rfl⟩ : ∃ k, N223 = k + 1 := ⟨N223 - 1, by omega⟩
              refine CW.skip (QX.thenN ?_)
              refine CW.seq ?_
              refine CW.blk ?_
              refine CW.seq ?_
              refine CW.regS (C := Cl w H216 []) (tail := []) (S := Grew w H H216 []) mixed (fun W' h1 h2 h3 h4 => grew_start st h1 h2 h3 h4) (n := 11) rfl ?_
              refine WS.pk 0 rfl gg (fun W hC => Pu.fa rfl fo32_10) ?_
              refine WS.pk 1 rfl gg (fun W hC => Pu.load rfl ty30 (((f5.le (((((l9.trans l65).trans l147).trans l179).trans l211).trans l217)).drop 12).w hC.1) rfl) ?_
              refine WS.pk 2 rfl gg (fun W hC => Pu.move rfl) ?_
              have y226 := lg_get (l := a0.to.l) (i := r214) (by omega) (by omega)
              have k229 : Side.Ok 1048576 H216 (lg a0.to.l r214) := ((k0p.to.le ((((((l4.trans l9).trans l65).trans l147).trans l179).trans l211).trans l217)).get _ _ y226).2
              obtain ⟨ad227, qa230, f228⟩ := ((k0p.to.le ((((((l4.trans l9).trans l65).trans l147).trans l179).trans l211).trans l217)).get _ _ y226).1
              refine WS.pk 3 rfl gg (fun W hC => Pu.idx0 rfl rfl sl30 (by first|omega|simp<;>omega) (by first|omega|simp<;>omega) qa230) ?_
              refine WS.pk 4 rfl gg (fun W hC => Pu.load (v := Side.v (lg a0.to.l r214)) rfl ty41 (f228.w hC.1) rfl) ?_
              refine WS.pk 5 rfl gg (fun W hC => Pu.fa rfl fo32_10) ?_
              refine WS.pk 6 rfl gg (fun W hC => Pu.load rfl ty30 (((f10.le ((((l65.trans l147).trans l179).trans l211).trans l217)).drop 12).w hC.1) rfl) ?_
              refine WS.pk 7 rfl gg (fun W hC => Pu.move rfl) ?_
              have y231 := lg_get (l := a1.to.l) (i := r214) (by omega) (by omega)
              have k234 : Side.Ok 1048576 H216 (lg a1.to.l r214) := ((k1p.to.le ((((((l4.trans l9).trans l65).trans l147).trans l179).trans l211).trans l217)).get _ _ y231).2
              obtain ⟨ad232, qa235, f233⟩ := ((k1p.to.le ((((((l4.trans l9).trans l65).trans l147).trans l179).trans l211).trans l217)).get _ _ y231).1
              refine WS.pk 8 rfl gg (fun W hC => Pu.idx0 rfl rfl sl30 (by first|omega|simp<;>omega) (by first|omega|simp<;>omega) qa235) ?_
              refine WS.pk 9 rfl gg (fun W hC => Pu.load (v := Side.v (lg a1.to.l r214)) rfl ty41 (f233.w hC.1) rfl) ?_
              refine WS.pk 10 rfl gg (fun W hC => Pu.bin rfl rfl (eqg41 _ (lg a0.to.l r214) (lg a1.to.l r214)) (ne41 (lg a0.to.l r214) (lg a1.to.l r214))) ?_
              refine WS.fin (by kernel_rfl) (fun W238 H236 st l237 => ?_)
              refine QX.thenN ?_
              refine CW.condP 236 rfl nT nF (fun h239 => ?_) (fun h239 => ?_)
              ·refine CW.seq (CW.reg (WL.as rfl (WL.nt ?_)))
               refine CW.ret (QX.blkR (QX.thenR (QX.thenR (QX.blkR (QX.thenR (QX.thenR (finA Tryz.results25 st (.tmp rfl .nil) ?_)))))))
               exact vb ((if_pos h11).trans ((if_pos h12).trans ((if_pos h13).trans ((if_pos h15).trans ((if_pos h17).trans ((if_pos h20).trans ((if_pos h23).trans ((if_pos h26).trans ((if_pos h29).trans ((if_pos h32).trans ((if_pos h35).trans ((lk_inr e67).trans ((lk_inr e149).trans ((lk_inr e181).trans ((lk_inr e213).trans (lk_inl ((Eq.symm e219).trans (if_neg h239))))))))))))))))))
              ·refine CW.skip (QX.blkN (QX.thenN ?_))
               refine CW.reg (WL.mv rfl (WL.pv (Pu.iadd rfl rfl (c := r214 + 1) (w64 (by omega) (by omega))) (WL.as rfl ?_)))
               refine WL.nil (QX.round ⟨n215, r214 + 1⟩ ?_ (Nat.lt_succ_self _) (.cons rfl (.cons rfl (.cons rfl (.nil _)))))
               exact ⟨⟨_, st, (l217.trans l237)⟩, (by first|omega|simp<;>omega), (by first|omega|simp<;>omega), (by first|omega|simp<;>omega), Eq.symm ((Eq.symm e219).trans (if_pos h239))⟩
             ·obtain rfl : N223 = 0 := by omega
              refine CW.exit (QX.thenE (QX.thenE (QX.hit (QX.meets () ?_ (.cons rfl (.cons rfl (.nil _)))))))
              exact ⟨⟨_, st, l217⟩, Eq.symm e219⟩
            rintro _ W244 ⟨⟨H242, st, l243⟩, e245⟩
            show QX _ _ _ [(2, Value.pointer (some (⟨b1, 0, none⟩ : Addr))), (3, Value.pointer (some (⟨b6, 0, none⟩ : Addr)))] _
            refine QX.thenN (CW.seq (CW.seq (CW.reg (WL.as rfl (WL.nt ?_)))))
            refine (CW.cuts (fun (s : Unit) W => (∃ H', St w W H H' [] ∧ Le H242 H') ∧ m25_l5 a0 a1 (((a0.rules.l.length : Int) - 0).toNat) 0 = .inr ()) (fun (s : Unit) => []) ?_ ?_)
            ·refine CW.blk (CW.loop (fun (s : Nat × Int) W => (∃ H', St w W H H' [] ∧ Le H242 H') ∧ 0 ≤ s.2 ∧ s.2 ≤ (a0.rules.l.length : Int) ∧ s.1 = ((a0.rules.l.length : Int) - s.2).toNat ∧ m25_l5 a0 a1 s.1 s.2 = m25_l5 a0 a1 (((a0.rules.l.length : Int) - 0).toNat) 0) (fun (s : Nat × Int) => [(2, Value.pointer (some (⟨b1, 0, none⟩ : Addr))), (3, Value.pointer (some (⟨b6, 0, none⟩ : Addr))), (12, Value.int .i64 s.2)]) (fun s => s.1) ⟨((a0.rules.l.length : Int) - 0).toNat, 0⟩ ⟨⟨_, st, Le.refl _⟩, (by first|omega|simp<;>omega), (by first|omega|simp<;>omega), rfl, rfl⟩ (.cons rfl (.cons rfl (.cons rfl (.nil _)))) ?_)
             rintro ⟨N255, r246⟩ W250 ⟨⟨H248, st, l249⟩, g272, g273, g254, e251⟩
             replace g272 : 0 ≤ r246 := g272
             replace g273 : r246 ≤ (a0.rules.l.length : Int) := g273
             replace g254 : N255 = ((a0.rules.l.length : Int) - r246).toNat := g254
             replace e251 : m25_l5 a0 a1 N255 r246 = m25_l5 a0 a1 (((a0.rules.l.length : Int) - 0).toNat) 0 := e251
             show CW _ _ _ _ [(2, Value.pointer (some (⟨b1, 0, none⟩ : Addr))), (3, Value.pointer (some (⟨b6, 0, none⟩ : Addr))), (12, Value.int .i64 r246)] _
             refine CW.seq (CW.seq (CW.reg (WL.mv rfl (WL.pv (Pu.fa rfl fo32_8) (WL.pv (Pu.load rfl ty29 (((f5.le ((((((l9.trans l65).trans l147).trans l179).trans l211).trans l243).trans l249)).drop 10).w st.sub) rfl) ?_)))))
             have z256 : a0.rules.l.length ≤ 1048576 := (k0p.rules.le (((((((l4.trans l9).trans l65).trans l147).trans l179).trans l211).trans l243).trans l249)).top
             refine WL.pv (Pu.lens (n := a0.rules.l.length) rfl sl29) (WL.pv (Pu.ilt rfl rfl) (WL.nt ?_))
             refine CW.condP 241 rfl dT dF (fun h257 => ?_) (fun h257 => ?_)
             ·obtain ⟨n247, rfl⟩ : ∃ k, N255 = k + 1 := ⟨N255 - 1, by omega⟩
              refine CW.skip (QX.thenN ?_)
              refine CW.seq ?_
              refine CW.blk ?_
              refine CW.seq ?_
              refine CW.regS (C := Cl w H248 []) (tail := []) (S := Grew w H H248 []) mixed (fun W' h1 h2 h3 h4 => grew_start st h1 h2 h3 h4) (n := 12) rfl ?_
              refine WS.pk 0 rfl gg (fun W hC => Pu.fa rfl fo32_8) ?_
              refine WS.pk 1 rfl gg (fun W hC => Pu.load rfl ty29 (((f5.le ((((((l9.trans l65).trans l147).trans l179).trans l211).trans l243).trans l249)).drop 10).w hC.1) rfl) ?_
              refine WS.pk 2 rfl gg (fun W hC => Pu.move rfl) ?_
              have y258 := lg_get (l := a0.rules.l) (i := r246) (by omega) (by omega)
              have k261 : Rule.Ok 1048576 H248 (lg a0.rules.l r246) := ((k0p.rules.le (((((((l4.trans l9).trans l65).trans l147).trans l179).trans l211).trans l243).trans l249)).get _ _ y258).2
              obtain ⟨ad259, qa262, f260⟩ := ((k0p.rules.le (((((((l4.trans l9).trans l65).trans l147).trans l179).trans l211).trans l243).trans l249)).get _ _ y258).1
              refine WS.pk 3 rfl gg (fun W hC => Pu.idx0 rfl rfl sl29 (by first|omega|simp<;>omega) (by first|omega|simp<;>omega) qa262) ?_
              refine WS.pk 4 rfl gg (fun W hC => Pu.load (v := Rule.v (lg a0.rules.l r246)) rfl ty66 (f260.w hC.1) rfl) ?_
              refine WS.pk 5 rfl gg (fun W hC => Pu.fa rfl fo32_8) ?_
              refine WS.pk 6 rfl gg (fun W hC => Pu.load rfl ty29 (((f10.le (((((l65.trans l147).trans l179).trans l211).trans l243).trans l249)).drop 10).w hC.1) rfl) ?_
              refine WS.pk 7 rfl gg (fun W hC => Pu.move rfl) ?_
              have y263 := lg_get (l := a1.rules.l) (i := r246) (by omega) (by omega)
              have k266 : Rule.Ok 1048576 H248 (lg a1.rules.l r246) := ((k1p.rules.le (((((((l4.trans l9).trans l65).trans l147).trans l179).trans l211).trans l243).trans l249)).get _ _ y263).2
              obtain ⟨ad264, qa267, f265⟩ := ((k1p.rules.le (((((((l4.trans l9).trans l65).trans l147).trans l179).trans l211).trans l243).trans l249)).get _ _ y263).1
              refine WS.pk 8 rfl gg (fun W hC => Pu.idx0 rfl rfl sl29 (by first|omega|simp<;>omega) (by first|omega|simp<;>omega) qa267) ?_
              refine WS.pk 9 rfl gg (fun W hC => Pu.load (v := Rule.v (lg a1.rules.l r246)) rfl ty66 (f265.w hC.1) rfl) ?_
              refine WS.callv (by kernel_rfl) (.then (.blk (.then (.then (.blk (.then (.then .body))))))) 10 rfl (by kernel_rfl) (good_grew (Le.refl _) (fun _ h => h)) rfl rfl en96 rfl rfl (fun W hC => ⟨_, c96 (lg a0.rules.l r246) (lg a1.rules.l r246) hC.1 k261 k266⟩) ?_
              refine WS.pk 11 rfl gg (fun W hC => Pu.notb rfl) ?_
              refine WS.fin (by kernel_rfl) (fun W270 H268 st l269 => ?_)
              refine QX.thenN ?_
              refine CW.condP 255 rfl mT mF (fun h271 => ?_) (fun h271 => ?_)
              ·refine CW.seq (CW.reg (WL.as rfl (WL.nt ?_)))
               refine CW.ret (QX.blkR (QX.thenR (QX.thenR (QX.blkR (QX.thenR (QX.thenR (finA Tryz.results25 st (.tmp rfl .nil) ?_)))))))
               exact vb ((if_pos h11).trans ((if_pos h12).trans ((if_pos h13).trans ((if_pos h15).trans ((if_pos h17).trans ((if_pos h20).trans ((if_pos h23).trans ((if_pos h26).trans ((if_pos h29).trans ((if_pos h32).trans ((if_pos h35).trans ((lk_inr e67).trans ((lk_inr e149).trans ((lk_inr e181).trans ((lk_inr e213).trans ((lk_inr e245).trans (lk_inl ((Eq.symm e251).trans (if_neg h271)))))))))))))))))))
              ·refine CW.skip (QX.blkN (QX.thenN ?_))
               refine CW.reg (WL.mv rfl (WL.pv (Pu.iadd rfl rfl (c := r246 + 1) (w64 (by omega) (by omega))) (WL.as rfl ?_)))
               refine WL.nil (QX.round ⟨n247, r246 + 1⟩ ?_ (Nat.lt_succ_self _) (.cons rfl (.cons rfl (.cons rfl (.nil _)))))
               exact ⟨⟨_, st, (l249.trans l269)⟩, (by first|omega|simp<;>omega), (by first|omega|simp<;>omega), (by first|omega|simp<;>omega), Eq.symm ((Eq.symm e251).trans (if_pos h271))⟩
             ·obtain rfl : N255 = 0 := by omega
              refine CW.exit (QX.thenE (QX.thenE (QX.hit (QX.meets () ?_ (.nil _)))))
              exact ⟨⟨_, st, l249⟩, Eq.symm e251⟩
            rintro _ W276 ⟨⟨H274, st, l275⟩, e277⟩
            show QX _ _ _ [] _
            refine QX.thenN (CW.seq (CW.reg (WL.as rfl (WL.nt ?_))))
            refine CW.ret (finA Tryz.results25 st (.tmp rfl .nil) ?_)
            exact vb ((if_pos h11).trans ((if_pos h12).trans ((if_pos h13).trans ((if_pos h15).trans ((if_pos h17).trans ((if_pos h20).trans ((if_pos h23).trans ((if_pos h26).trans ((if_pos h29).trans ((if_pos h32).trans ((if_pos h35).trans ((lk_inr e67).trans ((lk_inr e149).trans ((lk_inr e181).trans ((lk_inr e213).trans ((lk_inr e245).trans (lk_inr e277)))))))))))))))))
/-! toll tollref08.value -/
def m140 (a0 : ByteArray) : Bool :=
 if a0 = (⟨#[]⟩ : ByteArray) then true else m139 a0
theorem c140 (a0 : ByteArray) {w : World} {H : PH} (hs : Sub H w) (k0p : a0.size < 1048576) : Spec Tryz.prog 140 [.string a0].toArray w H (fun _ v => v = .bool (m140 a0)) := by
 refine Spec.enter Tryz.func140 rfl Tryz.ntmps140 rfl ?_
 have st := St.start hs
 refine CW.seq (CW.reg (WL.as rfl (WL.nt (CW.seq (CW.reg (WL.mv rfl (WL.pv (Pu.seq rfl rfl) (WL.mv rfl ?_))))))))
 refine WL.splitP 5 rfl dT dF (fun h1 => ?_) (fun h1 => ?_)
 ·refine WL.of (WL.of (WL.pv (Pu.pickT rfl rfl) (WL.as rfl (WL.nt ?_))))
  refine CW.ret (finA Tryz.results140 st (.tmp rfl .nil) ?_)
  exact vb (if_pos h1)
 ·have z2 := size_ne h1
  refine WL.mv rfl ?_
  refine WL.callv rfl rfl en139 rfl rfl st (c139 a0 st.sub k0p) ?_
  intro W3 st
  refine WL.pv (Pu.pickF rfl rfl) (WL.as rfl (WL.nt ?_))
  refine CW.ret (finA Tryz.results140 st (.tmp rfl .nil) ?_)
  exact vb (if_neg h1)
/-! toll tollref08.May -/
def m83_l0 (a0 : List Pair) : Nat → Int → (Bool ⊕ Unit)
 | 0, _ => .inr ()
 | n2 + 1, r1 => if (m138 ((lg a0 r1).name)) = true then (if (m140 ((lg a0 r1).val)) = true then (if (0 : Int) < r1 then (if (sleq ((lg a0 r1).name) ((lg a0 (r1 - 1)).name)) = true then (.inl false) else m83_l0 a0 n2 (r1 + 1)) else m83_l0 a0 n2 (r1 + 1)) else .inl false) else .inl false
def m83 (a0 : List Pair) : Bool :=
 lk2 (m83_l0 a0 (((a0.length : Int) - 0).toNat) 0) (fun _ => decide ((a0.length : Int) ≤ 8))
theorem c83 (a0 : Sl Pair) {w : World} {H : PH} (hs : Sub H w) (k0p : Sl.Ok 1048576 H a0) : Spec Tryz.prog 83 [a0.v].toArray w H (fun _ v => v = .bool (m83 a0.l)) := by
 refine Spec.enter Tryz.func83 rfl Tryz.ntmps83 rfl ?_
 have st := St.start hs
 refine CW.seq (CW.reg (WL.as rfl (WL.nt (CW.seq (CW.seq (CW.reg (WL.as rfl (WL.nt ?_))))))))
 refine (CW.cuts (fun (s : Unit) W => (∃ H', St w W H H' [] ∧ Le H H') ∧ m83_l0 a0.l (((a0.l.length : Int) - 0).toNat) 0 = .inr ()) (fun (s : Unit) => [(0, a0.v)]) ?_ ?_)
 ·refine CW.blk (CW.loop (fun (s : Nat × Int) W => (∃ H', St w W H H' [] ∧ Le H H') ∧ 0 ≤ s.2 ∧ s.2 ≤ (a0.l.length : Int) ∧ s.1 = ((a0.l.length : Int) - s.2).toNat ∧ m83_l0 a0.l s.1 s.2 = m83_l0 a0.l (((a0.l.length : Int) - 0).toNat) 0) (fun (s : Nat × Int) => [(0, a0.v), (3, Value.int .i64 s.2)]) (fun s => s.1) ⟨((a0.l.length : Int) - 0).toNat, 0⟩ ⟨⟨_, st, Le.refl _⟩, (by first|omega|simp<;>omega), (by first|omega|simp<;>omega), rfl, rfl⟩ (.cons rfl (.cons rfl (.nil _))) ?_)
  rintro ⟨N10, r1⟩ W5 ⟨⟨H3, st, l4⟩, g49, g50, g9, e6⟩
  replace g49 : 0 ≤ r1 := g49
  replace g50 : r1 ≤ (a0.l.length : Int) := g50
  replace g9 : N10 = ((a0.l.length : Int) - r1).toNat := g9
  replace e6 : m83_l0 a0.l N10 r1 = m83_l0 a0.l (((a0.l.length : Int) - 0).toNat) 0 := e6
  show CW _ _ _ _ [(0, a0.v), (3, Value.int .i64 r1)] _
  refine CW.seq (CW.seq (CW.reg (WL.mv rfl (WL.mv rfl ?_))))
  have z11 : a0.l.length ≤ 1048576 := (k0p.le l4).top
  refine WL.pv (Pu.lens (n := a0.l.length) rfl sl24) (WL.pv (Pu.ilt rfl rfl) (WL.nt ?_))
  refine CW.condP 7 rfl dT dF (fun h12 => ?_) (fun h12 => ?_)
  ·obtain ⟨n2, rfl⟩ : ∃ k, N10 = k + 1 := ⟨N10 - 1, by omega⟩
   refine CW.skip (QX.thenN ?_)
   refine CW.seq ?_
   refine CW.blk ?_
   refine CW.seq ?_
   refine CW.regS (C := Cl w H3 []) (tail := []) (S := Grew w H H3 []) mixed (fun W' h1 h2 h3 h4 => grew_start st h1 h2 h3 h4) (n := 34) rfl ?_
   refine WS.pk 0 rfl gg (fun W hC => Pu.move rfl) ?_
   refine WS.pk 1 rfl gg (fun W hC => Pu.move rfl) ?_
   have y13 := lg_get (l := a0.l) (i := r1) (by omega) (by omega)
   have k16 : Pair.Ok 1048576 H3 (lg a0.l r1) := ((k0p.le l4).get _ _ y13).2
   obtain ⟨ad14, qa17, f15⟩ := ((k0p.le l4).get _ _ y13).1
   refine WS.pk 2 rfl gg (fun W hC => Pu.idx0 rfl rfl sl24 (by first|omega|simp<;>omega) (by first|omega|simp<;>omega) qa17) ?_
   refine WS.pk 3 rfl gg (fun W hC => Pu.fa rfl fo182_0) ?_
   refine WS.pk 4 rfl gg (fun W hC => Pu.load rfl ty9 ((f15.drop 0).w hC.1) rfl) ?_
   refine WS.callv (by kernel_rfl) (.then (.blk (.then (.then (.blk (.then (.then .body))))))) 5 rfl (by kernel_rfl) (good_grew (Le.refl _) (fun _ h => h)) rfl rfl en138 rfl rfl (fun W hC => ⟨_, c138 ((lg a0.l r1).name) hC.1 k16.name⟩) ?_
   refine WS.pk 6 rfl gg (fun W hC => Pu.notb rfl) ?_
   refine WS.pk 7 rfl gg (fun W hC => Pu.move rfl) ?_
   refine WS.split 17 rfl mT mF (fun h18 => ?_) (fun h18 => ?_)
   ·refine WS.ok 8 rfl gg ?_
    refine WS.ok 9 rfl gg ?_
    refine WS.ok 10 rfl gg ?_
    refine WS.ok 11 rfl gg ?_
    refine WS.ok 12 rfl gg ?_
    refine WS.ok 13 rfl gg ?_
    refine WS.ok 14 rfl gg ?_
    refine WS.pk 15 rfl gg (fun W hC => Pu.pickT rfl rfl) ?_
    refine WS.pk 16 rfl gg (fun W hC => Pu.move rfl) ?_
    refine WS.ok 17 rfl gg ?_
    refine WS.ok 18 rfl gg ?_
    refine WS.ok 19 rfl gg ?_
    refine WS.ok 20 rfl gg ?_
    refine WS.ok 21 rfl gg ?_
    refine WS.ok 22 rfl gg ?_
    refine WS.ok 23 rfl gg ?_
    refine WS.ok 24 rfl gg ?_
    refine WS.ok 25 rfl gg ?_
    refine WS.ok 26 rfl gg ?_
    refine WS.ok 27 rfl gg ?_
    refine WS.ok 28 rfl gg ?_
    refine WS.ok 29 rfl gg ?_
    refine WS.ok 30 rfl gg ?_
    refine WS.ok 31 rfl gg ?_
    refine WS.ok 32 rfl gg ?_
    refine WS.pk 33 rfl gg (fun W hC => Pu.pickT rfl rfl) ?_
    refine WS.fin (by kernel_rfl) (fun W21 H19 st l20 => ?_)
    refine QX.thenN ?_
    refine CW.condT rfl ?_
    refine CW.seq (CW.reg (WL.as rfl (WL.nt ?_)))
    refine CW.ret (QX.blkR (QX.thenR (QX.thenR (QX.blkR (QX.thenR (QX.thenR (finA Tryz.results83 st (.tmp rfl .nil) ?_)))))))
    exact vb (lk_inl ((Eq.symm e6).trans (if_neg h18)))
   ·refine WS.pk 8 rfl gg (fun W hC => Pu.move rfl) ?_
    refine WS.pk 9 rfl gg (fun W hC => Pu.move rfl) ?_
    have y22 := lg_get (l := a0.l) (i := r1) (by omega) (by omega)
    have k25 : Pair.Ok 1048576 H3 (lg a0.l r1) := ((k0p.le l4).get _ _ y22).2
    obtain ⟨ad23, qa26, f24⟩ := ((k0p.le l4).get _ _ y22).1
    refine WS.pk 10 rfl gg (fun W hC => Pu.idx0 rfl rfl sl24 (by first|omega|simp<;>omega) (by first|omega|simp<;>omega) qa26) ?_
    refine WS.pk 11 rfl gg (fun W hC => Pu.fa rfl fo182_1) ?_
    refine WS.pk 12 rfl gg (fun W hC => Pu.load rfl ty9 ((f24.drop 1).w hC.1) rfl) ?_
    refine WS.callv (by kernel_rfl) (.then (.blk (.then (.then (.blk (.then (.then .body))))))) 13 rfl (by kernel_rfl) (good_grew (Le.refl _) (fun _ h => h)) rfl rfl en140 rfl rfl (fun W hC => ⟨_, c140 ((lg a0.l r1).val) hC.1 k25.val⟩) ?_
    refine WS.pk 14 rfl gg (fun W hC => Pu.notb rfl) ?_
    refine WS.pk 15 rfl gg (fun W hC => Pu.pickF rfl rfl) ?_
    refine WS.pk 16 rfl gg (fun W hC => Pu.move rfl) ?_
    refine WS.split 26 rfl mT mF (fun h27 => ?_) (fun h27 => ?_)
    ·refine WS.ok 17 rfl gg ?_
     refine WS.ok 18 rfl gg ?_
     refine WS.ok 19 rfl gg ?_
     refine WS.ok 20 rfl gg ?_
     refine WS.ok 21 rfl gg ?_
     refine WS.ok 22 rfl gg ?_
     refine WS.ok 23 rfl gg ?_
     refine WS.ok 24 rfl gg ?_
     refine WS.ok 25 rfl gg ?_
     refine WS.ok 26 rfl gg ?_
     refine WS.ok 27 rfl gg ?_
     refine WS.ok 28 rfl gg ?_
     refine WS.ok 29 rfl gg ?_
     refine WS.ok 30 rfl gg ?_
     refine WS.ok 31 rfl gg ?_
     refine WS.ok 32 rfl gg ?_
     refine WS.pk 33 rfl gg (fun W hC => Pu.pickT rfl rfl) ?_
     refine WS.fin (by kernel_rfl) (fun W30 H28 st l29 => ?_)
     refine QX.thenN ?_
     refine CW.condT rfl ?_
     refine CW.seq (CW.reg (WL.as rfl (WL.nt ?_)))
     refine CW.ret (QX.blkR (QX.thenR (QX.thenR (QX.blkR (QX.thenR (QX.thenR (finA Tryz.results83 st (.tmp rfl .nil) ?_)))))))
     exact vb (lk_inl ((Eq.symm e6).trans ((if_pos h18).trans (if_neg h27))))
    ·refine WS.pk 17 rfl gg (fun W hC => Pu.move rfl) ?_
     refine WS.pk 18 rfl gg (fun W hC => Pu.igt rfl rfl) ?_
     refine WS.pk 19 rfl gg (fun W hC => Pu.move rfl) ?_
     refine WS.split 29 rfl dT dF (fun h31 => ?_) (fun h31 => ?_)
     ·refine WS.pk 20 rfl gg (fun W hC => Pu.move rfl) ?_
      refine WS.pk 21 rfl gg (fun W hC => Pu.move rfl) ?_
      have y32 := lg_get (l := a0.l) (i := r1) (by omega) (by omega)
      have k35 : Pair.Ok 1048576 H3 (lg a0.l r1) := ((k0p.le l4).get _ _ y32).2
      obtain ⟨ad33, qa36, f34⟩ := ((k0p.le l4).get _ _ y32).1
      refine WS.pk 22 rfl gg (fun W hC => Pu.idx0 rfl rfl sl24 (by first|omega|simp<;>omega) (by first|omega|simp<;>omega) qa36) ?_
      refine WS.pk 23 rfl gg (fun W hC => Pu.fa rfl fo182_0) ?_
      refine WS.pk 24 rfl gg (fun W hC => Pu.load rfl ty9 ((f34.drop 0).w hC.1) rfl) ?_
      refine WS.pk 25 rfl gg (fun W hC => Pu.move rfl) ?_
      refine WS.pk 26 rfl gg (fun W hC => Pu.move rfl) ?_
      refine WS.pk 27 rfl gg (fun W hC => Pu.isub rfl rfl (c := r1 - 1) (w64 (by omega) (by omega))) ?_
      have y37 := lg_get (l := a0.l) (i := r1 - 1) (by omega) (by omega)
      have k40 : Pair.Ok 1048576 H3 (lg a0.l (r1 - 1)) := ((k0p.le l4).get _ _ y37).2
      obtain ⟨ad38, qa41, f39⟩ := ((k0p.le l4).get _ _ y37).1
      refine WS.pk 28 rfl gg (fun W hC => Pu.idx0 rfl rfl sl24 (by first|omega|simp<;>omega) (by first|omega|simp<;>omega) qa41) ?_
      refine WS.pk 29 rfl gg (fun W hC => Pu.fa rfl fo182_0) ?_
      refine WS.pk 30 rfl gg (fun W hC => Pu.load rfl ty9 ((f39.drop 0).w hC.1) rfl) ?_
      refine WS.pk 31 rfl gg (fun W hC => Pu.sle rfl rfl) ?_
      refine WS.pk 32 rfl gg (fun W hC => Pu.pickT rfl rfl) ?_
      refine WS.pk 33 rfl gg (fun W hC => Pu.pickF rfl rfl) ?_
      refine WS.fin (by kernel_rfl) (fun W44 H42 st l43 => ?_)
      refine QX.thenN ?_
      refine CW.condP 43 rfl rT rF (fun h45 => ?_) (fun h45 => ?_)
      ·refine CW.seq (CW.reg (WL.as rfl (WL.nt ?_)))
       refine CW.ret (QX.blkR (QX.thenR (QX.thenR (QX.blkR (QX.thenR (QX.thenR (finA Tryz.results83 st (.tmp rfl .nil) ?_)))))))
       exact vb (lk_inl ((Eq.symm e6).trans ((if_pos h18).trans ((if_pos h27).trans ((if_pos h31).trans (if_pos h45))))))
      ·refine CW.skip (QX.blkN (QX.thenN ?_))
       refine CW.reg (WL.mv rfl (WL.pv (Pu.iadd rfl rfl (c := r1 + 1) (w64 (by omega) (by omega))) (WL.as rfl ?_)))
       refine WL.nil (QX.round ⟨n2, r1 + 1⟩ ?_ (Nat.lt_succ_self _) (.cons rfl (.cons rfl (.nil _))))
       exact ⟨⟨_, st, (l4.trans l43)⟩, (by first|omega|simp<;>omega), (by first|omega|simp<;>omega), (by first|omega|simp<;>omega), Eq.symm ((Eq.symm e6).trans ((if_pos h18).trans ((if_pos h27).trans ((if_pos h31).trans (if_neg h45)))))⟩
     ·refine WS.ok 20 rfl gg ?_
      refine WS.ok 21 rfl gg ?_
      refine WS.ok 22 rfl gg ?_
      refine WS.ok 23 rfl gg ?_
      refine WS.ok 24 rfl gg ?_
      refine WS.ok 25 rfl gg ?_
      refine WS.ok 26 rfl gg ?_
      refine WS.ok 27 rfl gg ?_
      refine WS.ok 28 rfl gg ?_
      refine WS.ok 29 rfl gg ?_
      refine WS.ok 30 rfl gg ?_
      refine WS.ok 31 rfl gg ?_
      refine WS.pk 32 rfl gg (fun W hC => Pu.pickF rfl rfl) ?_
      refine WS.pk 33 rfl gg (fun W hC => Pu.pickF rfl rfl) ?_
      refine WS.fin (by kernel_rfl) (fun W48 H46 st l47 => ?_)
      refine QX.thenN ?_
      refine CW.condF rfl ?_
      refine CW.skip (QX.blkN (QX.thenN ?_))
      refine CW.reg (WL.mv rfl (WL.pv (Pu.iadd rfl rfl (c := r1 + 1) (w64 (by omega) (by omega))) (WL.as rfl ?_)))
      refine WL.nil (QX.round ⟨n2, r1 + 1⟩ ?_ (Nat.lt_succ_self _) (.cons rfl (.cons rfl (.nil _))))
      exact ⟨⟨_, st, (l4.trans l47)⟩, (by first|omega|simp<;>omega), (by first|omega|simp<;>omega), (by first|omega|simp<;>omega), Eq.symm ((Eq.symm e6).trans ((if_pos h18).trans ((if_pos h27).trans (if_neg h31))))⟩
  ·obtain rfl : N10 = 0 := by omega
   refine CW.exit (QX.thenE (QX.thenE (QX.hit (QX.meets () ?_ (.cons rfl (.nil _))))))
   exact ⟨⟨_, st, l4⟩, Eq.symm e6⟩
 rintro _ W53 ⟨⟨H51, st, l52⟩, e54⟩
 show QX _ _ _ [(0, a0.v)] _
 refine QX.thenN (CW.seq (CW.reg (WL.mv rfl ?_)))
 have z55 : a0.l.length ≤ 1048576 := (k0p.le l52).top
 refine WL.pv (Pu.lens (n := a0.l.length) rfl sl24) (WL.pv (Pu.ile rfl rfl) (WL.as rfl (WL.nt ?_)))
 refine CW.ret (finA Tryz.results83 st (.tmp rfl .nil) ?_)
 exact vb (lk_inr e54)
/-! toll tollref09.port -/
def m84 (a0 : Int) : Bool :=
 if (1 : Int) ≤ a0 then (decide (a0 ≤ 65535)) else false
theorem c84 (a0 : Int) {w : World} {H : PH} (hs : Sub H w)  : Spec Tryz.prog 84 [.int .i64 a0].toArray w H (fun _ v => v = .bool (m84 a0)) := by
 refine Spec.enter Tryz.func84 rfl Tryz.ntmps84 rfl ?_
 have st := St.start hs
 refine CW.seq (CW.reg (WL.as rfl (WL.nt (CW.seq (CW.reg (WL.mv rfl (WL.pv (Pu.ile rfl rfl) (WL.mv rfl ?_))))))))
 refine WL.splitP 5 rfl dT dF (fun h1 => ?_) (fun h1 => ?_)
 ·refine WL.mv rfl (WL.pv (Pu.ile rfl rfl) (WL.pv (Pu.pickT rfl rfl) (WL.as rfl (WL.nt ?_))))
  refine CW.ret (finA Tryz.results84 st (.tmp rfl .nil) ?_)
  exact vb (if_pos h1)
 ·refine WL.of (WL.of (WL.pv (Pu.pickF rfl rfl) (WL.as rfl (WL.nt ?_))))
  refine CW.ret (finA Tryz.results84 st (.tmp rfl .nil) ?_)
  exact vb (if_neg h1)
/-! toll tollref02.wide -/
def m120 (a0 : ByteArray) : ByteArray × Bool :=
 if (2 : Int) ≤ (a0.size : Int) then (if (bt a0 0) = 42 then (if (bt a0 1) = 46 then ((a0.extract 2 a0.size, true)) else (a0, false)) else (a0, false)) else (a0, false)
theorem c120 (a0 : ByteArray) {w : World} {H : PH} (hs : Sub H w) (k0p : a0.size < 1048576) : Spec Tryz.prog 120 [.string a0].toArray w H (fun H' v => ∃ (x0 : ByteArray) (x1 : Bool), v = .tuple #[.string x0, .bool x1] ∧ x0.size < 1048576 ∧ (x0, x1) = m120 a0) := by
 refine Spec.enter Tryz.func120 rfl Tryz.ntmps120 rfl ?_
 have st := St.start hs
 refine CW.seq (CW.reg (WL.as rfl (WL.as rfl (WL.nt (CW.seq (CW.seq (CW.reg (WL.mv rfl ?_))))))))
 have z1 := k0p
 refine WL.pv (Pu.lenstr rfl Tryz.underlying9) (WL.pv (Pu.ige rfl rfl) (WL.mv rfl ?_))
 refine WL.splitP 7 rfl dT dF (fun h2 => ?_) (fun h2 => ?_)
 ·refine WL.mv rfl (WL.pv (Pu.ixs rfl rfl Tryz.underlying9 (by omega) (by omega)) (WL.pv (Pu.ieq rfl rfl) (WL.pv (Pu.pickT rfl rfl) (WL.mv rfl ?_))))
  refine WL.splitP 12 rfl dT dF (fun h3 => ?_) (fun h3 => ?_)
  ·refine WL.mv rfl (WL.pv (Pu.ixs rfl rfl Tryz.underlying9 (by omega) (by omega)) (WL.pv (Pu.ieq rfl rfl) (WL.pv (Pu.pickT rfl rfl) (WL.nt ?_))))
   refine CW.condP 16 rfl dT dF (fun h4 => ?_) (fun h4 => ?_)
   ·refine CW.seq (CW.reg (WL.mv rfl (WL.pv (Pu.sll rfl rfl Tryz.underlying9 (by omega) (by omega)) (WL.as rfl (WL.as rfl (WL.nt ?_))))))
    refine CW.ret (QX.thenR (fun a ha => finR Tryz.results120 st (.tmp rfl (.tmp rfl .nil)) ?_ ha))
    exact ⟨a0.extract 2 a0.size, true, rfl, (ex_le k0p), Eq.symm ((if_pos h2).trans ((if_pos h3).trans (if_pos h4)))⟩
   ·refine CW.skip (QX.thenN ?_)
    refine CW.seq (CW.reg (WL.mv rfl (WL.as rfl (WL.as rfl (WL.nt ?_)))))
    refine CW.ret (fun a ha => finR Tryz.results120 st (.tmp rfl (.tmp rfl .nil)) ?_ ha)
    exact ⟨a0, false, rfl, k0p, Eq.symm ((if_pos h2).trans ((if_pos h3).trans (if_neg h4)))⟩
  ·refine WL.of (WL.of (WL.of (WL.pv (Pu.pickF rfl rfl) (WL.nt ?_))))
   refine CW.condF rfl ?_
   refine CW.skip (QX.thenN ?_)
   refine CW.seq (CW.reg (WL.mv rfl (WL.as rfl (WL.as rfl (WL.nt ?_)))))
   refine CW.ret (fun a ha => finR Tryz.results120 st (.tmp rfl (.tmp rfl .nil)) ?_ ha)
   exact ⟨a0, false, rfl, k0p, Eq.symm ((if_pos h2).trans (if_neg h3))⟩
 ·refine WL.of (WL.of (WL.of (WL.pv (Pu.pickF rfl rfl) (WL.mv rfl (WL.of (WL.of (WL.of (WL.pv (Pu.pickF rfl rfl) (WL.nt ?_)))))))))
  refine CW.condF rfl ?_
  refine CW.skip (QX.thenN ?_)
  refine CW.seq (CW.reg (WL.mv rfl (WL.as rfl (WL.as rfl (WL.nt ?_)))))
  refine CW.ret (fun a ha => finR Tryz.results120 st (.tmp rfl (.tmp rfl .nil)) ?_ ha)
  exact ⟨a0, false, rfl, k0p, Eq.symm (if_neg h2)⟩
/-! toll tollref02.May -/
def m119 (a0 : ByteArray) : Bool :=
 if a0 = (⟨#[]⟩ : ByteArray) then true else if (a0.size : Int) ≤ 60 then (m138 ((m120 a0).1)) else false
theorem c119 (a0 : ByteArray) {w : World} {H : PH} (hs : Sub H w) (k0p : a0.size < 1048576) : Spec Tryz.prog 119 [.string a0].toArray w H (fun _ v => v = .bool (m119 a0)) := by
 refine Spec.enter Tryz.func119 rfl Tryz.ntmps119 rfl ?_
 have st := St.start hs
 refine CW.seq (CW.reg (WL.as rfl (WL.nt (CW.seq (CW.reg (WL.mv rfl ?_))))))
 refine WL.call rfl rfl en120 rfl rfl st (c120 a0 st.sub k0p) ?_
 rintro _ W1 H2 st l3 ⟨x4, x5, rfl, k6, e7⟩
 obtain ⟨rfl, rfl⟩ := tup2 e7
 refine WL.mv rfl (WL.pv (Pu.ext rfl rfl) (WL.pv (Pu.ext rfl rfl) (WL.as rfl (WL.as rfl (WL.nt (CW.seq (CW.reg (WL.mv rfl (WL.pv (Pu.seq rfl rfl) ?_)))))))))
 refine WL.mv rfl ?_
 refine WL.splitP 12 rfl dT dF (fun h8 => ?_) (fun h8 => ?_)
 ·refine WL.of (WL.of (WL.of (WL.of (WL.of (WL.of (WL.of (WL.pv (Pu.pickT rfl rfl) (WL.as rfl (WL.nt ?_)))))))))
  refine CW.ret (finA Tryz.results119 st (.tmp rfl .nil) ?_)
  exact vb (if_pos h8)
 ·have z9 := size_ne h8
  refine WL.mv rfl ?_
  have z10 := k0p
  refine WL.pv (Pu.lenstr rfl Tryz.underlying9) (WL.pv (Pu.ile rfl rfl) (WL.mv rfl ?_))
  refine WL.splitP 16 rfl dT dF (fun h11 => ?_) (fun h11 => ?_)
  ·refine WL.mv rfl ?_
   refine WL.callv rfl rfl en138 rfl rfl st (c138 ((m120 a0).1) st.sub k6) ?_
   intro W12 st
   refine WL.pv (Pu.pickT rfl rfl) (WL.pv (Pu.pickF rfl rfl) (WL.as rfl (WL.nt ?_)))
   refine CW.ret (finA Tryz.results119 st (.tmp rfl .nil) ?_)
   exact vb ((if_neg h8).trans (if_pos h11))
  ·refine WL.of (WL.of (WL.pv (Pu.pickF rfl rfl) (WL.pv (Pu.pickF rfl rfl) (WL.as rfl (WL.nt ?_)))))
   refine CW.ret (finA Tryz.results119 st (.tmp rfl .nil) ?_)
   exact vb ((if_neg h8).trans (if_neg h11))
/-! toll tollref08.One -/
def m208_l0 (a0 : Need) : Nat → Int → (Bool ⊕ Unit)
 | 0, _ => .inr ()
 | n7 + 1, r6 => if (m140 (lg a0.vals.l r6)) = true then (m208_l0 a0 n7 (r6 + 1)) else .inl false
def m208 (a0 : Need) : Bool :=
 lk2 (m208_l0 a0 (((a0.vals.l.length : Int) - 0).toNat) 0) (fun _ => if a0.kind = 1 then (if (m138 a0.name) = true then (if (1 : Int) ≤ (a0.vals.l.length : Int) then (decide ((a0.vals.l.length : Int) ≤ 8)) else false) else false) else if a0.kind = 2 then (if (m138 a0.name) = true then (if (1 : Int) ≤ (a0.vals.l.length : Int) then (decide ((a0.vals.l.length : Int) ≤ 8)) else false) else false) else if a0.kind = 3 then (if (m138 a0.name) = true then (decide ((a0.vals.l.length : Int) = 0)) else false) else if a0.kind = 4 then (if (m138 a0.name) = true then (decide ((a0.vals.l.length : Int) = 0)) else false) else false)
theorem c208 (a0 : Need) {w : World} {H : PH} (hs : Sub H w) (k0p : Need.Ok 1048576 H a0) : Spec Tryz.prog 208 [Need.v a0].toArray w H (fun _ v => v = .bool (m208 a0)) := by
 refine Spec.enter Tryz.func208 rfl Tryz.ntmps208 rfl ?_
 have st := St.start hs
 refine CW.seq (CW.reg ?_)
 refine WL.box rfl rfl rfl rfl st ?_
 intro b1 W2 H3 st l4 f5
 refine WL.as rfl (WL.nt (CW.seq (CW.seq (CW.reg (WL.as rfl (WL.nt ?_))))))
 refine (CW.cuts (fun (s : Unit) W => (∃ H', St w W H H' [] ∧ Le H3 H') ∧ m208_l0 a0 (((a0.vals.l.length : Int) - 0).toNat) 0 = .inr ()) (fun (s : Unit) => [(1, Value.pointer (some (⟨b1, 0, none⟩ : Addr)))]) ?_ ?_)
 ·refine CW.blk (CW.loop (fun (s : Nat × Int) W => (∃ H', St w W H H' [] ∧ Le H3 H') ∧ 0 ≤ s.2 ∧ s.2 ≤ (a0.vals.l.length : Int) ∧ s.1 = ((a0.vals.l.length : Int) - s.2).toNat ∧ m208_l0 a0 s.1 s.2 = m208_l0 a0 (((a0.vals.l.length : Int) - 0).toNat) 0) (fun (s : Nat × Int) => [(1, Value.pointer (some (⟨b1, 0, none⟩ : Addr))), (3, Value.int .i64 s.2)]) (fun s => s.1) ⟨((a0.vals.l.length : Int) - 0).toNat, 0⟩ ⟨⟨_, st, Le.refl _⟩, (by first|omega|simp<;>omega), (by first|omega|simp<;>omega), rfl, rfl⟩ (.cons rfl (.cons rfl (.nil _))) ?_)
  rintro ⟨N15, r6⟩ W10 ⟨⟨H8, st, l9⟩, g24, g25, g14, e11⟩
  replace g24 : 0 ≤ r6 := g24
  replace g25 : r6 ≤ (a0.vals.l.length : Int) := g25
  replace g14 : N15 = ((a0.vals.l.length : Int) - r6).toNat := g14
  replace e11 : m208_l0 a0 N15 r6 = m208_l0 a0 (((a0.vals.l.length : Int) - 0).toNat) 0 := e11
  show CW _ _ _ _ [(1, Value.pointer (some (⟨b1, 0, none⟩ : Addr))), (3, Value.int .i64 r6)] _
  refine CW.seq (CW.seq (CW.reg (WL.mv rfl (WL.pv (Pu.fa rfl fo184_2) (WL.pv (Pu.load rfl ty28 (((f5.le l9).drop 2).w st.sub) rfl) ?_)))))
  have z16 : a0.vals.l.length ≤ 1048576 := (k0p.vals.le (l4.trans l9)).top
  refine WL.pv (Pu.lens (n := a0.vals.l.length) rfl sl28) (WL.pv (Pu.ilt rfl rfl) (WL.nt ?_))
  refine CW.condP 8 rfl dT dF (fun h17 => ?_) (fun h17 => ?_)
  ·obtain ⟨n7, rfl⟩ : ∃ k, N15 = k + 1 := ⟨N15 - 1, by omega⟩
   refine CW.skip (QX.thenN ?_)
   refine CW.seq ?_
   refine CW.blk ?_
   refine CW.seq (CW.reg (WL.pv (Pu.fa rfl fo184_2) (WL.pv (Pu.load rfl ty28 (((f5.le l9).drop 2).w st.sub) rfl) (WL.mv rfl ?_))))
   have y18 := lg_get (l := a0.vals.l) (i := r6) (by omega) (by omega)
   have k21 : (lg a0.vals.l r6).size < 1048576 := ((k0p.vals.le (l4.trans l9)).get _ _ y18).2
   refine WL.idx (s := a0.vals) rfl rfl rfl rfl sl28 (k0p.vals.le (l4.trans l9)) (by omega) y18 ?_
   intro ad19 f20
   refine WL.pv (Pu.load rfl ty9 (f20.w st.sub) rfl) ?_
   refine WL.callv rfl rfl en140 rfl rfl st (c140 (lg a0.vals.l r6) st.sub k21) ?_
   intro W22 st
   refine WL.pv (Pu.notb rfl) (WL.nt ?_)
   refine CW.condP 17 rfl mT mF (fun h23 => ?_) (fun h23 => ?_)
   ·refine CW.seq (CW.reg (WL.as rfl (WL.nt ?_)))
    refine CW.ret (QX.blkR (QX.thenR (QX.thenR (QX.blkR (QX.thenR (QX.thenR (finA Tryz.results208 st (.tmp rfl .nil) ?_)))))))
    exact vb (lk_inl ((Eq.symm e11).trans (if_neg h23)))
   ·refine CW.skip (QX.blkN (QX.thenN ?_))
    refine CW.reg (WL.mv rfl (WL.pv (Pu.iadd rfl rfl (c := r6 + 1) (w64 (by omega) (by omega))) (WL.as rfl ?_)))
    refine WL.nil (QX.round ⟨n7, r6 + 1⟩ ?_ (Nat.lt_succ_self _) (.cons rfl (.cons rfl (.nil _))))
    exact ⟨⟨_, st, l9⟩, (by first|omega|simp<;>omega), (by first|omega|simp<;>omega), (by first|omega|simp<;>omega), Eq.symm ((Eq.symm e11).trans (if_pos h23))⟩
  ·obtain rfl : N15 = 0 := by omega
   refine CW.exit (QX.thenE (QX.thenE (QX.hit (QX.meets () ?_ (.cons rfl (.nil _))))))
   exact ⟨⟨_, st, l9⟩, Eq.symm e11⟩
 rintro _ W28 ⟨⟨H26, st, l27⟩, e29⟩
 show QX _ _ _ [(1, Value.pointer (some (⟨b1, 0, none⟩ : Addr)))] _
 refine QX.thenN (CW.seq (CW.seq (CW.reg (WL.pv (Pu.fa rfl fo184_0) (WL.pv (Pu.load rfl ty3 (((f5.le l27).drop 0).w st.sub) rfl) (WL.nt ?_))))))
 refine CW.blk ?_
 refine CW.seq (CW.seq (CW.reg (WL.pv (Pu.ieq rfl rfl) (WL.as rfl (WL.nt ?_)))))
 refine CW.condP 20 rfl dT dF (fun h30 => ?_) (fun h30 => ?_)
 ·refine CW.skip (QX.thenN ?_)
  refine CW.condT rfl ?_
  refine CW.seq (CW.reg (WL.pv (Pu.fa rfl fo184_1) (WL.pv (Pu.load rfl ty9 (((f5.le l27).drop 1).w st.sub) rfl) ?_)))
  refine WL.callv rfl rfl en138 rfl rfl st (c138 a0.name st.sub k0p.name) ?_
  intro W31 st
  refine WL.mv rfl ?_
  refine WL.splitP 26 rfl rT rF (fun h32 => ?_) (fun h32 => ?_)
  ·refine WL.pv (Pu.fa rfl fo184_2) (WL.pv (Pu.load rfl ty28 (((f5.le l27).drop 2).w st.sub) rfl) ?_)
   have z33 : a0.vals.l.length ≤ 1048576 := (k0p.vals.le (l4.trans l27)).top
   refine WL.pv (Pu.lens (n := a0.vals.l.length) rfl sl28) (WL.pv (Pu.ile rfl rfl) (WL.pv (Pu.pickT rfl rfl) (WL.mv rfl ?_)))
   refine WL.splitP 32 rfl dT dF (fun h34 => ?_) (fun h34 => ?_)
   ·refine WL.pv (Pu.fa rfl fo184_2) (WL.pv (Pu.load rfl ty28 (((f5.le l27).drop 2).w st.sub) rfl) ?_)
    have z35 : a0.vals.l.length ≤ 1048576 := (k0p.vals.le (l4.trans l27)).top
    refine WL.pv (Pu.lens (n := a0.vals.l.length) rfl sl28) (WL.pv (Pu.ile rfl rfl) (WL.pv (Pu.pickT rfl rfl) (WL.as rfl (WL.nt ?_))))
    refine CW.ret (QX.blkR (QX.thenR (finA Tryz.results208 st (.tmp rfl .nil) ?_)))
    exact vb ((lk_inr e29).trans ((if_pos h30).trans ((if_pos h32).trans (if_pos h34))))
   ·refine WL.of (WL.of (WL.of (WL.of (WL.pv (Pu.pickF rfl rfl) (WL.as rfl (WL.nt ?_))))))
    refine CW.ret (QX.blkR (QX.thenR (finA Tryz.results208 st (.tmp rfl .nil) ?_)))
    exact vb ((lk_inr e29).trans ((if_pos h30).trans ((if_pos h32).trans (if_neg h34))))
  ·refine WL.of (WL.of (WL.of (WL.of (WL.pv (Pu.pickF rfl rfl) (WL.mv rfl (WL.of (WL.of (WL.of (WL.of ?_)))))))))
   refine WL.pv (Pu.pickF rfl rfl) (WL.as rfl (WL.nt ?_))
   refine CW.ret (QX.blkR (QX.thenR (finA Tryz.results208 st (.tmp rfl .nil) ?_)))
   exact vb ((lk_inr e29).trans ((if_pos h30).trans (if_neg h32)))
 ·refine CW.reg (WL.pv (Pu.ieq rfl rfl) (WL.as rfl (WL.nt ?_)))
  refine CW.condP 20 rfl dT dF (fun h36 => ?_) (fun h36 => ?_)
  ·refine CW.seq (CW.reg (WL.pv (Pu.fa rfl fo184_1) (WL.pv (Pu.load rfl ty9 (((f5.le l27).drop 1).w st.sub) rfl) ?_)))
   refine WL.callv rfl rfl en138 rfl rfl st (c138 a0.name st.sub k0p.name) ?_
   intro W37 st
   refine WL.mv rfl ?_
   refine WL.splitP 26 rfl rT rF (fun h38 => ?_) (fun h38 => ?_)
   ·refine WL.pv (Pu.fa rfl fo184_2) (WL.pv (Pu.load rfl ty28 (((f5.le l27).drop 2).w st.sub) rfl) ?_)
    have z39 : a0.vals.l.length ≤ 1048576 := (k0p.vals.le (l4.trans l27)).top
    refine WL.pv (Pu.lens (n := a0.vals.l.length) rfl sl28) (WL.pv (Pu.ile rfl rfl) (WL.pv (Pu.pickT rfl rfl) (WL.mv rfl ?_)))
    refine WL.splitP 32 rfl dT dF (fun h40 => ?_) (fun h40 => ?_)
    ·refine WL.pv (Pu.fa rfl fo184_2) (WL.pv (Pu.load rfl ty28 (((f5.le l27).drop 2).w st.sub) rfl) ?_)
     have z41 : a0.vals.l.length ≤ 1048576 := (k0p.vals.le (l4.trans l27)).top
     refine WL.pv (Pu.lens (n := a0.vals.l.length) rfl sl28) (WL.pv (Pu.ile rfl rfl) (WL.pv (Pu.pickT rfl rfl) (WL.as rfl (WL.nt ?_))))
     refine CW.ret (QX.blkR (QX.thenR (finA Tryz.results208 st (.tmp rfl .nil) ?_)))
     exact vb ((lk_inr e29).trans ((if_neg h30).trans ((if_pos h36).trans ((if_pos h38).trans (if_pos h40)))))
    ·refine WL.of (WL.of (WL.of (WL.of (WL.pv (Pu.pickF rfl rfl) (WL.as rfl (WL.nt ?_))))))
     refine CW.ret (QX.blkR (QX.thenR (finA Tryz.results208 st (.tmp rfl .nil) ?_)))
     exact vb ((lk_inr e29).trans ((if_neg h30).trans ((if_pos h36).trans ((if_pos h38).trans (if_neg h40)))))
   ·refine WL.of (WL.of (WL.of (WL.of (WL.pv (Pu.pickF rfl rfl) (WL.mv rfl (WL.of (WL.of (WL.of (WL.of ?_)))))))))
    refine WL.pv (Pu.pickF rfl rfl) (WL.as rfl (WL.nt ?_))
    refine CW.ret (QX.blkR (QX.thenR (finA Tryz.results208 st (.tmp rfl .nil) ?_)))
    exact vb ((lk_inr e29).trans ((if_neg h30).trans ((if_pos h36).trans (if_neg h38))))
  ·refine CW.seq (CW.seq (CW.reg (WL.pv (Pu.ieq rfl rfl) (WL.as rfl (WL.nt ?_)))))
   refine CW.condP 38 rfl dT dF (fun h42 => ?_) (fun h42 => ?_)
   ·refine CW.skip (QX.thenN ?_)
    refine CW.condT rfl ?_
    refine CW.seq (CW.reg (WL.pv (Pu.fa rfl fo184_1) (WL.pv (Pu.load rfl ty9 (((f5.le l27).drop 1).w st.sub) rfl) ?_)))
    refine WL.callv rfl rfl en138 rfl rfl st (c138 a0.name st.sub k0p.name) ?_
    intro W43 st
    refine WL.mv rfl ?_
    refine WL.splitP 44 rfl rT rF (fun h44 => ?_) (fun h44 => ?_)
    ·refine WL.pv (Pu.fa rfl fo184_2) (WL.pv (Pu.load rfl ty28 (((f5.le l27).drop 2).w st.sub) rfl) ?_)
     have z45 : a0.vals.l.length ≤ 1048576 := (k0p.vals.le (l4.trans l27)).top
     refine WL.pv (Pu.lens (n := a0.vals.l.length) rfl sl28) (WL.pv (Pu.ieq rfl rfl) (WL.pv (Pu.pickT rfl rfl) (WL.as rfl (WL.nt ?_))))
     refine CW.ret (QX.blkR (QX.thenR (finA Tryz.results208 st (.tmp rfl .nil) ?_)))
     exact vb ((lk_inr e29).trans ((if_neg h30).trans ((if_neg h36).trans ((if_pos h42).trans (if_pos h44)))))
    ·refine WL.of (WL.of (WL.of (WL.of (WL.pv (Pu.pickF rfl rfl) (WL.as rfl (WL.nt ?_))))))
     refine CW.ret (QX.blkR (QX.thenR (finA Tryz.results208 st (.tmp rfl .nil) ?_)))
     exact vb ((lk_inr e29).trans ((if_neg h30).trans ((if_neg h36).trans ((if_pos h42).trans (if_neg h44)))))
   ·refine CW.reg (WL.pv (Pu.ieq rfl rfl) (WL.as rfl (WL.nt ?_)))
    refine CW.condP 38 rfl dT dF (fun h46 => ?_) (fun h46 => ?_)
    ·refine CW.seq (CW.reg (WL.pv (Pu.fa rfl fo184_1) (WL.pv (Pu.load rfl ty9 (((f5.le l27).drop 1).w st.sub) rfl) ?_)))
     refine WL.callv rfl rfl en138 rfl rfl st (c138 a0.name st.sub k0p.name) ?_
     intro W47 st
     refine WL.mv rfl ?_
     refine WL.splitP 44 rfl rT rF (fun h48 => ?_) (fun h48 => ?_)
     ·refine WL.pv (Pu.fa rfl fo184_2) (WL.pv (Pu.load rfl ty28 (((f5.le l27).drop 2).w st.sub) rfl) ?_)
      have z49 : a0.vals.l.length ≤ 1048576 := (k0p.vals.le (l4.trans l27)).top
      refine WL.pv (Pu.lens (n := a0.vals.l.length) rfl sl28) (WL.pv (Pu.ieq rfl rfl) (WL.pv (Pu.pickT rfl rfl) (WL.as rfl (WL.nt ?_))))
      refine CW.ret (QX.blkR (QX.thenR (finA Tryz.results208 st (.tmp rfl .nil) ?_)))
      exact vb ((lk_inr e29).trans ((if_neg h30).trans ((if_neg h36).trans ((if_neg h42).trans ((if_pos h46).trans (if_pos h48))))))
     ·refine WL.of (WL.of (WL.of (WL.of (WL.pv (Pu.pickF rfl rfl) (WL.as rfl (WL.nt ?_))))))
      refine CW.ret (QX.blkR (QX.thenR (finA Tryz.results208 st (.tmp rfl .nil) ?_)))
      exact vb ((lk_inr e29).trans ((if_neg h30).trans ((if_neg h36).trans ((if_neg h42).trans ((if_pos h46).trans (if_neg h48))))))
    ·refine CW.skip (QX.blkN (QX.thenN ?_))
     refine CW.seq (CW.reg (WL.as rfl (WL.nt ?_)))
     refine CW.ret (finA Tryz.results208 st (.tmp rfl .nil) ?_)
     exact vb ((lk_inr e29).trans ((if_neg h30).trans ((if_neg h36).trans ((if_neg h42).trans (if_neg h46)))))
/-! toll tollref08.Needs -/
def m141_l0 (a0 : List Need) : Nat → Int → (Bool ⊕ Unit)
 | 0, _ => .inr ()
 | n2 + 1, r1 => if (m208 (lg a0 r1)) = true then (m141_l0 a0 n2 (r1 + 1)) else .inl false
def m141 (a0 : List Need) : Bool :=
 lk2 (m141_l0 a0 (((a0.length : Int) - 0).toNat) 0) (fun _ => decide ((a0.length : Int) ≤ 8))
theorem c141 (a0 : Sl Need) {w : World} {H : PH} (hs : Sub H w) (k0p : Sl.Ok 1048576 H a0) : Spec Tryz.prog 141 [a0.v].toArray w H (fun _ v => v = .bool (m141 a0.l)) := by
 refine Spec.enter Tryz.func141 rfl Tryz.ntmps141 rfl ?_
 have st := St.start hs
 refine CW.seq (CW.reg (WL.as rfl (WL.nt (CW.seq (CW.seq (CW.reg (WL.as rfl (WL.nt ?_))))))))
 refine (CW.cuts (fun (s : Unit) W => (∃ H', St w W H H' [] ∧ Le H H') ∧ m141_l0 a0.l (((a0.l.length : Int) - 0).toNat) 0 = .inr ()) (fun (s : Unit) => [(0, a0.v)]) ?_ ?_)
 ·refine CW.blk (CW.loop (fun (s : Nat × Int) W => (∃ H', St w W H H' [] ∧ Le H H') ∧ 0 ≤ s.2 ∧ s.2 ≤ (a0.l.length : Int) ∧ s.1 = ((a0.l.length : Int) - s.2).toNat ∧ m141_l0 a0.l s.1 s.2 = m141_l0 a0.l (((a0.l.length : Int) - 0).toNat) 0) (fun (s : Nat × Int) => [(0, a0.v), (3, Value.int .i64 s.2)]) (fun s => s.1) ⟨((a0.l.length : Int) - 0).toNat, 0⟩ ⟨⟨_, st, Le.refl _⟩, (by first|omega|simp<;>omega), (by first|omega|simp<;>omega), rfl, rfl⟩ (.cons rfl (.cons rfl (.nil _))) ?_)
  rintro ⟨N10, r1⟩ W5 ⟨⟨H3, st, l4⟩, g19, g20, g9, e6⟩
  replace g19 : 0 ≤ r1 := g19
  replace g20 : r1 ≤ (a0.l.length : Int) := g20
  replace g9 : N10 = ((a0.l.length : Int) - r1).toNat := g9
  replace e6 : m141_l0 a0.l N10 r1 = m141_l0 a0.l (((a0.l.length : Int) - 0).toNat) 0 := e6
  show CW _ _ _ _ [(0, a0.v), (3, Value.int .i64 r1)] _
  refine CW.seq (CW.seq (CW.reg (WL.mv rfl (WL.mv rfl ?_))))
  have z11 : a0.l.length ≤ 1048576 := (k0p.le l4).top
  refine WL.pv (Pu.lens (n := a0.l.length) rfl sl92) (WL.pv (Pu.ilt rfl rfl) (WL.nt ?_))
  refine CW.condP 7 rfl dT dF (fun h12 => ?_) (fun h12 => ?_)
  ·obtain ⟨n2, rfl⟩ : ∃ k, N10 = k + 1 := ⟨N10 - 1, by omega⟩
   refine CW.skip (QX.thenN ?_)
   refine CW.seq ?_
   refine CW.blk ?_
   refine CW.seq (CW.reg (WL.mv rfl (WL.mv rfl ?_)))
   have y13 := lg_get (l := a0.l) (i := r1) (by omega) (by omega)
   have k16 : Need.Ok 1048576 H3 (lg a0.l r1) := ((k0p.le l4).get _ _ y13).2
   refine WL.idx (s := a0) rfl rfl rfl rfl sl92 (k0p.le l4) (by omega) y13 ?_
   intro ad14 f15
   refine WL.pv (Pu.load (v := Need.v (lg a0.l r1)) rfl ty184 (f15.w st.sub) rfl) ?_
   refine WL.callv rfl rfl en208 rfl rfl st (c208 (lg a0.l r1) st.sub k16) ?_
   intro W17 st
   refine WL.pv (Pu.notb rfl) (WL.nt ?_)
   refine CW.condP 15 rfl mT mF (fun h18 => ?_) (fun h18 => ?_)
   ·refine CW.seq (CW.reg (WL.as rfl (WL.nt ?_)))
    refine CW.ret (QX.blkR (QX.thenR (QX.thenR (QX.blkR (QX.thenR (QX.thenR (finA Tryz.results141 st (.tmp rfl .nil) ?_)))))))
    exact vb (lk_inl ((Eq.symm e6).trans (if_neg h18)))
   ·refine CW.skip (QX.blkN (QX.thenN ?_))
    refine CW.reg (WL.mv rfl (WL.pv (Pu.iadd rfl rfl (c := r1 + 1) (w64 (by omega) (by omega))) (WL.as rfl ?_)))
    refine WL.nil (QX.round ⟨n2, r1 + 1⟩ ?_ (Nat.lt_succ_self _) (.cons rfl (.cons rfl (.nil _))))
    exact ⟨⟨_, st, l4⟩, (by first|omega|simp<;>omega), (by first|omega|simp<;>omega), (by first|omega|simp<;>omega), Eq.symm ((Eq.symm e6).trans (if_pos h18))⟩
  ·obtain rfl : N10 = 0 := by omega
   refine CW.exit (QX.thenE (QX.thenE (QX.hit (QX.meets () ?_ (.cons rfl (.nil _))))))
   exact ⟨⟨_, st, l4⟩, Eq.symm e6⟩
 rintro _ W23 ⟨⟨H21, st, l22⟩, e24⟩
 show QX _ _ _ [(0, a0.v)] _
 refine QX.thenN (CW.seq (CW.reg (WL.mv rfl ?_)))
 have z25 : a0.l.length ≤ 1048576 := (k0p.le l22).top
 refine WL.pv (Pu.lens (n := a0.l.length) rfl sl92) (WL.pv (Pu.ile rfl rfl) (WL.as rfl (WL.nt ?_)))
 refine CW.ret (finA Tryz.results141 st (.tmp rfl .nil) ?_)
 exact vb (lk_inr e24)
/-! toll tollref09.near -/
def m142 (a0 : ByteArray) : Bool :=
 if a0 = (⟨#[]⟩ : ByteArray) then true else m139 a0
theorem c142 (a0 : ByteArray) {w : World} {H : PH} (hs : Sub H w) (k0p : a0.size < 1048576) : Spec Tryz.prog 142 [.string a0].toArray w H (fun _ v => v = .bool (m142 a0)) := by
 refine Spec.enter Tryz.func142 rfl Tryz.ntmps142 rfl ?_
 have st := St.start hs
 refine CW.seq (CW.reg (WL.as rfl (WL.nt (CW.seq (CW.reg (WL.mv rfl (WL.pv (Pu.seq rfl rfl) (WL.mv rfl ?_))))))))
 refine WL.splitP 5 rfl dT dF (fun h1 => ?_) (fun h1 => ?_)
 ·refine WL.of (WL.of (WL.pv (Pu.pickT rfl rfl) (WL.as rfl (WL.nt ?_))))
  refine CW.ret (finA Tryz.results142 st (.tmp rfl .nil) ?_)
  exact vb (if_pos h1)
 ·have z2 := size_ne h1
  refine WL.mv rfl ?_
  refine WL.callv rfl rfl en139 rfl rfl st (c139 a0 st.sub k0p) ?_
  intro W3 st
  refine WL.pv (Pu.pickF rfl rfl) (WL.as rfl (WL.nt ?_))
  refine CW.ret (finA Tryz.results142 st (.tmp rfl .nil) ?_)
  exact vb (if_neg h1)
/-! toll tollref09.gateway -/
def m85_l1 (a0 : Object) (r6 : Int) : Nat → Int → (Bool ⊕ Unit)
 | 0, _ => .inr ()
 | n29 + 1, r28 => if (lg a0.listeners.l r28).name = (lg a0.listeners.l r6).name then (.inl false) else m85_l1 a0 r6 n29 (r28 + 1)
def m85_l0 (a0 : Object) : Nat → Int → (Bool ⊕ Unit)
 | 0, _ => .inr ()
 | n7 + 1, r6 => lkR (m85_l1 a0 r6 ((r6 - 0).toNat) 0) (fun _ => if (m139 ((lg a0.listeners.l r6).name)) = true then (if (m84 ((lg a0.listeners.l r6).port)) = true then (if (m119 ((lg a0.listeners.l r6).host)) = true then (if ((lg a0.listeners.l r6).frm) < 0 then (.inl false) else if (2 : Int) < (lg a0.listeners.l r6).frm then (.inl false) else if (m141 (((lg a0.listeners.l r6).needs).l)) = true then (if ((lg a0.listeners.l r6).frm) = 2 then (if ((lg a0.listeners.l r6).tls) = true then (if (((lg a0.listeners.l r6).cert).kind) = 4 then (if (m142 (((lg a0.listeners.l r6).cert).space)) = true then (if (m138 (((lg a0.listeners.l r6).cert).name)) = true then (m85_l0 a0 n7 (r6 + 1)) else .inl false) else .inl false) else .inl false) else if (lg a0.listeners.l r6).cert = (⟨0, (⟨#[]⟩ : ByteArray), (⟨#[]⟩ : ByteArray)⟩ : Ref) then (m85_l0 a0 n7 (r6 + 1)) else .inl false) else if (0 : Int) < ((((lg a0.listeners.l r6).needs).l).length : Int) then (.inl false) else if ((lg a0.listeners.l r6).tls) = true then (if (((lg a0.listeners.l r6).cert).kind) = 4 then (if (m142 (((lg a0.listeners.l r6).cert).space)) = true then (if (m138 (((lg a0.listeners.l r6).cert).name)) = true then (m85_l0 a0 n7 (r6 + 1)) else .inl false) else .inl false) else .inl false) else if (lg a0.listeners.l r6).cert = (⟨0, (⟨#[]⟩ : ByteArray), (⟨#[]⟩ : ByteArray)⟩ : Ref) then (m85_l0 a0 n7 (r6 + 1)) else .inl false) else .inl false) else .inl false) else .inl false) else .inl false)
def m85 (a0 : Object) : Bool :=
 lk2 (m85_l0 a0 (((a0.listeners.l.length : Int) - 0).toNat) 0) (fun _ => if (m138 a0.cls) = true then (if (1 : Int) ≤ (a0.listeners.l.length : Int) then (decide ((a0.listeners.l.length : Int) ≤ 8)) else false) else false)
theorem c85 (a0 : Object) {w : World} {H : PH} (hs : Sub H w) (k0p : Object.Ok 1048576 H a0) : Spec Tryz.prog 85 [Object.v a0].toArray w H (fun _ v => v = .bool (m85 a0)) := by
 refine Spec.enter Tryz.func85 rfl Tryz.ntmps85 rfl ?_
 have st := St.start hs
 refine CW.seq (CW.reg ?_)
 refine WL.box rfl rfl rfl rfl st ?_
 intro b1 W2 H3 st l4 f5
 refine WL.as rfl (WL.nt (CW.seq (CW.reg (WL.pv (Pu.fa rfl fo32_5) (WL.pv (Pu.load rfl ty26 ((f5.drop 7).w st.sub) rfl) (WL.as rfl (WL.nt (CW.seq (CW.seq ?_)))))))))
 refine CW.reg (WL.as rfl (WL.nt ?_))
 refine (CW.cuts (fun (s : Unit) W => (∃ H', St w W H H' [] ∧ Le H3 H') ∧ m85_l0 a0 (((a0.listeners.l.length : Int) - 0).toNat) 0 = .inr ()) (fun (s : Unit) => [(1, Value.pointer (some (⟨b1, 0, none⟩ : Addr))), (3, a0.listeners.v)]) ?_ ?_)
 ·refine CW.blk (CW.loop (fun (s : Nat × Int) W => (∃ H', St w W H H' [] ∧ Le H3 H') ∧ 0 ≤ s.2 ∧ s.2 ≤ (a0.listeners.l.length : Int) ∧ s.1 = ((a0.listeners.l.length : Int) - s.2).toNat ∧ m85_l0 a0 s.1 s.2 = m85_l0 a0 (((a0.listeners.l.length : Int) - 0).toNat) 0) (fun (s : Nat × Int) => [(1, Value.pointer (some (⟨b1, 0, none⟩ : Addr))), (3, a0.listeners.v), (4, Value.int .i64 s.2)]) (fun s => s.1) ⟨((a0.listeners.l.length : Int) - 0).toNat, 0⟩ ⟨⟨_, st, Le.refl _⟩, (by first|omega|simp<;>omega), (by first|omega|simp<;>omega), rfl, rfl⟩ (.cons rfl (.cons rfl (.cons rfl (.nil _)))) ?_)
  rintro ⟨N15, r6⟩ W10 ⟨⟨H8, st, l9⟩, g80, g81, g14, e11⟩
  replace g80 : 0 ≤ r6 := g80
  replace g81 : r6 ≤ (a0.listeners.l.length : Int) := g81
  replace g14 : N15 = ((a0.listeners.l.length : Int) - r6).toNat := g14
  replace e11 : m85_l0 a0 N15 r6 = m85_l0 a0 (((a0.listeners.l.length : Int) - 0).toNat) 0 := e11
  show CW _ _ _ _ [(1, Value.pointer (some (⟨b1, 0, none⟩ : Addr))), (3, a0.listeners.v), (4, Value.int .i64 r6)] _
  refine CW.seq (CW.seq (CW.reg (WL.mv rfl (WL.mv rfl ?_))))
  have z16 : a0.listeners.l.length ≤ 1048576 := (k0p.listeners.le (l4.trans l9)).top
  refine WL.pv (Pu.lens (n := a0.listeners.l.length) rfl sl26) (WL.pv (Pu.ilt rfl rfl) (WL.nt ?_))
  refine CW.condP 12 rfl dT dF (fun h17 => ?_) (fun h17 => ?_)
  ·obtain ⟨n7, rfl⟩ : ∃ k, N15 = k + 1 := ⟨N15 - 1, by omega⟩
   refine CW.skip (QX.thenN ?_)
   refine CW.seq ?_
   refine CW.blk ?_
   refine CW.seq (CW.reg (WL.mv rfl (WL.mv rfl ?_)))
   have y18 := lg_get (l := a0.listeners.l) (i := r6) (by omega) (by omega)
   have k21 : Listener.Ok 1048576 H8 (lg a0.listeners.l r6) := ((k0p.listeners.le (l4.trans l9)).get _ _ y18).2
   refine WL.idx (s := a0.listeners) rfl rfl rfl rfl sl26 (k0p.listeners.le (l4.trans l9)) (by omega) y18 ?_
   intro ad19 f20
   refine WL.pv (Pu.load (v := Listener.v (lg a0.listeners.l r6)) rfl ty94 (f20.w st.sub) rfl) ?_
   refine WL.alloco (c := #[.string (⟨#[]⟩ : ByteArray), .int .i64 0, .bool false, .string (⟨#[]⟩ : ByteArray), .int .i64 0, .string (⟨#[]⟩ : ByteArray), .string (⟨#[]⟩ : ByteArray), .int .i64 0, .slice none 0 0]) rfl rfl ze94 rfl st ?_
   intro b22 W23 st
   refine WL.store (o := 0) (c' := [.string ((lg a0.listeners.l r6).name), .int .i64 ((lg a0.listeners.l r6).port), .bool ((lg a0.listeners.l r6).tls), .string ((lg a0.listeners.l r6).host), .int .i64 (((lg a0.listeners.l r6).cert).kind), .string (((lg a0.listeners.l r6).cert).space), .string (((lg a0.listeners.l r6).cert).name), .int .i64 ((lg a0.listeners.l r6).frm), ((lg a0.listeners.l r6).needs).v]) rfl rfl rfl rfl ty94 rfl (Enc.one (α := Listener) _) rfl rfl st ?_
   intro W24 st
   obtain ⟨H25, st, l26, f27⟩ := st.keepbox
   refine WL.nt (CW.seq (CW.seq (CW.reg (WL.as rfl (WL.nt ?_)))))
   refine (CW.cuts (fun (s : Unit) W => (∃ H', St w W H H' [] ∧ Le H25 H') ∧ m85_l1 a0 r6 ((r6 - 0).toNat) 0 = .inr ()) (fun (s : Unit) => [(1, Value.pointer (some (⟨b1, 0, none⟩ : Addr))), (3, a0.listeners.v), (4, Value.int .i64 r6), (5, Value.pointer (some (⟨b22, 0, none⟩ : Addr)))]) ?_ ?_)
   ·refine CW.blk (CW.loop (fun (s : Nat × Int) W => (∃ H', St w W H H' [] ∧ Le H25 H') ∧ 0 ≤ s.2 ∧ s.1 = (r6 - s.2).toNat ∧ m85_l1 a0 r6 s.1 s.2 = m85_l1 a0 r6 ((r6 - 0).toNat) 0) (fun (s : Nat × Int) => [(1, Value.pointer (some (⟨b1, 0, none⟩ : Addr))), (3, a0.listeners.v), (4, Value.int .i64 r6), (5, Value.pointer (some (⟨b22, 0, none⟩ : Addr))), (6, Value.int .i64 s.2)]) (fun s => s.1) ⟨(r6 - 0).toNat, 0⟩ ⟨⟨_, st, Le.refl _⟩, (by first|omega|simp<;>omega), rfl, rfl⟩ (.cons rfl (.cons rfl (.cons rfl (.cons rfl (.cons rfl (.nil _)))))) ?_)
    rintro ⟨N37, r28⟩ W32 ⟨⟨H30, st, l31⟩, g48, g36, e33⟩
    replace g48 : 0 ≤ r28 := g48
    replace g36 : N37 = (r6 - r28).toNat := g36
    replace e33 : m85_l1 a0 r6 N37 r28 = m85_l1 a0 r6 ((r6 - 0).toNat) 0 := e33
    show CW _ _ _ _ [(1, Value.pointer (some (⟨b1, 0, none⟩ : Addr))), (3, a0.listeners.v), (4, Value.int .i64 r6), (5, Value.pointer (some (⟨b22, 0, none⟩ : Addr))), (6, Value.int .i64 r28)] _
    refine CW.seq (CW.seq (CW.reg (WL.mv rfl (WL.mv rfl (WL.pv (Pu.ilt rfl rfl) (WL.nt ?_))))))
    refine CW.condP 21 rfl dT dF (fun h38 => ?_) (fun h38 => ?_)
    ·obtain ⟨n29, rfl⟩ : ∃ k, N37 = k + 1 := ⟨N37 - 1, by omega⟩
     refine CW.skip (QX.thenN ?_)
     refine CW.seq ?_
     refine CW.blk ?_
     refine CW.seq ?_
     refine CW.regS (C := Cl w H30 []) (tail := []) (S := Grew w H H30 []) mixed (fun W' h1 h2 h3 h4 => grew_start st h1 h2 h3 h4) (n := 8) rfl ?_
     refine WS.pk 0 rfl gg (fun W hC => Pu.move rfl) ?_
     refine WS.pk 1 rfl gg (fun W hC => Pu.move rfl) ?_
     have y39 := lg_get (l := a0.listeners.l) (i := r28) (by omega) (by omega)
     have k42 : Listener.Ok 1048576 H30 (lg a0.listeners.l r28) := ((k0p.listeners.le (((l4.trans l9).trans l26).trans l31)).get _ _ y39).2
     obtain ⟨ad40, qa43, f41⟩ := ((k0p.listeners.le (((l4.trans l9).trans l26).trans l31)).get _ _ y39).1
     refine WS.pk 2 rfl gg (fun W hC => Pu.idx0 rfl rfl sl26 (by first|omega|simp<;>omega) (by first|omega|simp<;>omega) qa43) ?_
     refine WS.pk 3 rfl gg (fun W hC => Pu.fa rfl fo94_0) ?_
     refine WS.pk 4 rfl gg (fun W hC => Pu.load rfl ty9 ((f41.drop 0).w hC.1) rfl) ?_
     refine WS.pk 5 rfl gg (fun W hC => Pu.fa rfl fo94_0) ?_
     refine WS.pk 6 rfl gg (fun W hC => Pu.load rfl ty9 (((f27.le l31).drop 0).w hC.1) rfl) ?_
     refine WS.pk 7 rfl gg (fun W hC => Pu.seq rfl rfl) ?_
     refine WS.fin (by kernel_rfl) (fun W46 H44 st l45 => ?_)
     refine QX.thenN ?_
     refine CW.condP 31 rfl dT dF (fun h47 => ?_) (fun h47 => ?_)
     ·refine CW.seq (CW.reg (WL.as rfl (WL.nt ?_)))
      refine CW.ret (QX.blkR (QX.thenR (QX.thenR (QX.blkR (QX.thenR (QX.thenR (QX.blkR (QX.thenR (QX.thenR (QX.blkR (QX.thenR (QX.thenR (finA Tryz.results85 st (.tmp rfl .nil) ?_)))))))))))))
      exact vb (lk_inl ((Eq.symm e11).trans (lkR_inl ((Eq.symm e33).trans (if_pos h47)))))
     ·refine CW.skip (QX.blkN (QX.thenN ?_))
      refine CW.reg (WL.mv rfl (WL.pv (Pu.iadd rfl rfl (c := r28 + 1) (w64 (by omega) (by omega))) (WL.as rfl ?_)))
      refine WL.nil (QX.round ⟨n29, r28 + 1⟩ ?_ (Nat.lt_succ_self _) (.cons rfl (.cons rfl (.cons rfl (.cons rfl (.cons rfl (.nil _)))))))
      exact ⟨⟨_, st, (l31.trans l45)⟩, (by first|omega|simp<;>omega), (by first|omega|simp<;>omega), Eq.symm ((Eq.symm e33).trans (if_neg h47))⟩
    ·obtain rfl : N37 = 0 := by omega
     refine CW.exit (QX.thenE (QX.thenE (QX.hit (QX.meets () ?_ (.cons rfl (.cons rfl (.cons rfl (.cons rfl (.nil _)))))))))
     exact ⟨⟨_, st, l31⟩, Eq.symm e33⟩
   rintro _ W51 ⟨⟨H49, st, l50⟩, e52⟩
   show QX _ _ _ [(1, Value.pointer (some (⟨b1, 0, none⟩ : Addr))), (3, a0.listeners.v), (4, Value.int .i64 r6), (5, Value.pointer (some (⟨b22, 0, none⟩ : Addr)))] _
   refine QX.thenN (CW.seq (CW.seq (CW.reg (WL.pv (Pu.fa rfl fo94_0) (WL.pv (Pu.load rfl ty9 (((f27.le l50).drop 0).w st.sub) rfl) ?_)))))
   refine WL.callv rfl rfl en139 rfl rfl st (c139 ((lg a0.listeners.l r6).name) st.sub k21.name) ?_
   intro W53 st
   refine WL.pv (Pu.notb rfl) (WL.mv rfl ?_)
   refine WL.splitP 36 rfl mT mF (fun h54 => ?_) (fun h54 => ?_)
   ·refine WL.of (WL.of (WL.of (WL.of (WL.pv (Pu.pickT rfl rfl) (WL.mv rfl (WL.of (WL.of (WL.of (WL.of ?_)))))))))
    refine WL.pv (Pu.pickT rfl rfl) (WL.mv rfl (WL.of (WL.of (WL.of (WL.pv (Pu.pickT rfl rfl) (WL.mv rfl (WL.of (WL.of (WL.of ?_)))))))))
    refine WL.pv (Pu.pickT rfl rfl) (WL.mv rfl (WL.of (WL.of (WL.of (WL.of (WL.pv (Pu.pickT rfl rfl) (WL.mv rfl (WL.of (WL.of ?_)))))))))
    refine WL.of (WL.of (WL.of (WL.of (WL.of (WL.of (WL.of (WL.pv (Pu.pickT rfl rfl) (WL.nt ?_))))))))
    refine CW.condT rfl ?_
    refine CW.seq (CW.reg (WL.as rfl (WL.nt ?_)))
    refine CW.ret (QX.thenR (QX.blkR (QX.thenR (QX.thenR (QX.blkR (QX.thenR (QX.thenR (finA Tryz.results85 st (.tmp rfl .nil) ?_))))))))
    exact vb (lk_inl ((Eq.symm e11).trans ((lkR_inr e52).trans (if_neg h54))))
   ·refine WL.pv (Pu.fa rfl fo94_1) (WL.pv (Pu.load rfl ty3 (((f27.le l50).drop 1).w st.sub) rfl) ?_)
    refine WL.callv rfl rfl en84 rfl rfl st (c84 ((lg a0.listeners.l r6).port) st.sub ) ?_
    intro W55 st
    refine WL.pv (Pu.notb rfl) (WL.pv (Pu.pickF rfl rfl) (WL.mv rfl ?_))
    refine WL.splitP 42 rfl mT mF (fun h56 => ?_) (fun h56 => ?_)
    ·refine WL.of (WL.of (WL.of (WL.of (WL.pv (Pu.pickT rfl rfl) (WL.mv rfl (WL.of (WL.of (WL.of (WL.pv (Pu.pickT rfl rfl) ?_)))))))))
     refine WL.mv rfl (WL.of (WL.of (WL.of (WL.pv (Pu.pickT rfl rfl) (WL.mv rfl (WL.of (WL.of (WL.of (WL.of ?_)))))))))
     refine WL.pv (Pu.pickT rfl rfl) (WL.mv rfl (WL.of (WL.of (WL.of (WL.of (WL.of (WL.of (WL.of (WL.of ?_)))))))))
     refine WL.of (WL.pv (Pu.pickT rfl rfl) (WL.nt ?_))
     refine CW.condT rfl ?_
     refine CW.seq (CW.reg (WL.as rfl (WL.nt ?_)))
     refine CW.ret (QX.thenR (QX.blkR (QX.thenR (QX.thenR (QX.blkR (QX.thenR (QX.thenR (finA Tryz.results85 st (.tmp rfl .nil) ?_))))))))
     exact vb (lk_inl ((Eq.symm e11).trans ((lkR_inr e52).trans ((if_pos h54).trans (if_neg h56)))))
    ·refine WL.pv (Pu.fa rfl fo94_3) (WL.pv (Pu.load rfl ty9 (((f27.le l50).drop 3).w st.sub) rfl) ?_)
     refine WL.callv rfl rfl en119 rfl rfl st (c119 ((lg a0.listeners.l r6).host) st.sub k21.host) ?_
     intro W57 st
     refine WL.pv (Pu.notb rfl) (WL.pv (Pu.pickF rfl rfl) (WL.mv rfl ?_))
     refine WL.splitP 48 rfl mT mF (fun h58 => ?_) (fun h58 => ?_)
     ·refine WL.of (WL.of (WL.of (WL.pv (Pu.pickT rfl rfl) (WL.mv rfl (WL.of (WL.of (WL.of (WL.pv (Pu.pickT rfl rfl) (WL.mv rfl ?_)))))))))
      refine WL.of (WL.of (WL.of (WL.of (WL.pv (Pu.pickT rfl rfl) (WL.mv rfl (WL.of (WL.of (WL.of (WL.of ?_)))))))))
      refine WL.of (WL.of (WL.of (WL.of (WL.of (WL.pv (Pu.pickT rfl rfl) (WL.nt ?_))))))
      refine CW.condT rfl ?_
      refine CW.seq (CW.reg (WL.as rfl (WL.nt ?_)))
      refine CW.ret (QX.thenR (QX.blkR (QX.thenR (QX.thenR (QX.blkR (QX.thenR (QX.thenR (finA Tryz.results85 st (.tmp rfl .nil) ?_))))))))
      exact vb (lk_inl ((Eq.symm e11).trans ((lkR_inr e52).trans ((if_pos h54).trans ((if_pos h56).trans (if_neg h58))))))
     ·refine WL.pv (Pu.fa rfl fo94_5) (WL.pv (Pu.load rfl ty3 (((f27.le l50).drop 7).w st.sub) rfl) (WL.pv (Pu.ilt rfl rfl) (WL.pv (Pu.pickF rfl rfl) (WL.mv rfl ?_))))
      refine WL.splitP 53 rfl dT dF (fun h59 => ?_) (fun h59 => ?_)
      ·refine WL.of (WL.of (WL.of (WL.pv (Pu.pickT rfl rfl) (WL.mv rfl (WL.of (WL.of (WL.of (WL.of (WL.pv (Pu.pickT rfl rfl) ?_)))))))))
       refine WL.mv rfl (WL.of (WL.of (WL.of (WL.of (WL.of (WL.of (WL.of (WL.of (WL.of ?_)))))))))
       refine WL.pv (Pu.pickT rfl rfl) (WL.nt ?_)
       refine CW.condT rfl ?_
       refine CW.seq (CW.reg (WL.as rfl (WL.nt ?_)))
       refine CW.ret (QX.thenR (QX.blkR (QX.thenR (QX.thenR (QX.blkR (QX.thenR (QX.thenR (finA Tryz.results85 st (.tmp rfl .nil) ?_))))))))
       exact vb (lk_inl ((Eq.symm e11).trans ((lkR_inr e52).trans ((if_pos h54).trans ((if_pos h56).trans ((if_pos h58).trans (if_pos h59)))))))
      ·refine WL.pv (Pu.fa rfl fo94_5) (WL.pv (Pu.load rfl ty3 (((f27.le l50).drop 7).w st.sub) rfl) (WL.pv (Pu.igt rfl rfl) (WL.pv (Pu.pickF rfl rfl) (WL.mv rfl ?_))))
       refine WL.splitP 58 rfl dT dF (fun h60 => ?_) (fun h60 => ?_)
       ·refine WL.of (WL.of (WL.of (WL.of (WL.pv (Pu.pickT rfl rfl) (WL.mv rfl (WL.of (WL.of (WL.of (WL.of ?_)))))))))
        refine WL.of (WL.of (WL.of (WL.of (WL.of (WL.pv (Pu.pickT rfl rfl) (WL.nt ?_))))))
        refine CW.condT rfl ?_
        refine CW.seq (CW.reg (WL.as rfl (WL.nt ?_)))
        refine CW.ret (QX.thenR (QX.blkR (QX.thenR (QX.thenR (QX.blkR (QX.thenR (QX.thenR (finA Tryz.results85 st (.tmp rfl .nil) ?_))))))))
        exact vb (lk_inl ((Eq.symm e11).trans ((lkR_inr e52).trans ((if_pos h54).trans ((if_pos h56).trans ((if_pos h58).trans ((if_neg h59).trans (if_pos h60))))))))
       ·refine WL.pv (Pu.fa rfl fo94_6) (WL.pv (Pu.load rfl ty92 (((f27.le l50).drop 8).w st.sub) rfl) ?_)
        refine WL.callv rfl rfl en141 rfl rfl st (c141 ((lg a0.listeners.l r6).needs) st.sub (k21.needs.le (l26.trans l50))) ?_
        intro W61 st
        refine WL.pv (Pu.notb rfl) (WL.pv (Pu.pickF rfl rfl) (WL.mv rfl ?_))
        refine WL.splitP 64 rfl mT mF (fun h62 => ?_) (fun h62 => ?_)
        ·refine WL.of (WL.of (WL.of (WL.of (WL.of (WL.of (WL.of (WL.of (WL.of (WL.pv (Pu.pickT rfl rfl) ?_)))))))))
         refine WL.nt ?_
         refine CW.condT rfl ?_
         refine CW.seq (CW.reg (WL.as rfl (WL.nt ?_)))
         refine CW.ret (QX.thenR (QX.blkR (QX.thenR (QX.thenR (QX.blkR (QX.thenR (QX.thenR (finA Tryz.results85 st (.tmp rfl .nil) ?_))))))))
         exact vb (lk_inl ((Eq.symm e11).trans ((lkR_inr e52).trans ((if_pos h54).trans ((if_pos h56).trans ((if_pos h58).trans ((if_neg h59).trans ((if_neg h60).trans (if_neg h62)))))))))
        ·refine WL.pv (Pu.fa rfl fo94_5) (WL.pv (Pu.load rfl ty3 (((f27.le l50).drop 7).w st.sub) rfl) (WL.pv (Pu.ine rfl rfl) (WL.mv rfl ?_)))
         refine WL.splitP 68 rfl nT nF (fun h63 => ?_) (fun h63 => ?_)
         ·refine WL.pv (Pu.fa rfl fo94_6) (WL.pv (Pu.load rfl ty92 (((f27.le l50).drop 8).w st.sub) rfl) ?_)
          have z64 : (((lg a0.listeners.l r6).needs).l).length ≤ 1048576 := (k21.needs.le (l26.trans l50)).top
          refine WL.pv (Pu.lens (n := (((lg a0.listeners.l r6).needs).l).length) rfl sl92) (WL.pv (Pu.igt rfl rfl) (WL.pv (Pu.pickT rfl rfl) (WL.pv (Pu.pickF rfl rfl) (WL.nt ?_))))
          refine CW.condP 74 rfl dT dF (fun h65 => ?_) (fun h65 => ?_)
          ·refine CW.seq (CW.reg (WL.as rfl (WL.nt ?_)))
           refine CW.ret (QX.thenR (QX.blkR (QX.thenR (QX.thenR (QX.blkR (QX.thenR (QX.thenR (finA Tryz.results85 st (.tmp rfl .nil) ?_))))))))
           exact vb (lk_inl ((Eq.symm e11).trans ((lkR_inr e52).trans ((if_pos h54).trans ((if_pos h56).trans ((if_pos h58).trans ((if_neg h59).trans ((if_neg h60).trans ((if_pos h62).trans ((if_neg h63).trans (if_pos h65)))))))))))
          ·refine CW.skip (QX.thenN ?_)
           refine CW.seq (CW.seq (CW.reg (WL.pv (Pu.fa rfl fo94_2) (WL.pv (Pu.load rfl ty4 (((f27.le l50).drop 2).w st.sub) rfl) (WL.mv rfl ?_)))))
           refine WL.splitP 77 rfl rT rF (fun h66 => ?_) (fun h66 => ?_)
           ·refine WL.pv (Pu.fa rfl fo94_4) (WL.pv (Pu.fa rfl fo23_0) (WL.pv (Pu.load rfl ty3 ((((f27.le l50).drop 4).drop 0).w st.sub) rfl) (WL.pv (Pu.ine rfl rfl) (WL.mv rfl ?_))))
            refine WL.splitP 82 rfl nT nF (fun h67 => ?_) (fun h67 => ?_)
            ·refine WL.of (WL.of (WL.of (WL.of (WL.of (WL.pv (Pu.pickT rfl rfl) (WL.mv rfl (WL.of (WL.of (WL.of ?_)))))))))
             refine WL.of (WL.of (WL.pv (Pu.pickT rfl rfl) (WL.pv (Pu.pickT rfl rfl) (WL.nt ?_))))
             refine CW.condT rfl ?_
             refine CW.seq (CW.reg (WL.as rfl (WL.nt ?_)))
             refine CW.ret (QX.thenR (QX.blkR (QX.thenR (QX.thenR (QX.blkR (QX.thenR (QX.thenR (finA Tryz.results85 st (.tmp rfl .nil) ?_))))))))
             exact vb (lk_inl ((Eq.symm e11).trans ((lkR_inr e52).trans ((if_pos h54).trans ((if_pos h56).trans ((if_pos h58).trans ((if_neg h59).trans ((if_neg h60).trans ((if_pos h62).trans ((if_neg h63).trans ((if_neg h65).trans ((if_pos h66).trans (if_neg h67)))))))))))))
            ·refine WL.pv (Pu.fa rfl fo94_4) (WL.pv (Pu.fa rfl fo23_1) (WL.pv (Pu.load rfl ty9 ((((f27.le l50).drop 4).drop 1).w st.sub) rfl) ?_))
             refine WL.callv rfl rfl en142 rfl rfl st (c142 (((lg a0.listeners.l r6).cert).space) st.sub k21.cert.space) ?_
             intro W68 st
             refine WL.pv (Pu.notb rfl) (WL.pv (Pu.pickF rfl rfl) (WL.mv rfl ?_))
             refine WL.splitP 89 rfl mT mF (fun h69 => ?_) (fun h69 => ?_)
             ·refine WL.of (WL.of (WL.of (WL.of (WL.of (WL.pv (Pu.pickT rfl rfl) (WL.pv (Pu.pickT rfl rfl) (WL.nt ?_)))))))
              refine CW.condT rfl ?_
              refine CW.seq (CW.reg (WL.as rfl (WL.nt ?_)))
              refine CW.ret (QX.thenR (QX.blkR (QX.thenR (QX.thenR (QX.blkR (QX.thenR (QX.thenR (finA Tryz.results85 st (.tmp rfl .nil) ?_))))))))
              exact vb (lk_inl ((Eq.symm e11).trans ((lkR_inr e52).trans ((if_pos h54).trans ((if_pos h56).trans ((if_pos h58).trans ((if_neg h59).trans ((if_neg h60).trans ((if_pos h62).trans ((if_neg h63).trans ((if_neg h65).trans ((if_pos h66).trans ((if_pos h67).trans (if_neg h69))))))))))))))
             ·refine WL.pv (Pu.fa rfl fo94_4) (WL.pv (Pu.fa rfl fo23_2) (WL.pv (Pu.load rfl ty9 ((((f27.le l50).drop 4).drop 2).w st.sub) rfl) ?_))
              refine WL.callv rfl rfl en138 rfl rfl st (c138 (((lg a0.listeners.l r6).cert).name) st.sub k21.cert.name) ?_
              intro W70 st
              refine WL.pv (Pu.notb rfl) (WL.pv (Pu.pickF rfl rfl) (WL.pv (Pu.pickT rfl rfl) (WL.nt ?_)))
              refine CW.condP 96 rfl mT mF (fun h71 => ?_) (fun h71 => ?_)
              ·refine CW.seq (CW.reg (WL.as rfl (WL.nt ?_)))
               refine CW.ret (QX.thenR (QX.blkR (QX.thenR (QX.thenR (QX.blkR (QX.thenR (QX.thenR (finA Tryz.results85 st (.tmp rfl .nil) ?_))))))))
               exact vb (lk_inl ((Eq.symm e11).trans ((lkR_inr e52).trans ((if_pos h54).trans ((if_pos h56).trans ((if_pos h58).trans ((if_neg h59).trans ((if_neg h60).trans ((if_pos h62).trans ((if_neg h63).trans ((if_neg h65).trans ((if_pos h66).trans ((if_pos h67).trans ((if_pos h69).trans (if_neg h71)))))))))))))))
              ·refine CW.skip (QX.thenN ?_)
               refine CW.seq (CW.reg (WL.pv (Pu.fa rfl fo94_2) (WL.pv (Pu.load rfl ty4 (((f27.le l50).drop 2).w st.sub) rfl) (WL.pv (Pu.notb rfl) (WL.mv rfl ?_)))))
               refine WL.kn 100 rfl (kmF h66) ?_
               refine WL.of (WL.of (WL.of (WL.of (WL.pv (Pu.pickF rfl rfl) (WL.nt ?_)))))
               refine CW.condF rfl ?_
               refine CW.skip (QX.blkN (QX.thenN ?_))
               refine CW.reg (WL.mv rfl (WL.pv (Pu.iadd rfl rfl (c := r6 + 1) (w64 (by omega) (by omega))) (WL.as rfl ?_)))
               refine WL.nil (QX.round ⟨n7, r6 + 1⟩ ?_ (Nat.lt_succ_self _) (.cons rfl (.cons rfl (.cons rfl (.nil _)))))
               exact ⟨⟨_, st, ((l9.trans l26).trans l50)⟩, (by first|omega|simp<;>omega), (by first|omega|simp<;>omega), (by first|omega|simp<;>omega), Eq.symm ((Eq.symm e11).trans ((lkR_inr e52).trans ((if_pos h54).trans ((if_pos h56).trans ((if_pos h58).trans ((if_neg h59).trans ((if_neg h60).trans ((if_pos h62).trans ((if_neg h63).trans ((if_neg h65).trans ((if_pos h66).trans ((if_pos h67).trans ((if_pos h69).trans (if_pos h71))))))))))))))⟩
           ·refine WL.of ?_
            iterate 9 refine WL.of ?_
            refine WL.of (WL.of (WL.of (WL.of (WL.of (WL.of (WL.of (WL.of (WL.pv (Pu.pickF rfl rfl) (WL.nt ?_)))))))))
            refine CW.condF rfl ?_
            refine CW.skip (QX.thenN ?_)
            refine CW.seq (CW.reg (WL.pv (Pu.fa rfl fo94_2) (WL.pv (Pu.load rfl ty4 (((f27.le l50).drop 2).w st.sub) rfl) (WL.pv (Pu.notb rfl) (WL.mv rfl ?_)))))
            refine WL.kn 100 rfl (kmT h66) ?_
            refine WL.pv (Pu.fa rfl fo94_4) (WL.pv (Pu.load (v := Ref.v ((lg a0.listeners.l r6).cert)) rfl ty23 (((f27.le l50).drop 4).w st.sub) rfl) (WL.pv (Pu.buildL (cs := Ref.c (⟨0, (⟨#[]⟩ : ByteArray), (⟨#[]⟩ : ByteArray)⟩ : Ref)) st23 rfl rfl rfl) (WL.pv (Pu.bin rfl rfl (eqg23 _ ((lg a0.listeners.l r6).cert) (⟨0, (⟨#[]⟩ : ByteArray), (⟨#[]⟩ : ByteArray)⟩ : Ref)) (ne23 ((lg a0.listeners.l r6).cert) (⟨0, (⟨#[]⟩ : ByteArray), (⟨#[]⟩ : ByteArray)⟩ : Ref))) (WL.pv (Pu.pickT rfl rfl) (WL.nt ?_)))))
            refine CW.condP 105 rfl nT nF (fun h72 => ?_) (fun h72 => ?_)
            ·refine CW.seq (CW.reg (WL.as rfl (WL.nt ?_)))
             refine CW.ret (QX.blkR (QX.thenR (QX.thenR (QX.blkR (QX.thenR (QX.thenR (finA Tryz.results85 st (.tmp rfl .nil) ?_)))))))
             exact vb (lk_inl ((Eq.symm e11).trans ((lkR_inr e52).trans ((if_pos h54).trans ((if_pos h56).trans ((if_pos h58).trans ((if_neg h59).trans ((if_neg h60).trans ((if_pos h62).trans ((if_neg h63).trans ((if_neg h65).trans ((if_neg h66).trans (if_neg h72)))))))))))))
            ·refine CW.skip (QX.blkN (QX.thenN ?_))
             refine CW.reg (WL.mv rfl (WL.pv (Pu.iadd rfl rfl (c := r6 + 1) (w64 (by omega) (by omega))) (WL.as rfl ?_)))
             refine WL.nil (QX.round ⟨n7, r6 + 1⟩ ?_ (Nat.lt_succ_self _) (.cons rfl (.cons rfl (.cons rfl (.nil _)))))
             exact ⟨⟨_, st, ((l9.trans l26).trans l50)⟩, (by first|omega|simp<;>omega), (by first|omega|simp<;>omega), (by first|omega|simp<;>omega), Eq.symm ((Eq.symm e11).trans ((lkR_inr e52).trans ((if_pos h54).trans ((if_pos h56).trans ((if_pos h58).trans ((if_neg h59).trans ((if_neg h60).trans ((if_pos h62).trans ((if_neg h63).trans ((if_neg h65).trans ((if_neg h66).trans (if_pos h72))))))))))))⟩
         ·refine WL.of (WL.of (WL.of (WL.of (WL.pv (Pu.pickF rfl rfl) (WL.pv (Pu.pickF rfl rfl) (WL.nt ?_))))))
          refine CW.condF rfl ?_
          refine CW.skip (QX.thenN ?_)
          refine CW.seq (CW.seq (CW.reg (WL.pv (Pu.fa rfl fo94_2) (WL.pv (Pu.load rfl ty4 (((f27.le l50).drop 2).w st.sub) rfl) (WL.mv rfl ?_)))))
          refine WL.splitP 77 rfl rT rF (fun h73 => ?_) (fun h73 => ?_)
          ·refine WL.pv (Pu.fa rfl fo94_4) (WL.pv (Pu.fa rfl fo23_0) (WL.pv (Pu.load rfl ty3 ((((f27.le l50).drop 4).drop 0).w st.sub) rfl) (WL.pv (Pu.ine rfl rfl) (WL.mv rfl ?_))))
           refine WL.splitP 82 rfl nT nF (fun h74 => ?_) (fun h74 => ?_)
           ·refine WL.of (WL.of (WL.of (WL.of (WL.of (WL.pv (Pu.pickT rfl rfl) (WL.mv rfl (WL.of (WL.of (WL.of ?_)))))))))
            refine WL.of (WL.of (WL.pv (Pu.pickT rfl rfl) (WL.pv (Pu.pickT rfl rfl) (WL.nt ?_))))
            refine CW.condT rfl ?_
            refine CW.seq (CW.reg (WL.as rfl (WL.nt ?_)))
            refine CW.ret (QX.thenR (QX.blkR (QX.thenR (QX.thenR (QX.blkR (QX.thenR (QX.thenR (finA Tryz.results85 st (.tmp rfl .nil) ?_))))))))
            exact vb (lk_inl ((Eq.symm e11).trans ((lkR_inr e52).trans ((if_pos h54).trans ((if_pos h56).trans ((if_pos h58).trans ((if_neg h59).trans ((if_neg h60).trans ((if_pos h62).trans ((if_pos h63).trans ((if_pos h73).trans (if_neg h74))))))))))))
           ·refine WL.pv (Pu.fa rfl fo94_4) (WL.pv (Pu.fa rfl fo23_1) (WL.pv (Pu.load rfl ty9 ((((f27.le l50).drop 4).drop 1).w st.sub) rfl) ?_))
            refine WL.callv rfl rfl en142 rfl rfl st (c142 (((lg a0.listeners.l r6).cert).space) st.sub k21.cert.space) ?_
            intro W75 st
            refine WL.pv (Pu.notb rfl) (WL.pv (Pu.pickF rfl rfl) (WL.mv rfl ?_))
            refine WL.splitP 89 rfl mT mF (fun h76 => ?_) (fun h76 => ?_)
            ·refine WL.of (WL.of (WL.of (WL.of (WL.of (WL.pv (Pu.pickT rfl rfl) (WL.pv (Pu.pickT rfl rfl) (WL.nt ?_)))))))
             refine CW.condT rfl ?_
             refine CW.seq (CW.reg (WL.as rfl (WL.nt ?_)))
             refine CW.ret (QX.thenR (QX.blkR (QX.thenR (QX.thenR (QX.blkR (QX.thenR (QX.thenR (finA Tryz.results85 st (.tmp rfl .nil) ?_))))))))
             exact vb (lk_inl ((Eq.symm e11).trans ((lkR_inr e52).trans ((if_pos h54).trans ((if_pos h56).trans ((if_pos h58).trans ((if_neg h59).trans ((if_neg h60).trans ((if_pos h62).trans ((if_pos h63).trans ((if_pos h73).trans ((if_pos h74).trans (if_neg h76)))))))))))))
            ·refine WL.pv (Pu.fa rfl fo94_4) (WL.pv (Pu.fa rfl fo23_2) (WL.pv (Pu.load rfl ty9 ((((f27.le l50).drop 4).drop 2).w st.sub) rfl) ?_))
             refine WL.callv rfl rfl en138 rfl rfl st (c138 (((lg a0.listeners.l r6).cert).name) st.sub k21.cert.name) ?_
             intro W77 st
             refine WL.pv (Pu.notb rfl) (WL.pv (Pu.pickF rfl rfl) (WL.pv (Pu.pickT rfl rfl) (WL.nt ?_)))
             refine CW.condP 96 rfl mT mF (fun h78 => ?_) (fun h78 => ?_)
             ·refine CW.seq (CW.reg (WL.as rfl (WL.nt ?_)))
              refine CW.ret (QX.thenR (QX.blkR (QX.thenR (QX.thenR (QX.blkR (QX.thenR (QX.thenR (finA Tryz.results85 st (.tmp rfl .nil) ?_))))))))
              exact vb (lk_inl ((Eq.symm e11).trans ((lkR_inr e52).trans ((if_pos h54).trans ((if_pos h56).trans ((if_pos h58).trans ((if_neg h59).trans ((if_neg h60).trans ((if_pos h62).trans ((if_pos h63).trans ((if_pos h73).trans ((if_pos h74).trans ((if_pos h76).trans (if_neg h78))))))))))))))
             ·refine CW.skip (QX.thenN ?_)
              refine CW.seq (CW.reg (WL.pv (Pu.fa rfl fo94_2) (WL.pv (Pu.load rfl ty4 (((f27.le l50).drop 2).w st.sub) rfl) (WL.pv (Pu.notb rfl) (WL.mv rfl ?_)))))
              refine WL.kn 100 rfl (kmF h73) ?_
              refine WL.of (WL.of (WL.of (WL.of (WL.pv (Pu.pickF rfl rfl) (WL.nt ?_)))))
              refine CW.condF rfl ?_
              refine CW.skip (QX.blkN (QX.thenN ?_))
              refine CW.reg (WL.mv rfl (WL.pv (Pu.iadd rfl rfl (c := r6 + 1) (w64 (by omega) (by omega))) (WL.as rfl ?_)))
              refine WL.nil (QX.round ⟨n7, r6 + 1⟩ ?_ (Nat.lt_succ_self _) (.cons rfl (.cons rfl (.cons rfl (.nil _)))))
              exact ⟨⟨_, st, ((l9.trans l26).trans l50)⟩, (by first|omega|simp<;>omega), (by first|omega|simp<;>omega), (by first|omega|simp<;>omega), Eq.symm ((Eq.symm e11).trans ((lkR_inr e52).trans ((if_pos h54).trans ((if_pos h56).trans ((if_pos h58).trans ((if_neg h59).trans ((if_neg h60).trans ((if_pos h62).trans ((if_pos h63).trans ((if_pos h73).trans ((if_pos h74).trans ((if_pos h76).trans (if_pos h78)))))))))))))⟩
          ·refine WL.of ?_
           iterate 9 refine WL.of ?_
           refine WL.of (WL.of (WL.of (WL.of (WL.of (WL.of (WL.of (WL.of (WL.pv (Pu.pickF rfl rfl) (WL.nt ?_)))))))))
           refine CW.condF rfl ?_
           refine CW.skip (QX.thenN ?_)
           refine CW.seq (CW.reg (WL.pv (Pu.fa rfl fo94_2) (WL.pv (Pu.load rfl ty4 (((f27.le l50).drop 2).w st.sub) rfl) (WL.pv (Pu.notb rfl) (WL.mv rfl ?_)))))
           refine WL.kn 100 rfl (kmT h73) ?_
           refine WL.pv (Pu.fa rfl fo94_4) (WL.pv (Pu.load (v := Ref.v ((lg a0.listeners.l r6).cert)) rfl ty23 (((f27.le l50).drop 4).w st.sub) rfl) (WL.pv (Pu.buildL (cs := Ref.c (⟨0, (⟨#[]⟩ : ByteArray), (⟨#[]⟩ : ByteArray)⟩ : Ref)) st23 rfl rfl rfl) (WL.pv (Pu.bin rfl rfl (eqg23 _ ((lg a0.listeners.l r6).cert) (⟨0, (⟨#[]⟩ : ByteArray), (⟨#[]⟩ : ByteArray)⟩ : Ref)) (ne23 ((lg a0.listeners.l r6).cert) (⟨0, (⟨#[]⟩ : ByteArray), (⟨#[]⟩ : ByteArray)⟩ : Ref))) (WL.pv (Pu.pickT rfl rfl) (WL.nt ?_)))))
           refine CW.condP 105 rfl nT nF (fun h79 => ?_) (fun h79 => ?_)
           ·refine CW.seq (CW.reg (WL.as rfl (WL.nt ?_)))
            refine CW.ret (QX.blkR (QX.thenR (QX.thenR (QX.blkR (QX.thenR (QX.thenR (finA Tryz.results85 st (.tmp rfl .nil) ?_)))))))
            exact vb (lk_inl ((Eq.symm e11).trans ((lkR_inr e52).trans ((if_pos h54).trans ((if_pos h56).trans ((if_pos h58).trans ((if_neg h59).trans ((if_neg h60).trans ((if_pos h62).trans ((if_pos h63).trans ((if_neg h73).trans (if_neg h79))))))))))))
           ·refine CW.skip (QX.blkN (QX.thenN ?_))
            refine CW.reg (WL.mv rfl (WL.pv (Pu.iadd rfl rfl (c := r6 + 1) (w64 (by omega) (by omega))) (WL.as rfl ?_)))
            refine WL.nil (QX.round ⟨n7, r6 + 1⟩ ?_ (Nat.lt_succ_self _) (.cons rfl (.cons rfl (.cons rfl (.nil _)))))
            exact ⟨⟨_, st, ((l9.trans l26).trans l50)⟩, (by first|omega|simp<;>omega), (by first|omega|simp<;>omega), (by first|omega|simp<;>omega), Eq.symm ((Eq.symm e11).trans ((lkR_inr e52).trans ((if_pos h54).trans ((if_pos h56).trans ((if_pos h58).trans ((if_neg h59).trans ((if_neg h60).trans ((if_pos h62).trans ((if_pos h63).trans ((if_neg h73).trans (if_pos h79)))))))))))⟩
  ·obtain rfl : N15 = 0 := by omega
   refine CW.exit (QX.thenE (QX.thenE (QX.hit (QX.meets () ?_ (.cons rfl (.cons rfl (.nil _)))))))
   exact ⟨⟨_, st, l9⟩, Eq.symm e11⟩
 rintro _ W84 ⟨⟨H82, st, l83⟩, e85⟩
 show QX _ _ _ [(1, Value.pointer (some (⟨b1, 0, none⟩ : Addr))), (3, a0.listeners.v)] _
 refine QX.thenN (CW.seq (CW.reg (WL.pv (Pu.fa rfl fo32_4) (WL.pv (Pu.load rfl ty9 (((f5.le l83).drop 6).w st.sub) rfl) ?_))))
 refine WL.callv rfl rfl en138 rfl rfl st (c138 a0.cls st.sub k0p.cls) ?_
 intro W86 st
 refine WL.mv rfl ?_
 refine WL.splitP 109 rfl rT rF (fun h87 => ?_) (fun h87 => ?_)
 ·refine WL.mv rfl ?_
  have z88 : a0.listeners.l.length ≤ 1048576 := (k0p.listeners.le (l4.trans l83)).top
  refine WL.pv (Pu.lens (n := a0.listeners.l.length) rfl sl26) (WL.pv (Pu.ile rfl rfl) (WL.pv (Pu.pickT rfl rfl) (WL.mv rfl ?_)))
  refine WL.splitP 114 rfl dT dF (fun h89 => ?_) (fun h89 => ?_)
  ·refine WL.mv rfl ?_
   have z90 : a0.listeners.l.length ≤ 1048576 := (k0p.listeners.le (l4.trans l83)).top
   refine WL.pv (Pu.lens (n := a0.listeners.l.length) rfl sl26) (WL.pv (Pu.ile rfl rfl) (WL.pv (Pu.pickT rfl rfl) (WL.as rfl (WL.nt ?_))))
   refine CW.ret (finA Tryz.results85 st (.tmp rfl .nil) ?_)
   exact vb ((lk_inr e85).trans ((if_pos h87).trans (if_pos h89)))
  ·refine WL.of (WL.of (WL.of (WL.pv (Pu.pickF rfl rfl) (WL.as rfl (WL.nt ?_)))))
   refine CW.ret (finA Tryz.results85 st (.tmp rfl .nil) ?_)
   exact vb ((lk_inr e85).trans ((if_pos h87).trans (if_neg h89)))
 ·refine WL.of (WL.of (WL.of (WL.pv (Pu.pickF rfl rfl) (WL.mv rfl (WL.of (WL.of (WL.of (WL.pv (Pu.pickF rfl rfl) (WL.as rfl ?_)))))))))
  refine WL.nt ?_
  refine CW.ret (finA Tryz.results85 st (.tmp rfl .nil) ?_)
  exact vb ((lk_inr e85).trans (if_neg h87))
end Go.Proofs.TB
