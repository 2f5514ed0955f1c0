/- What rows hand over is data of the program's types. -/
import Derived.Test.YtmfnlloabaoagaaGreatDoorTQ
import Derived.Test.YtmfnlloabaoagaaGreatDoorTT
import Derived.Test.YtmfnlloabaoagaaGreatDoorProg
import Derived.KernelRfl
set_option linter.unusedVariables false
set_option maxRecDepth 100000
namespace Go.Proofs.TB
open Go.RowKit
theorem sf23 : sfOf Tryz.prog 23 = some ([(3, 0), (9, 1), (9, 2)], 3) := by kernel_rfl
theorem op23 : OpP Tryz.prog 23 (fun H cs => ∃ x : Ref, cs = Enc.c x ∧ Enc.ok 140737488355329 H x) := by
  refine OpP.mono (OpP.st sf23 (OpFs.cons (n := 1) (by kernel_rfl) (OpP.int Tryz.underlying3) (OpFs.cons (n := 1) (by kernel_rfl) (OpP.str Tryz.underlying9) (OpFs.cons (n := 1) (by kernel_rfl) (OpP.str Tryz.underlying9) (OpFs.nil rfl))))) ?_
  rintro H _ ⟨_, _, rfl, ⟨v0, rfl⟩, ⟨_, _, rfl, ⟨v1, rfl, h1⟩, ⟨_, _, rfl, ⟨v2, rfl, h2⟩, rfl⟩⟩⟩
  exact ⟨⟨v0, v1, v2⟩, rfl, ⟨h1, h2⟩⟩
theorem sf182 : sfOf Tryz.prog 182 = some ([(9, 0), (9, 1)], 2) := by kernel_rfl
theorem op182 : OpP Tryz.prog 182 (fun H cs => ∃ x : Pair, cs = Enc.c x ∧ Enc.ok 140737488355329 H x) := by
  refine OpP.mono (OpP.st sf182 (OpFs.cons (n := 1) (by kernel_rfl) (OpP.str Tryz.underlying9) (OpFs.cons (n := 1) (by kernel_rfl) (OpP.str Tryz.underlying9) (OpFs.nil rfl)))) ?_
  rintro H _ ⟨_, _, rfl, ⟨v0, rfl, h0⟩, ⟨_, _, rfl, ⟨v1, rfl, h1⟩, rfl⟩⟩
  exact ⟨⟨v0, v1⟩, rfl, ⟨h0, h1⟩⟩
theorem op24 : OpP Tryz.prog 24 (fun H cs => ∃ s : Sl Pair, cs = [s.v] ∧ Sl.Ok 140737488355329 H s) := OpP.sl Tryz.underlying24 (by kernel_rfl) (by kernel_rfl) op182
theorem op25 : OpP Tryz.prog 25 (fun H cs => ∃ s : Sl Int, cs = [s.v] ∧ Sl.Ok 140737488355329 H s) := OpP.sl Tryz.underlying25 (by kernel_rfl) (by kernel_rfl) (OpP.mono (OpP.int Tryz.underlying3) fun _ _ ⟨n, h⟩ => ⟨n, h, trivial⟩)
theorem op28 : OpP Tryz.prog 28 (fun H cs => ∃ s : Sl ByteArray, cs = [s.v] ∧ Sl.Ok 140737488355329 H s) := OpP.sl Tryz.underlying28 (by kernel_rfl) (by kernel_rfl) (OpP.str Tryz.underlying9)
theorem sf184 : sfOf Tryz.prog 184 = some ([(3, 0), (9, 1), (28, 2)], 3) := by kernel_rfl
theorem op184 : OpP Tryz.prog 184 (fun H cs => ∃ x : Need, cs = Enc.c x ∧ Enc.ok 140737488355329 H x) := by
  refine OpP.mono (OpP.st sf184 (OpFs.cons (n := 1) (by kernel_rfl) (OpP.int Tryz.underlying3) (OpFs.cons (n := 1) (by kernel_rfl) (OpP.str Tryz.underlying9) (OpFs.cons (n := 1) (by kernel_rfl) op28 (OpFs.nil rfl))))) ?_
  rintro H _ ⟨_, _, rfl, ⟨v0, rfl⟩, ⟨_, _, rfl, ⟨v1, rfl, h1⟩, ⟨_, _, rfl, ⟨v2, rfl, h2⟩, rfl⟩⟩⟩
  exact ⟨⟨v0, v1, v2⟩, rfl, ⟨h1, h2⟩⟩
theorem op92 : OpP Tryz.prog 92 (fun H cs => ∃ s : Sl Need, cs = [s.v] ∧ Sl.Ok 140737488355329 H s) := OpP.sl Tryz.underlying92 (by kernel_rfl) (by kernel_rfl) op184
theorem sf94 : sfOf Tryz.prog 94 = some ([(9, 0), (3, 1), (4, 2), (9, 3), (23, 4), (3, 7), (92, 8)], 9) := by kernel_rfl
theorem op94 : OpP Tryz.prog 94 (fun H cs => ∃ x : Listener, cs = Enc.c x ∧ Enc.ok 140737488355329 H x) := by
  refine OpP.mono (OpP.st sf94 (OpFs.cons (n := 1) (by kernel_rfl) (OpP.str Tryz.underlying9) (OpFs.cons (n := 1) (by kernel_rfl) (OpP.int Tryz.underlying3) (OpFs.cons (n := 1) (by kernel_rfl) (OpP.bool Tryz.underlying4) (OpFs.cons (n := 1) (by kernel_rfl) (OpP.str Tryz.underlying9) (OpFs.cons (n := 3) (by kernel_rfl) op23 (OpFs.cons (n := 1) (by kernel_rfl) (OpP.int Tryz.underlying3) (OpFs.cons (n := 1) (by kernel_rfl) op92 (OpFs.nil rfl))))))))) ?_
  rintro H _ ⟨_, _, rfl, ⟨v0, rfl, h0⟩, ⟨_, _, rfl, ⟨v1, rfl⟩, ⟨_, _, rfl, ⟨v2, rfl⟩, ⟨_, _, rfl, ⟨v3, rfl, h3⟩, ⟨_, _, rfl, ⟨v4, rfl, h4⟩, ⟨_, _, rfl, ⟨v5, rfl⟩, ⟨_, _, rfl, ⟨v6, rfl, h6⟩, rfl⟩⟩⟩⟩⟩⟩⟩
  exact ⟨⟨v0, v1, v2, v3, v4, v5, v6⟩, rfl, ⟨h0, h3, h4, h6⟩⟩
theorem op26 : OpP Tryz.prog 26 (fun H cs => ∃ s : Sl Listener, cs = [s.v] ∧ Sl.Ok 140737488355329 H s) := OpP.sl Tryz.underlying26 (by kernel_rfl) (by kernel_rfl) op94
theorem sf99 : sfOf Tryz.prog 99 = some ([(9, 0), (9, 1), (9, 2), (3, 3)], 4) := by kernel_rfl
theorem op99 : OpP Tryz.prog 99 (fun H cs => ∃ x : Parent, cs = Enc.c x ∧ Enc.ok 140737488355329 H x) := by
  refine OpP.mono (OpP.st sf99 (OpFs.cons (n := 1) (by kernel_rfl) (OpP.str Tryz.underlying9) (OpFs.cons (n := 1) (by kernel_rfl) (OpP.str Tryz.underlying9) (OpFs.cons (n := 1) (by kernel_rfl) (OpP.str Tryz.underlying9) (OpFs.cons (n := 1) (by kernel_rfl) (OpP.int Tryz.underlying3) (OpFs.nil rfl)))))) ?_
  rintro H _ ⟨_, _, rfl, ⟨v0, rfl, h0⟩, ⟨_, _, rfl, ⟨v1, rfl, h1⟩, ⟨_, _, rfl, ⟨v2, rfl, h2⟩, ⟨_, _, rfl, ⟨v3, rfl⟩, rfl⟩⟩⟩⟩
  exact ⟨⟨v0, v1, v2, v3⟩, rfl, ⟨h0, h1, h2⟩⟩
theorem op27 : OpP Tryz.prog 27 (fun H cs => ∃ s : Sl Parent, cs = [s.v] ∧ Sl.Ok 140737488355329 H s) := OpP.sl Tryz.underlying27 (by kernel_rfl) (by kernel_rfl) op99
theorem sf122 : sfOf Tryz.prog 122 = some ([(3, 0), (9, 1)], 2) := by kernel_rfl
theorem op122 : OpP Tryz.prog 122 (fun H cs => ∃ x : Path, cs = Enc.c x ∧ Enc.ok 140737488355329 H x) := by
  refine OpP.mono (OpP.st sf122 (OpFs.cons (n := 1) (by kernel_rfl) (OpP.int Tryz.underlying3) (OpFs.cons (n := 1) (by kernel_rfl) (OpP.str Tryz.underlying9) (OpFs.nil rfl)))) ?_
  rintro H _ ⟨_, _, rfl, ⟨v0, rfl⟩, ⟨_, _, rfl, ⟨v1, rfl, h1⟩, rfl⟩⟩
  exact ⟨⟨v0, v1⟩, rfl, ⟨h1⟩⟩
theorem sf124 : sfOf Tryz.prog 124 = some ([(122, 0), (9, 2), (24, 3), (24, 4)], 5) := by kernel_rfl
theorem op124 : OpP Tryz.prog 124 (fun H cs => ∃ x : Match, cs = Enc.c x ∧ Enc.ok 140737488355329 H x) := by
  refine OpP.mono (OpP.st sf124 (OpFs.cons (n := 2) (by kernel_rfl) op122 (OpFs.cons (n := 1) (by kernel_rfl) (OpP.str Tryz.underlying9) (OpFs.cons (n := 1) (by kernel_rfl) op24 (OpFs.cons (n := 1) (by kernel_rfl) op24 (OpFs.nil rfl)))))) ?_
  rintro H _ ⟨_, _, rfl, ⟨v0, rfl, h0⟩, ⟨_, _, rfl, ⟨v1, rfl, h1⟩, ⟨_, _, rfl, ⟨v2, rfl, h2⟩, ⟨_, _, rfl, ⟨v3, rfl, h3⟩, rfl⟩⟩⟩⟩
  exact ⟨⟨v0, v1, v2, v3⟩, rfl, ⟨h0, h1, h2, h3⟩⟩
theorem op62 : OpP Tryz.prog 62 (fun H cs => ∃ s : Sl Match, cs = [s.v] ∧ Sl.Ok 140737488355329 H s) := OpP.sl Tryz.underlying62 (by kernel_rfl) (by kernel_rfl) op124
theorem sf186 : sfOf Tryz.prog 186 = some ([(3, 0), (9, 1), (9, 2), (9, 3), (3, 4), (9, 5), (4, 6), (3, 7)], 8) := by kernel_rfl
theorem op186 : OpP Tryz.prog 186 (fun H cs => ∃ x : Filter, cs = Enc.c x ∧ Enc.ok 140737488355329 H x) := by
  refine OpP.mono (OpP.st sf186 (OpFs.cons (n := 1) (by kernel_rfl) (OpP.int Tryz.underlying3) (OpFs.cons (n := 1) (by kernel_rfl) (OpP.str Tryz.underlying9) (OpFs.cons (n := 1) (by kernel_rfl) (OpP.str Tryz.underlying9) (OpFs.cons (n := 1) (by kernel_rfl) (OpP.str Tryz.underlying9) (OpFs.cons (n := 1) (by kernel_rfl) (OpP.int Tryz.underlying3) (OpFs.cons (n := 1) (by kernel_rfl) (OpP.str Tryz.underlying9) (OpFs.cons (n := 1) (by kernel_rfl) (OpP.bool Tryz.underlying4) (OpFs.cons (n := 1) (by kernel_rfl) (OpP.int Tryz.underlying3) (OpFs.nil rfl)))))))))) ?_
  rintro H _ ⟨_, _, rfl, ⟨v0, rfl⟩, ⟨_, _, rfl, ⟨v1, rfl, h1⟩, ⟨_, _, rfl, ⟨v2, rfl, h2⟩, ⟨_, _, rfl, ⟨v3, rfl, h3⟩, ⟨_, _, rfl, ⟨v4, rfl⟩, ⟨_, _, rfl, ⟨v5, rfl, h5⟩, ⟨_, _, rfl, ⟨v6, rfl⟩, ⟨_, _, rfl, ⟨v7, rfl⟩, rfl⟩⟩⟩⟩⟩⟩⟩⟩
  exact ⟨⟨v0, v1, v2, v3, v4, v5, v6, v7⟩, rfl, ⟨h1, h2, h3, h5⟩⟩
theorem op63 : OpP Tryz.prog 63 (fun H cs => ∃ s : Sl Filter, cs = [s.v] ∧ Sl.Ok 140737488355329 H s) := OpP.sl Tryz.underlying63 (by kernel_rfl) (by kernel_rfl) op186
theorem sf68 : sfOf Tryz.prog 68 = some ([(23, 0), (3, 3), (3, 4)], 5) := by kernel_rfl
theorem op68 : OpP Tryz.prog 68 (fun H cs => ∃ x : Backend, cs = Enc.c x ∧ Enc.ok 140737488355329 H x) := by
  refine OpP.mono (OpP.st sf68 (OpFs.cons (n := 3) (by kernel_rfl) op23 (OpFs.cons (n := 1) (by kernel_rfl) (OpP.int Tryz.underlying3) (OpFs.cons (n := 1) (by kernel_rfl) (OpP.int Tryz.underlying3) (OpFs.nil rfl))))) ?_
  rintro H _ ⟨_, _, rfl, ⟨v0, rfl, h0⟩, ⟨_, _, rfl, ⟨v1, rfl⟩, ⟨_, _, rfl, ⟨v2, rfl⟩, rfl⟩⟩⟩
  exact ⟨⟨v0, v1, v2⟩, rfl, ⟨h0⟩⟩
theorem op64 : OpP Tryz.prog 64 (fun H cs => ∃ s : Sl Backend, cs = [s.v] ∧ Sl.Ok 140737488355329 H s) := OpP.sl Tryz.underlying64 (by kernel_rfl) (by kernel_rfl) op68
theorem sf66 : sfOf Tryz.prog 66 = some ([(62, 0), (63, 1), (64, 2)], 3) := by kernel_rfl
theorem op66 : OpP Tryz.prog 66 (fun H cs => ∃ x : Rule, cs = Enc.c x ∧ Enc.ok 140737488355329 H x) := by
  refine OpP.mono (OpP.st sf66 (OpFs.cons (n := 1) (by kernel_rfl) op62 (OpFs.cons (n := 1) (by kernel_rfl) op63 (OpFs.cons (n := 1) (by kernel_rfl) op64 (OpFs.nil rfl))))) ?_
  rintro H _ ⟨_, _, rfl, ⟨v0, rfl, h0⟩, ⟨_, _, rfl, ⟨v1, rfl, h1⟩, ⟨_, _, rfl, ⟨v2, rfl, h2⟩, rfl⟩⟩⟩
  exact ⟨⟨v0, v1, v2⟩, rfl, ⟨h0, h1, h2⟩⟩
theorem op29 : OpP Tryz.prog 29 (fun H cs => ∃ s : Sl Rule, cs = [s.v] ∧ Sl.Ok 140737488355329 H s) := OpP.sl Tryz.underlying29 (by kernel_rfl) (by kernel_rfl) op66
theorem sf41 : sfOf Tryz.prog 41 = some ([(3, 0), (9, 1), (9, 2)], 3) := by kernel_rfl
theorem op41 : OpP Tryz.prog 41 (fun H cs => ∃ x : Side, cs = Enc.c x ∧ Enc.ok 140737488355329 H x) := by
  refine OpP.mono (OpP.st sf41 (OpFs.cons (n := 1) (by kernel_rfl) (OpP.int Tryz.underlying3) (OpFs.cons (n := 1) (by kernel_rfl) (OpP.str Tryz.underlying9) (OpFs.cons (n := 1) (by kernel_rfl) (OpP.str Tryz.underlying9) (OpFs.nil rfl))))) ?_
  rintro H _ ⟨_, _, rfl, ⟨v0, rfl⟩, ⟨_, _, rfl, ⟨v1, rfl, h1⟩, ⟨_, _, rfl, ⟨v2, rfl, h2⟩, rfl⟩⟩⟩
  exact ⟨⟨v0, v1, v2⟩, rfl, ⟨h1, h2⟩⟩
theorem op30 : OpP Tryz.prog 30 (fun H cs => ∃ s : Sl Side, cs = [s.v] ∧ Sl.Ok 140737488355329 H s) := OpP.sl Tryz.underlying30 (by kernel_rfl) (by kernel_rfl) op41
theorem sf32 : sfOf Tryz.prog 32 = some ([(23, 0), (4, 3), (24, 4), (25, 5), (9, 6), (26, 7), (27, 8), (28, 9), (29, 10), (30, 11), (30, 12)], 13) := by kernel_rfl
theorem op32 : OpP Tryz.prog 32 (fun H cs => ∃ x : Object, cs = Enc.c x ∧ Enc.ok 140737488355329 H x) := by
  refine OpP.mono (OpP.st sf32 (OpFs.cons (n := 3) (by kernel_rfl) op23 (OpFs.cons (n := 1) (by kernel_rfl) (OpP.bool Tryz.underlying4) (OpFs.cons (n := 1) (by kernel_rfl) op24 (OpFs.cons (n := 1) (by kernel_rfl) op25 (OpFs.cons (n := 1) (by kernel_rfl) (OpP.str Tryz.underlying9) (OpFs.cons (n := 1) (by kernel_rfl) op26 (OpFs.cons (n := 1) (by kernel_rfl) op27 (OpFs.cons (n := 1) (by kernel_rfl) op28 (OpFs.cons (n := 1) (by kernel_rfl) op29 (OpFs.cons (n := 1) (by kernel_rfl) op30 (OpFs.cons (n := 1) (by kernel_rfl) op30 (OpFs.nil rfl))))))))))))) ?_
  rintro H _ ⟨_, _, rfl, ⟨v0, rfl, h0⟩, ⟨_, _, rfl, ⟨v1, rfl⟩, ⟨_, _, rfl, ⟨v2, rfl, h2⟩, ⟨_, _, rfl, ⟨v3, rfl, h3⟩, ⟨_, _, rfl, ⟨v4, rfl, h4⟩, ⟨_, _, rfl, ⟨v5, rfl, h5⟩, ⟨_, _, rfl, ⟨v6, rfl, h6⟩, ⟨_, _, rfl, ⟨v7, rfl, h7⟩, ⟨_, _, rfl, ⟨v8, rfl, h8⟩, ⟨_, _, rfl, ⟨v9, rfl, h9⟩, ⟨_, _, rfl, ⟨v10, rfl, h10⟩, rfl⟩⟩⟩⟩⟩⟩⟩⟩⟩⟩⟩
  exact ⟨⟨v0, v1, v2, v3, v4, v5, v6, v7, v8, v9, v10⟩, rfl, ⟨h0, h2, h3, h4, h5, h6, h7, h8, h9, h10⟩⟩
theorem op43 : OpP Tryz.prog 43 (fun H cs => ∃ s : Sl Object, cs = [s.v] ∧ Sl.Ok 140737488355329 H s) := OpP.sl Tryz.underlying43 (by kernel_rfl) (by kernel_rfl) op32
theorem sf45 : sfOf Tryz.prog 45 = some ([(43, 0), (3, 1), (9, 2), (23, 3)], 6) := by kernel_rfl
theorem op45 : OpP Tryz.prog 45 (fun H cs => ∃ x : Ask11, cs = Enc.c x ∧ Enc.ok 140737488355329 H x) := by
  refine OpP.mono (OpP.st sf45 (OpFs.cons (n := 1) (by kernel_rfl) op43 (OpFs.cons (n := 1) (by kernel_rfl) (OpP.int Tryz.underlying3) (OpFs.cons (n := 1) (by kernel_rfl) (OpP.str Tryz.underlying9) (OpFs.cons (n := 3) (by kernel_rfl) op23 (OpFs.nil rfl)))))) ?_
  rintro H _ ⟨_, _, rfl, ⟨v0, rfl, h0⟩, ⟨_, _, rfl, ⟨v1, rfl⟩, ⟨_, _, rfl, ⟨v2, rfl, h2⟩, ⟨_, _, rfl, ⟨v3, rfl, h3⟩, rfl⟩⟩⟩⟩
  exact ⟨⟨v0, v1, v2, v3⟩, rfl, ⟨h0, h2, h3⟩⟩
end Go.Proofs.TB
