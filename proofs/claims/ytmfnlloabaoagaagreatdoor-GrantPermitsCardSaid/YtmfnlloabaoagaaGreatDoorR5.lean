/- The row of the law GrantPermits: for every input it returns true and what came in reads as it did; and its card, tied to the program's text. Conditions: none beside the row's own cells. -/
import Derived.Test.YtmfnlloabaoagaaGreatDoorRows
import Derived.Test.YtmfnlloabaoagaaGreatDoorCards
import Derived.Test.YtmfnlloabaoagaaGreatDoorTie
import Derived.Test.YtmfnlloabaoagaaGreatDoorTS
import Derived.Test.YtmfnlloabaoagaaGreatDoorPF
import Derived.WalkKit
import Derived.ProofKit
import Derived.OpenShut
import Derived.LaidMore
import Derived.Lay
import Derived.SevenTiedAt
import Derived.Stop.Joined
import Derived.Carry
import Derived.SizedLaws
set_option linter.unusedVariables false
set_option maxRecDepth 100000
namespace Go.Proofs.YtmfnlloabaoagaaGreatDoor.grantPermits
open Go.ChangeShapes Go.WideShapes Go.ChangeAt Go.RowKit Go.Proofs.TB
open Go.ChangeMaps (open_string shut_string)
theorem own : ownKnob Tryz.prog.godebug = none := by kernel_rfl
theorem laidOut : laidOutB Tryz.prog = true := by kernel_rfl
theorem agg_of {v : Value} {l : List Value} (h : v.cells.toList = l) (hl : Nat.beq l.length 1 = false) : v = .agg l.toArray := by
  cases v <;> first | (subst h; cases hl; done) | (subst h; rfl) | skip
theorem row_tie : Rows.grantPermitsRow.laidByTextAt .later Tryz.pinned [.data, .pinned] true := grantPermits_row_tie
theorem walk5 (x0 : Ask11) (W : World) (o0 : Enc.ok 140737488355329 (heapOf W) x0) : Calls Tryz.prog 5 #[Ask11.v x0] W fun e W' => e = .returned (.bool true) ∧ Below W.heap.size W W' := by
  refine Calls.mono (c5 x0 (H := heapOf W) (fun b o e => e) o0) ?_
  rintro e W' ⟨v, H', rfl, st, hp⟩
  refine ⟨?_, st.bel⟩
  obtain ⟨x, rfl⟩ := hp
  rw [law5]
theorem lifted (os : Os) (started : os.Started) (H : Type) (enc : TypeId × Value → H) :
    ReturnsInHanded {} Tryz.checked os 5 .any (fun w args => (Rows.grantPermitsSpec.pre enc Tryz.prog Tryz.f5 [] false w args ∧ laidMetH Tryz.prog Rows.grantPermitsRow.laid w) ∧ sizedMet enc Tryz.prog Tryz.f5 (OpenSpec.ofChange Rows.grantPermitsSpec) false w args) (Rows.grantPermitsSpec.post enc Tryz.prog Tryz.f5 false true false false) := by
  refine returnsInHanded_of_change_and (C := Tryz.checked) (X := fun w _ => laidMetH Tryz.prog Rows.grantPermitsRow.laid w) (fun _ _ _ hh h => h.of_heap hh) own started (by kernel_rfl) Tryz.func5
    (ChangeSpec.witness_shaped (enc := enc) (C := Tryz.checked) (os := os) (X := fun w _ => laidMetH Tryz.prog Rows.grantPermitsRow.laid w) false (World.laidAll Tryz.prog os Rows.grantPermitsRow.laid) #[.agg #[.slice none 0 0, .int .i64 0, .string ⟨#[]⟩, .int .i64 0, .string ⟨#[]⟩, .string ⟨#[]⟩]] 8 (World.laidAll_os _ _ _)
      (World.shaped_of_ZipB (by kernel_rfl) (by kernel_rfl)) (by kernel_rfl) (by kernel_rfl) (by kernel_rfl)
      (by rw [MakeChecks.laidMetH_plain _ _ _ (by kernel_rfl)]; exact laidMet_laidAll _ (by kernel_rfl) (by kernel_rfl))) ?_
  intro W base args ds gs before hval0 hW hc hsz0 hL _
  have hsz : (DataW.weightsEach Tryz.prog (Tryz.f5.params.toList ++ Rows.grantPermitsSpec.plain.varTypes Tryz.prog) (ds ++ gs)).all (· ≤ reachBytes) = true := hsz0
  have hval : ∀ (j : Nat) t v, Tryz.f5.params[j]? = some t → args[j]? = some v → Value.okWide Tryz.prog W .any base t v := hval0
  have hW' := hW
  obtain ⟨p, q, hA0, hV, rfl, hfz, hnd⟩ := hW
  have hA : DataW.TrodAll enc Tryz.prog W 0 (fun _ => true) true Tryz.f5.params.toList args.toList ds p := hA0
  rw [Tryz.params5] at hA hval hsz
  obtain ⟨v0, vs0, d0, ds0, p0, q0, hargs, rfl, rfl, h0, r0⟩ := trodAll_cons hA
  obtain ⟨rfl, rfl, rfl⟩ := trodAll_nil r0
  obtain rfl : args = #[v0] := by cases args; simp_all
  obtain ⟨rfl, rfl⟩ := trodVars_none hV
  have k0 := h0
  have lt0 : ∀ x ∈ p0, x.block < W.heap.size := by obtain ⟨m, hm⟩ := k0; exact DataW.trod_lt m _ _ _ hm
  obtain ⟨x0, e0, o0⟩ := OpP.arg op45 h0 (weights_arg hsz (j := 0) rfl rfl)
  obtain rfl : v0 = Ask11.v x0 := agg_of e0 rfl
  clear hA0 hval0 hsz0 hsz hval
  refine (walk5 x0 W o0).mono fun e W' ⟨he, bel⟩ => ?_
  subst he
  exact ⟨_, rfl, _, _, _, [], _, [], hW', trodAll_mk1 (shut_bool Tryz.underlying4 _), (trodAll_cons_mk (Below.trod laidOut (by kernel_rfl) (of_decide_eq_true (by kernel_rfl)) k0 bel lt0) trodAll_mk0), rfl, bel.frame _, fun h => by cases h⟩
end Go.Proofs.YtmfnlloabaoagaaGreatDoor.grantPermits
