import Derived.Test.YtmfnlloabaoagaaGreatDoorTL
import Derived.Test.YtmfnlloabaoagaaGreatDoorTT
import Derived.Test.YtmfnlloabaoagaaGreatDoorGC
import Derived.Test.YtmfnlloabaoagaaGreatDoorProg
import Derived.KernelRfl
set_option linter.unusedVariables false
set_option maxRecDepth 100000
namespace Go.Proofs.TB
open Go.RowKit
theorem en14 : En Tryz.prog 14 := En.of Tryz.func14 (by kernel_rfl) rfl
theorem en15 : En Tryz.prog 15 := En.of Tryz.func15 (by kernel_rfl) rfl
theorem en16 : En Tryz.prog 16 := En.of Tryz.func16 (by kernel_rfl) rfl
theorem en73 : En Tryz.prog 73 := En.of Tryz.func73 (by kernel_rfl) rfl
theorem en74 : En Tryz.prog 74 := En.of Tryz.func74 (by kernel_rfl) rfl
theorem en75 : En Tryz.prog 75 := En.of Tryz.func75 (by kernel_rfl) rfl
theorem en76 : En Tryz.prog 76 := En.of Tryz.func76 (by kernel_rfl) rfl
theorem en77 : En Tryz.prog 77 := En.of Tryz.func77 (by kernel_rfl) rfl
theorem en130 : En Tryz.prog 130 := En.of Tryz.func130 (by kernel_rfl) rfl
theorem ap24 : apOf Tryz.prog 24 = some (182, .agg #[.string ⟨#[]⟩, .string ⟨#[]⟩], 2, 32) := by kernel_rfl
theorem ap25 : apOf Tryz.prog 25 = some (3, .int .i64 0, 1, 8) := by kernel_rfl
theorem ap26 : apOf Tryz.prog 26 = some (94, .agg #[.string ⟨#[]⟩, .int .i64 0, .bool false, .string ⟨#[]⟩, .int .i64 0, .string ⟨#[]⟩, .string ⟨#[]⟩, .int .i64 0, .slice none 0 0], 9, 120) := by kernel_rfl
theorem ap27 : apOf Tryz.prog 27 = some (99, .agg #[.string ⟨#[]⟩, .string ⟨#[]⟩, .string ⟨#[]⟩, .int .i64 0], 4, 56) := by kernel_rfl
theorem ap29 : apOf Tryz.prog 29 = some (66, .agg #[.slice none 0 0, .slice none 0 0, .slice none 0 0], 3, 72) := by kernel_rfl
theorem ap30 : apOf Tryz.prog 30 = some (41, .agg #[.int .i64 0, .string ⟨#[]⟩, .string ⟨#[]⟩], 3, 40) := by kernel_rfl
theorem ap62 : apOf Tryz.prog 62 = some (124, .agg #[.int .i64 0, .string ⟨#[]⟩, .string ⟨#[]⟩, .slice none 0 0, .slice none 0 0], 5, 88) := by kernel_rfl
theorem ap63 : apOf Tryz.prog 63 = some (186, .agg #[.int .i64 0, .string ⟨#[]⟩, .string ⟨#[]⟩, .string ⟨#[]⟩, .int .i64 0, .string ⟨#[]⟩, .bool false, .int .i64 0], 8, 96) := by kernel_rfl
theorem ap64 : apOf Tryz.prog 64 = some (68, .agg #[.int .i64 0, .string ⟨#[]⟩, .string ⟨#[]⟩, .int .i64 0, .int .i64 0], 5, 56) := by kernel_rfl
theorem ap92 : apOf Tryz.prog 92 = some (184, .agg #[.int .i64 0, .string ⟨#[]⟩, .slice none 0 0], 3, 48) := by kernel_rfl
theorem ze23 : zeOf Tryz.prog 23 = some (.agg #[.int .i64 0, .string ⟨#[]⟩, .string ⟨#[]⟩]) := by kernel_rfl
theorem ze122 : zeOf Tryz.prog 122 = some (.agg #[.int .i64 0, .string ⟨#[]⟩]) := by kernel_rfl
theorem ze186 : zeOf Tryz.prog 186 = some (.agg #[.int .i64 0, .string ⟨#[]⟩, .string ⟨#[]⟩, .string ⟨#[]⟩, .int .i64 0, .string ⟨#[]⟩, .bool false, .int .i64 0]) := by kernel_rfl
theorem st41 : stOf Tryz.prog 41 = some ([(0, 1), (1, 1), (2, 1)], .agg #[.int .i64 0, .string ⟨#[]⟩, .string ⟨#[]⟩]) := by kernel_rfl
theorem st66 : stOf Tryz.prog 66 = some ([(0, 1), (1, 1), (2, 1)], .agg #[.slice none 0 0, .slice none 0 0, .slice none 0 0]) := by kernel_rfl
theorem st68 : stOf Tryz.prog 68 = some ([(0, 3), (3, 1), (4, 1)], .agg #[.int .i64 0, .string ⟨#[]⟩, .string ⟨#[]⟩, .int .i64 0, .int .i64 0]) := by kernel_rfl
theorem st94 : stOf Tryz.prog 94 = some ([(0, 1), (1, 1), (2, 1), (3, 1), (4, 3), (7, 1), (8, 1)], .agg #[.string ⟨#[]⟩, .int .i64 0, .bool false, .string ⟨#[]⟩, .int .i64 0, .string ⟨#[]⟩, .string ⟨#[]⟩, .int .i64 0, .slice none 0 0]) := by kernel_rfl
theorem st99 : stOf Tryz.prog 99 = some ([(0, 1), (1, 1), (2, 1), (3, 1)], .agg #[.string ⟨#[]⟩, .string ⟨#[]⟩, .string ⟨#[]⟩, .int .i64 0]) := by kernel_rfl
theorem st124 : stOf Tryz.prog 124 = some ([(0, 2), (2, 1), (3, 1), (4, 1)], .agg #[.int .i64 0, .string ⟨#[]⟩, .string ⟨#[]⟩, .slice none 0 0, .slice none 0 0]) := by kernel_rfl
theorem st182 : stOf Tryz.prog 182 = some ([(0, 1), (1, 1)], .agg #[.string ⟨#[]⟩, .string ⟨#[]⟩]) := by kernel_rfl
theorem st184 : stOf Tryz.prog 184 = some ([(0, 1), (1, 1), (2, 1)], .agg #[.int .i64 0, .string ⟨#[]⟩, .slice none 0 0]) := by kernel_rfl
/-! toll tolllaw01.Few -/
theorem c16 (a0 : ByteArray) {w : World} {H : PH} (hs : Sub H w) (k0p : a0.size < 140737488355329) : Spec Tryz.prog 16 [.string a0].toArray w H (fun H' v => ∃ (x0 : ByteArray), v = .string x0 ∧ x0.size < 1048576) := by
 refine Spec.enter Tryz.func16 rfl Tryz.ntmps16 rfl ?_
 have st := St.start hs
 refine CW.seq (CW.reg (WL.as rfl (WL.nt (CW.seq (CW.seq (CW.reg (WL.mv rfl ?_)))))))
 have z1 := k0p
 refine WL.pv (Pu.lenstr rfl Tryz.underlying9) (WL.pv (Pu.igt rfl rfl) (WL.nt ?_))
 refine CW.condP 5 rfl dT dF (fun h2 => ?_) (fun h2 => ?_)
 ·refine CW.seq (CW.reg (WL.mv rfl (WL.pv (Pu.slh rfl rfl Tryz.underlying9 (by omega) (by omega)) (WL.as rfl (WL.nt ?_)))))
  refine CW.ret (QX.thenR (finA Tryz.results16 st (.tmp rfl .nil) ?_))
  exact ⟨a0.extract 0 100, rfl, (by first|omega|simp<;>omega)⟩
 ·refine CW.skip (QX.thenN ?_)
  refine CW.seq (CW.reg (WL.mv rfl (WL.as rfl (WL.nt ?_))))
  refine CW.ret (finA Tryz.results16 st (.tmp rfl .nil) ?_)
  exact ⟨a0, rfl, (by first|omega|simp<;>omega)⟩
/-! toll tolllaw09.FewRef -/
theorem c15 (a0 : Ref) {w : World} {H : PH} (hs : Sub H w) (k0p : Ref.Ok 140737488355329 H a0) : Spec Tryz.prog 15 [Ref.v a0].toArray w H (fun H' v => ∃ (x0 : Ref), v = Ref.v x0 ∧ Ref.Ok 1048576 H' x0) := by
 refine Spec.enter Tryz.func15 rfl Tryz.ntmps15 rfl ?_
 have st := St.start hs
 refine CW.seq (CW.reg ?_)
 refine WL.box rfl rfl rfl rfl st ?_
 intro b1 W2 H3 st l4 f5
 refine WL.alloco (c := #[.int .i64 0, .string (⟨#[]⟩ : ByteArray), .string (⟨#[]⟩ : ByteArray)]) rfl rfl ze23 rfl st ?_
 intro b6 W7 st
 refine WL.nt (CW.seq ?_)
 refine CW.regS (C := Cl w H3 [Own.box b6 (.cells #[.int .i64 0, .string (⟨#[]⟩ : ByteArray), .string (⟨#[]⟩ : ByteArray)] 23 (0, 0))]) (tail := [9]) (S := Grew w H H3 [Own.box b6 (.cells #[.int .i64 0, .string (⟨#[]⟩ : ByteArray), .string (⟨#[]⟩ : ByteArray)] 23 (0, 0))]) mixed (fun W' h1 h2 h3 h4 => grew_start st h1 h2 h3 h4) (n := 10) rfl ?_
 refine WS.pk 0 rfl gg (fun W hC => Pu.fa rfl fo23_0) ?_
 refine WS.pk 1 rfl gg (fun W hC => Pu.load rfl ty3 ((f5.drop 0).w hC.1) rfl) ?_
 refine WS.pk 2 rfl gg (fun W hC => Pu.fa rfl fo23_1) ?_
 refine WS.pk 3 rfl gg (fun W hC => Pu.load rfl ty9 ((f5.drop 1).w hC.1) rfl) ?_
 refine WS.pk 5 rfl gg (fun W hC => Pu.fa rfl fo23_2) ?_
 refine WS.pk 6 rfl gg (fun W hC => Pu.load rfl ty9 ((f5.drop 2).w hC.1) rfl) ?_
 refine WS.one (i := 4) (by kernel_rfl) ?_
 refine WO.call 4 rfl rfl rfl (fun _ H' l => good_grew ((Le.refl _).trans l) (fun _ h => h)) en16 rfl rfl (fun W H' hs' l => c16 a0.space hs' k0p.space) ?_
 rintro _ H8 l9 ⟨x10, rfl, k11⟩
 refine WS.one (i := 7) (by kernel_rfl) ?_
 refine WO.call 7 rfl rfl rfl (fun _ H' l => good_grew (l9.trans l) (fun _ h => h)) en16 rfl rfl (fun W H' hs' l => c16 a0.name hs' k0p.name) ?_
 rintro _ H13 l14 ⟨x15, rfl, k16⟩
 refine WS.pk 8 rfl (good_grew (l9.trans l14) (fun _ h => h)) (fun W hC => Pu.buildL (cs := Ref.c (⟨a0.kind, x10, x15⟩ : Ref)) st23 rfl rfl rfl) ?_
 refine WS.one (i := 9) (by kernel_rfl) ?_
 refine WO.store (o := 0) (c' := [.int .i64 a0.kind, .string x10, .string x15]) 9 rfl rfl (tlT (by kernel_rfl)) rfl rfl rfl ty23 rfl (Enc.one (α := Ref) _) rfl rfl ?_
 intro H18 l19
 refine WS.fin (by kernel_rfl) (fun W22 H20 st l21 => ?_)
 refine QX.thenN ?_
 refine CW.ret (fun a ha => finR Tryz.results15 st (.cell (v := Ref.v (⟨a0.kind, x10, x15⟩ : Ref)) rfl ty23 (AtW.block (st.own _ (.head _)).1.2) rfl .nil) ?_ ha)
 exact ⟨(⟨a0.kind, x10, x15⟩ : Ref), rfl, ⟨k11, k16⟩⟩
/-! toll tolllaw05.Few -/
theorem c73 (a0 : Sl Pair) {w : World} {H : PH} (hs : Sub H w) (k0p : Sl.Ok 140737488355329 H a0) : Spec Tryz.prog 73 [a0.v].toArray w H (fun H' v => ∃ (x0 : Sl Pair), v = x0.v ∧ Sl.Ok 1048576 H' x0) := by
 refine Spec.enter Tryz.func73 rfl Tryz.ntmps73 rfl ?_
 have st := St.start hs
 refine CW.seq (CW.reg (WL.as rfl (WL.nt (CW.seq (CW.reg (WL.as rfl (WL.nt (CW.seq (CW.seq ?_)))))))))
 refine CW.reg (WL.as rfl (WL.nt ?_))
 replace st := st.rownilS (α := Pair) 182
 refine (CW.cuts (fun (s : (List Pair) × Value) W => (∃ H', St w W H H' [rowS (α := Pair) s.2 182 s.1] ∧ Le H H' ∧ OkL 1048576 H' s.1 ∧ (s.1.length : Int) ≤ (31))) (fun (s : (List Pair) × Value) => [(3, s.2)]) ?_ ?_)
 ·refine CW.blk (CW.loop (fun (s : Nat × (List Pair) × Int × Value) W => (∃ H', St w W H H' [rowS (α := Pair) s.2.2.2 182 s.2.1] ∧ Le H H' ∧ OkL 1048576 H' s.2.1 ∧ (s.2.1.length : Int) ≤ s.2.2.1) ∧ 0 ≤ s.2.2.1 ∧ s.2.2.1 ≤ (a0.l.length : Int) ∧ s.2.2.1 ≤ 31 ∧ s.1 = ((a0.l.length : Int) - s.2.2.1).toNat) (fun (s : Nat × (List Pair) × Int × Value) => [(0, a0.v), (3, s.2.2.2), (4, Value.int .i64 s.2.2.1)]) (fun s => s.1) ⟨((a0.l.length : Int) - 0).toNat, ([] : List Pair), 0, (.slice none 0 0)⟩ ⟨⟨_, st, Le.refl _, OkL.nil, (by first|omega|simp<;>omega)⟩, (by first|omega|simp<;>omega), (by first|omega|simp<;>omega), (by first|omega|simp<;>omega), rfl⟩ (.cons rfl (.cons rfl (.cons rfl (.nil _)))) ?_)
  rintro ⟨N16, r1, r3, v2⟩ W9 ⟨⟨H7, st, l8, k14, g15⟩, g52, g53, g54, g13⟩
  replace g52 : 0 ≤ r3 := g52
  replace g53 : r3 ≤ (a0.l.length : Int) := g53
  replace g54 : r3 ≤ 31 := g54
  replace g13 : N16 = ((a0.l.length : Int) - r3).toNat := g13
  obtain ⟨v2A, v2m, v2c, rfl⟩ := row_form st (.head _)
  replace st : St w _ _ _ [rowS (α := Pair) (.slice v2A v2m v2c) 182 r1] := st
  replace k14 : OkL 1048576 H7 r1 := k14
  replace g15 : (r1.length : Int) ≤ r3 := g15
  show CW _ _ _ _ [(0, a0.v), (3, (.slice v2A v2m v2c)), (4, Value.int .i64 r3)] _
  refine CW.seq (CW.seq (CW.reg (WL.mv rfl (WL.mv rfl ?_))))
  have z17 : a0.l.length ≤ 140737488355329 := (k0p.le l8).top
  refine WL.pv (Pu.lens (n := a0.l.length) rfl sl24) (WL.pv (Pu.ilt rfl rfl) (WL.mv rfl ?_))
  refine WL.splitP 9 rfl dT dF (fun h18 => ?_) (fun h18 => ?_)
  ·obtain ⟨n4, rfl⟩ : ∃ k, N16 = k + 1 := ⟨N16 - 1, by omega⟩
   refine WL.mv rfl (WL.pv (Pu.ilt rfl rfl) (WL.pv (Pu.pickT rfl rfl) (WL.nt ?_)))
   refine CW.condP 12 rfl dT dF (fun h19 => ?_) (fun h19 => ?_)
   ·refine CW.skip (QX.thenN ?_)
    refine CW.seq ?_
    refine CW.blk ?_
    refine CW.regS (C := Cl w H7 []) (tail := []) (S := Grew w H H7 [rowS (α := Pair) (.slice v2A v2m v2c) 182 r1]) mixed (fun W' h1 h2 h3 h4 => grew_start st h1 h2 h3 h4) (n := 17) rfl ?_
    refine WS.pk 0 rfl (good_grew (Le.refl _) (fun _ h => .tail _ (h))) (fun W hC => Pu.move rfl) ?_
    refine WS.pk 1 rfl (good_grew (Le.refl _) (fun _ h => .tail _ (h))) (fun W hC => Pu.move rfl) ?_
    refine WS.pk 2 rfl (good_grew (Le.refl _) (fun _ h => .tail _ (h))) (fun W hC => Pu.move rfl) ?_
    have y20 := lg_get (l := a0.l) (i := r3) (by omega) (by omega)
    have k23 : Pair.Ok 140737488355329 H7 (lg a0.l r3) := ((k0p.le l8).get _ _ y20).2
    obtain ⟨ad21, qa24, f22⟩ := ((k0p.le l8).get _ _ y20).1
    refine WS.pk 3 rfl (good_grew (Le.refl _) (fun _ h => .tail _ (h))) (fun W hC => Pu.idx0 rfl rfl sl24 (by first|omega|simp<;>omega) (by first|omega|simp<;>omega) qa24) ?_
    refine WS.pk 4 rfl (good_grew (Le.refl _) (fun _ h => .tail _ (h))) (fun W hC => Pu.fa rfl fo182_0) ?_
    refine WS.pk 5 rfl (good_grew (Le.refl _) (fun _ h => .tail _ (h))) (fun W hC => Pu.load rfl ty9 ((f22.drop 0).w hC.1) rfl) ?_
    refine WS.pk 7 rfl (good_grew (Le.refl _) (fun _ h => .tail _ (h))) (fun W hC => Pu.move rfl) ?_
    refine WS.pk 8 rfl (good_grew (Le.refl _) (fun _ h => .tail _ (h))) (fun W hC => Pu.move rfl) ?_
    have y25 := lg_get (l := a0.l) (i := r3) (by omega) (by omega)
    have k28 : Pair.Ok 140737488355329 H7 (lg a0.l r3) := ((k0p.le l8).get _ _ y25).2
    obtain ⟨ad26, qa29, f27⟩ := ((k0p.le l8).get _ _ y25).1
    refine WS.pk 9 rfl (good_grew (Le.refl _) (fun _ h => .tail _ (h))) (fun W hC => Pu.idx0 rfl rfl sl24 (by first|omega|simp<;>omega) (by first|omega|simp<;>omega) qa29) ?_
    refine WS.pk 10 rfl (good_grew (Le.refl _) (fun _ h => .tail _ (h))) (fun W hC => Pu.fa rfl fo182_1) ?_
    refine WS.pk 11 rfl (good_grew (Le.refl _) (fun _ h => .tail _ (h))) (fun W hC => Pu.load rfl ty9 ((f27.drop 1).w hC.1) rfl) ?_
    refine WS.one (i := 6) (by kernel_rfl) ?_
    refine WO.call 6 rfl rfl rfl (fun _ H' l => good_grew ((Le.refl _).trans l) (fun _ h => .tail _ (h))) en16 rfl rfl (fun W H' hs' l => c16 ((lg a0.l r3).name) hs' k23.name) ?_
    rintro _ H30 l31 ⟨x32, rfl, k33⟩
    refine WS.one (i := 12) (by kernel_rfl) ?_
    refine WO.call 12 rfl rfl rfl (fun _ H' l => good_grew (l31.trans l) (fun _ h => .tail _ (h))) en16 rfl rfl (fun W H' hs' l => c16 ((lg a0.l r3).val) hs' k28.val) ?_
    rintro _ H35 l36 ⟨x37, rfl, k38⟩
    refine WS.pk 13 rfl (good_grew (l31.trans l36) (fun _ h => .tail _ (h))) (fun W hC => Pu.buildL (cs := Pair.c (⟨x32, x37⟩ : Pair)) st182 rfl rfl rfl) ?_
    refine WS.one (i := 14) (by kernel_rfl) ?_
    refine WO.lit (M := 1048576) ([(⟨x32, x37⟩ : Pair)] : List Pair) 14 rfl rfl rfl (fun _ H' l => good_grew ((l31.trans l36).trans l) (fun _ h => .tail _ (h))) ap24 rfl rfl rfl rfl rfl rfl rfl rfl rfl (by decide) (OkL.cons (show Pair.Ok _ _ (⟨x32, x37⟩ : Pair) from ⟨k33, k38⟩) OkL.nil) ?_
    intro b40 H41 l42 k43
    refine WS.one (i := 15) (by kernel_rfl) ?_
    refine WO.appS (s2 := (⟨some ⟨b40, 0, none⟩, 1, ([(⟨x32, x37⟩ : Pair)] : List Pair)⟩ : Sl Pair)) 15 rfl rfl rfl (fun _ A m c H' l => good_grew (((l31.trans l36).trans l42).trans l) (fun _ h => .tail _ (h))) ap24 rfl rfl rfl rfl rfl k43 (by first|omega|simp<;>omega) (by first|omega|simp<;>omega) ?_
    intro A44 mm45 n46 H47 l48
    refine WS.pk 16 rfl (good_grew (((l31.trans l36).trans l42).trans l48) (fun _ h => .tail _ (h))) (fun W hC => Pu.assign rfl) ?_
    refine WS.fin (by kernel_rfl) (fun W51 H49 st l50 => ?_)
    refine QX.blkN (QX.thenN ?_)
    refine CW.reg (WL.mv rfl (WL.pv (Pu.iadd rfl rfl (c := r3 + 1) (w64 (by omega) (by omega))) (WL.as rfl ?_)))
    refine WL.nil (QX.round ⟨n4, r1 ++ ([(⟨x32, x37⟩ : Pair)] : List Pair), r3 + 1, (.slice A44 mm45 n46)⟩ ?_ (Nat.lt_succ_self _) (.cons rfl (.cons rfl (.cons rfl (.nil _)))))
    exact ⟨⟨_, st, (((((l8.trans l31).trans l36).trans l42).trans l48).trans l50), (OkL.app (k14.le ((((l31.trans l36).trans l42).trans l48).trans l50)) (OkL.cons (show Pair.Ok _ _ (⟨x32, x37⟩ : Pair) from ⟨k33, k38⟩) OkL.nil)), (by first|omega|simp<;>omega)⟩, (by first|omega|simp<;>omega), (by first|omega|simp<;>omega), (by first|omega|simp<;>omega), (by first|omega|simp<;>omega)⟩
   ·refine CW.exit (QX.thenE (QX.thenE (QX.hit (QX.meets ⟨r1, (.slice v2A v2m v2c)⟩ ?_ (.cons rfl (.nil _))))))
    exact ⟨_, st, l8, k14, (by first|omega|simp<;>omega)⟩
  ·obtain rfl : N16 = 0 := by omega
   refine WL.of (WL.of (WL.pv (Pu.pickF rfl rfl) (WL.nt ?_)))
   refine CW.condF rfl ?_
   refine CW.exit (QX.thenE (QX.thenE (QX.hit (QX.meets ⟨r1, (.slice v2A v2m v2c)⟩ ?_ (.cons rfl (.nil _))))))
   exact ⟨_, st, l8, k14, (by first|omega|simp<;>omega)⟩
 rintro ⟨r5, v6⟩ W57 ⟨H55, st, l56, k59, g60⟩
 obtain ⟨v6A, v6m, v6c, rfl⟩ := row_form st (.head _)
 replace st : St w _ _ _ [rowS (α := Pair) (.slice v6A v6m v6c) 182 r5] := st
 replace k59 : OkL 1048576 H55 r5 := k59
 replace g60 : (r5.length : Int) ≤ (31) := g60
 show QX _ _ _ [(3, (.slice v6A v6m v6c))] _
 refine QX.thenN (CW.seq (CW.reg (WL.mv rfl (WL.as rfl (WL.nt ?_)))))
 obtain ⟨H61, st', l62, rfl, k63⟩ := st.settle (M := 1048576) k59 (by first|omega|simp<;>omega)
 have st := st'
 refine CW.ret (finA Tryz.results73 st (.tmp rfl .nil) ?_)
 exact ⟨(⟨v6A, v6c, r5⟩ : Sl Pair), rfl, k63⟩
/-! toll tolllaw09.sides -/
theorem c74 (a0 : Sl Side) {w : World} {H : PH} (hs : Sub H w) (k0p : Sl.Ok 140737488355329 H a0) : Spec Tryz.prog 74 [a0.v].toArray w H (fun H' v => ∃ (x0 : Sl Side), v = x0.v ∧ Sl.Ok 1048576 H' x0) := by
 refine Spec.enter Tryz.func74 rfl Tryz.ntmps74 rfl ?_
 have st := St.start hs
 refine CW.seq (CW.reg (WL.as rfl (WL.nt (CW.seq (CW.reg (WL.as rfl (WL.nt (CW.seq (CW.seq ?_)))))))))
 refine CW.reg (WL.as rfl (WL.nt ?_))
 replace st := st.rownilS (α := Side) 41
 refine (CW.cuts (fun (s : (List Side) × Value) W => (∃ H', St w W H H' [rowS (α := Side) s.2 41 s.1] ∧ Le H H' ∧ OkL 1048576 H' s.1 ∧ (s.1.length : Int) ≤ (5))) (fun (s : (List Side) × Value) => [(3, s.2)]) ?_ ?_)
 ·refine CW.blk (CW.loop (fun (s : Nat × (List Side) × Int × Value) W => (∃ H', St w W H H' [rowS (α := Side) s.2.2.2 41 s.2.1] ∧ Le H H' ∧ OkL 1048576 H' s.2.1 ∧ (s.2.1.length : Int) ≤ s.2.2.1) ∧ 0 ≤ s.2.2.1 ∧ s.2.2.1 ≤ (a0.l.length : Int) ∧ s.2.2.1 ≤ 5 ∧ s.1 = ((a0.l.length : Int) - s.2.2.1).toNat) (fun (s : Nat × (List Side) × Int × Value) => [(0, a0.v), (3, s.2.2.2), (4, Value.int .i64 s.2.2.1)]) (fun s => s.1) ⟨((a0.l.length : Int) - 0).toNat, ([] : List Side), 0, (.slice none 0 0)⟩ ⟨⟨_, st, Le.refl _, OkL.nil, (by first|omega|simp<;>omega)⟩, (by first|omega|simp<;>omega), (by first|omega|simp<;>omega), (by first|omega|simp<;>omega), rfl⟩ (.cons rfl (.cons rfl (.cons rfl (.nil _)))) ?_)
  rintro ⟨N16, r1, r3, v2⟩ W9 ⟨⟨H7, st, l8, k14, g15⟩, g57, g58, g59, g13⟩
  replace g57 : 0 ≤ r3 := g57
  replace g58 : r3 ≤ (a0.l.length : Int) := g58
  replace g59 : r3 ≤ 5 := g59
  replace g13 : N16 = ((a0.l.length : Int) - r3).toNat := g13
  obtain ⟨v2A, v2m, v2c, rfl⟩ := row_form st (.head _)
  replace st : St w _ _ _ [rowS (α := Side) (.slice v2A v2m v2c) 41 r1] := st
  replace k14 : OkL 1048576 H7 r1 := k14
  replace g15 : (r1.length : Int) ≤ r3 := g15
  show CW _ _ _ _ [(0, a0.v), (3, (.slice v2A v2m v2c)), (4, Value.int .i64 r3)] _
  refine CW.seq (CW.seq (CW.reg (WL.mv rfl (WL.mv rfl ?_))))
  have z17 : a0.l.length ≤ 140737488355329 := (k0p.le l8).top
  refine WL.pv (Pu.lens (n := a0.l.length) rfl sl30) (WL.pv (Pu.ilt rfl rfl) (WL.mv rfl ?_))
  refine WL.splitP 9 rfl dT dF (fun h18 => ?_) (fun h18 => ?_)
  ·obtain ⟨n4, rfl⟩ : ∃ k, N16 = k + 1 := ⟨N16 - 1, by omega⟩
   refine WL.mv rfl (WL.pv (Pu.ilt rfl rfl) (WL.pv (Pu.pickT rfl rfl) (WL.nt ?_)))
   refine CW.condP 12 rfl dT dF (fun h19 => ?_) (fun h19 => ?_)
   ·refine CW.skip (QX.thenN ?_)
    refine CW.seq ?_
    refine CW.blk ?_
    refine CW.regS (C := Cl w H7 []) (tail := []) (S := Grew w H H7 [rowS (α := Side) (.slice v2A v2m v2c) 41 r1]) mixed (fun W' h1 h2 h3 h4 => grew_start st h1 h2 h3 h4) (n := 22) rfl ?_
    refine WS.pk 0 rfl (good_grew (Le.refl _) (fun _ h => .tail _ (h))) (fun W hC => Pu.move rfl) ?_
    refine WS.pk 1 rfl (good_grew (Le.refl _) (fun _ h => .tail _ (h))) (fun W hC => Pu.move rfl) ?_
    refine WS.pk 2 rfl (good_grew (Le.refl _) (fun _ h => .tail _ (h))) (fun W hC => Pu.move rfl) ?_
    have y20 := lg_get (l := a0.l) (i := r3) (by omega) (by omega)
    have k23 : Side.Ok 140737488355329 H7 (lg a0.l r3) := ((k0p.le l8).get _ _ y20).2
    obtain ⟨ad21, qa24, f22⟩ := ((k0p.le l8).get _ _ y20).1
    refine WS.pk 3 rfl (good_grew (Le.refl _) (fun _ h => .tail _ (h))) (fun W hC => Pu.idx0 rfl rfl sl30 (by first|omega|simp<;>omega) (by first|omega|simp<;>omega) qa24) ?_
    refine WS.pk 4 rfl (good_grew (Le.refl _) (fun _ h => .tail _ (h))) (fun W hC => Pu.fa rfl fo41_0) ?_
    refine WS.pk 5 rfl (good_grew (Le.refl _) (fun _ h => .tail _ (h))) (fun W hC => Pu.load rfl ty3 ((f22.drop 0).w hC.1) rfl) ?_
    refine WS.pk 6 rfl (good_grew (Le.refl _) (fun _ h => .tail _ (h))) (fun W hC => Pu.move rfl) ?_
    refine WS.pk 7 rfl (good_grew (Le.refl _) (fun _ h => .tail _ (h))) (fun W hC => Pu.move rfl) ?_
    have y25 := lg_get (l := a0.l) (i := r3) (by omega) (by omega)
    have k28 : Side.Ok 140737488355329 H7 (lg a0.l r3) := ((k0p.le l8).get _ _ y25).2
    obtain ⟨ad26, qa29, f27⟩ := ((k0p.le l8).get _ _ y25).1
    refine WS.pk 8 rfl (good_grew (Le.refl _) (fun _ h => .tail _ (h))) (fun W hC => Pu.idx0 rfl rfl sl30 (by first|omega|simp<;>omega) (by first|omega|simp<;>omega) qa29) ?_
    refine WS.pk 9 rfl (good_grew (Le.refl _) (fun _ h => .tail _ (h))) (fun W hC => Pu.fa rfl fo41_1) ?_
    refine WS.pk 10 rfl (good_grew (Le.refl _) (fun _ h => .tail _ (h))) (fun W hC => Pu.load rfl ty9 ((f27.drop 1).w hC.1) rfl) ?_
    refine WS.pk 12 rfl (good_grew (Le.refl _) (fun _ h => .tail _ (h))) (fun W hC => Pu.move rfl) ?_
    refine WS.pk 13 rfl (good_grew (Le.refl _) (fun _ h => .tail _ (h))) (fun W hC => Pu.move rfl) ?_
    have y30 := lg_get (l := a0.l) (i := r3) (by omega) (by omega)
    have k33 : Side.Ok 140737488355329 H7 (lg a0.l r3) := ((k0p.le l8).get _ _ y30).2
    obtain ⟨ad31, qa34, f32⟩ := ((k0p.le l8).get _ _ y30).1
    refine WS.pk 14 rfl (good_grew (Le.refl _) (fun _ h => .tail _ (h))) (fun W hC => Pu.idx0 rfl rfl sl30 (by first|omega|simp<;>omega) (by first|omega|simp<;>omega) qa34) ?_
    refine WS.pk 15 rfl (good_grew (Le.refl _) (fun _ h => .tail _ (h))) (fun W hC => Pu.fa rfl fo41_2) ?_
    refine WS.pk 16 rfl (good_grew (Le.refl _) (fun _ h => .tail _ (h))) (fun W hC => Pu.load rfl ty9 ((f32.drop 2).w hC.1) rfl) ?_
    refine WS.one (i := 11) (by kernel_rfl) ?_
    refine WO.call 11 rfl rfl rfl (fun _ H' l => good_grew ((Le.refl _).trans l) (fun _ h => .tail _ (h))) en16 rfl rfl (fun W H' hs' l => c16 ((lg a0.l r3).space) hs' k28.space) ?_
    rintro _ H35 l36 ⟨x37, rfl, k38⟩
    refine WS.one (i := 17) (by kernel_rfl) ?_
    refine WO.call 17 rfl rfl rfl (fun _ H' l => good_grew (l36.trans l) (fun _ h => .tail _ (h))) en16 rfl rfl (fun W H' hs' l => c16 ((lg a0.l r3).name) hs' k33.name) ?_
    rintro _ H40 l41 ⟨x42, rfl, k43⟩
    refine WS.pk 18 rfl (good_grew (l36.trans l41) (fun _ h => .tail _ (h))) (fun W hC => Pu.buildL (cs := Side.c (⟨(lg a0.l r3).kind, x37, x42⟩ : Side)) st41 rfl rfl rfl) ?_
    refine WS.one (i := 19) (by kernel_rfl) ?_
    refine WO.lit (M := 1048576) ([(⟨(lg a0.l r3).kind, x37, x42⟩ : Side)] : List Side) 19 rfl rfl rfl (fun _ H' l => good_grew ((l36.trans l41).trans l) (fun _ h => .tail _ (h))) ap30 rfl rfl rfl rfl rfl rfl rfl rfl rfl (by decide) (OkL.cons (show Side.Ok _ _ (⟨(lg a0.l r3).kind, x37, x42⟩ : Side) from ⟨k38, k43⟩) OkL.nil) ?_
    intro b45 H46 l47 k48
    refine WS.one (i := 20) (by kernel_rfl) ?_
    refine WO.appS (s2 := (⟨some ⟨b45, 0, none⟩, 1, ([(⟨(lg a0.l r3).kind, x37, x42⟩ : Side)] : List Side)⟩ : Sl Side)) 20 rfl rfl rfl (fun _ A m c H' l => good_grew (((l36.trans l41).trans l47).trans l) (fun _ h => .tail _ (h))) ap30 rfl rfl rfl rfl rfl k48 (by first|omega|simp<;>omega) (by first|omega|simp<;>omega) ?_
    intro A49 mm50 n51 H52 l53
    refine WS.pk 21 rfl (good_grew (((l36.trans l41).trans l47).trans l53) (fun _ h => .tail _ (h))) (fun W hC => Pu.assign rfl) ?_
    refine WS.fin (by kernel_rfl) (fun W56 H54 st l55 => ?_)
    refine QX.blkN (QX.thenN ?_)
    refine CW.reg (WL.mv rfl (WL.pv (Pu.iadd rfl rfl (c := r3 + 1) (w64 (by omega) (by omega))) (WL.as rfl ?_)))
    refine WL.nil (QX.round ⟨n4, r1 ++ ([(⟨(lg a0.l r3).kind, x37, x42⟩ : Side)] : List Side), r3 + 1, (.slice A49 mm50 n51)⟩ ?_ (Nat.lt_succ_self _) (.cons rfl (.cons rfl (.cons rfl (.nil _)))))
    exact ⟨⟨_, st, (((((l8.trans l36).trans l41).trans l47).trans l53).trans l55), (OkL.app (k14.le ((((l36.trans l41).trans l47).trans l53).trans l55)) (OkL.cons (show Side.Ok _ _ (⟨(lg a0.l r3).kind, x37, x42⟩ : Side) from ⟨k38, k43⟩) OkL.nil)), (by first|omega|simp<;>omega)⟩, (by first|omega|simp<;>omega), (by first|omega|simp<;>omega), (by first|omega|simp<;>omega), (by first|omega|simp<;>omega)⟩
   ·refine CW.exit (QX.thenE (QX.thenE (QX.hit (QX.meets ⟨r1, (.slice v2A v2m v2c)⟩ ?_ (.cons rfl (.nil _))))))
    exact ⟨_, st, l8, k14, (by first|omega|simp<;>omega)⟩
  ·obtain rfl : N16 = 0 := by omega
   refine WL.of (WL.of (WL.pv (Pu.pickF rfl rfl) (WL.nt ?_)))
   refine CW.condF rfl ?_
   refine CW.exit (QX.thenE (QX.thenE (QX.hit (QX.meets ⟨r1, (.slice v2A v2m v2c)⟩ ?_ (.cons rfl (.nil _))))))
   exact ⟨_, st, l8, k14, (by first|omega|simp<;>omega)⟩
 rintro ⟨r5, v6⟩ W62 ⟨H60, st, l61, k64, g65⟩
 obtain ⟨v6A, v6m, v6c, rfl⟩ := row_form st (.head _)
 replace st : St w _ _ _ [rowS (α := Side) (.slice v6A v6m v6c) 41 r5] := st
 replace k64 : OkL 1048576 H60 r5 := k64
 replace g65 : (r5.length : Int) ≤ (5) := g65
 show QX _ _ _ [(3, (.slice v6A v6m v6c))] _
 refine QX.thenN (CW.seq (CW.reg (WL.mv rfl (WL.as rfl (WL.nt ?_)))))
 obtain ⟨H66, st', l67, rfl, k68⟩ := st.settle (M := 1048576) k64 (by first|omega|simp<;>omega)
 have st := st'
 refine CW.ret (finA Tryz.results74 st (.tmp rfl .nil) ?_)
 exact ⟨(⟨v6A, v6c, r5⟩ : Sl Side), rfl, k68⟩
/-! toll tolllaw08.Few -/
theorem c75 (a0 : Sl Need) {w : World} {H : PH} (hs : Sub H w) (k0p : Sl.Ok 140737488355329 H a0) : Spec Tryz.prog 75 [a0.v].toArray w H (fun H' v => ∃ (x0 : Sl Need), v = x0.v ∧ Sl.Ok 1048576 H' x0) := by
 refine Spec.enter Tryz.func75 rfl Tryz.ntmps75 rfl ?_
 have st := St.start hs
 refine CW.seq (CW.reg (WL.as rfl (WL.nt (CW.seq (CW.reg (WL.as rfl (WL.nt (CW.seq (CW.seq ?_)))))))))
 refine CW.reg (WL.as rfl (WL.nt ?_))
 replace st := st.rownilS (α := Need) 184
 refine (CW.cuts (fun (s : (List Need) × Value) W => (∃ H', St w W H H' [rowS (α := Need) s.2 184 s.1] ∧ Le H H' ∧ OkL 1048576 H' s.1 ∧ (s.1.length : Int) ≤ (9))) (fun (s : (List Need) × Value) => [(3, s.2)]) ?_ ?_)
 ·refine CW.blk (CW.loop (fun (s : Nat × (List Need) × Int × Value) W => (∃ H', St w W H H' [rowS (α := Need) s.2.2.2 184 s.2.1] ∧ Le H H' ∧ OkL 1048576 H' s.2.1 ∧ (s.2.1.length : Int) ≤ s.2.2.1) ∧ 0 ≤ s.2.2.1 ∧ s.2.2.1 ≤ (a0.l.length : Int) ∧ s.2.2.1 ≤ 9 ∧ s.1 = ((a0.l.length : Int) - s.2.2.1).toNat) (fun (s : Nat × (List Need) × Int × Value) => [(0, a0.v), (3, s.2.2.2), (4, Value.int .i64 s.2.2.1)]) (fun s => s.1) ⟨((a0.l.length : Int) - 0).toNat, ([] : List Need), 0, (.slice none 0 0)⟩ ⟨⟨_, st, Le.refl _, OkL.nil, (by first|omega|simp<;>omega)⟩, (by first|omega|simp<;>omega), (by first|omega|simp<;>omega), (by first|omega|simp<;>omega), rfl⟩ (.cons rfl (.cons rfl (.cons rfl (.nil _)))) ?_)
  rintro ⟨N16, r1, r3, v2⟩ W9 ⟨⟨H7, st, l8, k14, g15⟩, g202, g203, g204, g13⟩
  replace g202 : 0 ≤ r3 := g202
  replace g203 : r3 ≤ (a0.l.length : Int) := g203
  replace g204 : r3 ≤ 9 := g204
  replace g13 : N16 = ((a0.l.length : Int) - r3).toNat := g13
  obtain ⟨v2A, v2m, v2c, rfl⟩ := row_form st (.head _)
  replace st : St w _ _ _ [rowS (α := Need) (.slice v2A v2m v2c) 184 r1] := st
  replace k14 : OkL 1048576 H7 r1 := k14
  replace g15 : (r1.length : Int) ≤ r3 := g15
  show CW _ _ _ _ [(0, a0.v), (3, (.slice v2A v2m v2c)), (4, Value.int .i64 r3)] _
  refine CW.seq (CW.seq (CW.reg (WL.mv rfl (WL.mv rfl ?_))))
  have z17 : a0.l.length ≤ 140737488355329 := (k0p.le l8).top
  refine WL.pv (Pu.lens (n := a0.l.length) rfl sl92) (WL.pv (Pu.ilt rfl rfl) (WL.mv rfl ?_))
  refine WL.splitP 11 rfl dT dF (fun h18 => ?_) (fun h18 => ?_)
  ·obtain ⟨n4, rfl⟩ : ∃ k, N16 = k + 1 := ⟨N16 - 1, by omega⟩
   refine WL.mv rfl (WL.pv (Pu.ilt rfl rfl) (WL.pv (Pu.pickT rfl rfl) (WL.nt ?_)))
   refine CW.condP 14 rfl dT dF (fun h19 => ?_) (fun h19 => ?_)
   ·refine CW.skip (QX.thenN ?_)
    refine CW.seq ?_
    refine CW.blk ?_
    refine CW.seq ?_
    refine CW.regS (C := Cl w H7 [rowS (α := Need) (.slice v2A v2m v2c) 184 r1]) (tail := []) (S := Grew w H H7 [rowS (α := Need) (.slice v2A v2m v2c) 184 r1]) mixed (fun W' h1 h2 h3 h4 => grew_start st h1 h2 h3 h4) (n := 14) rfl ?_
    refine WS.pk 0 rfl gg (fun W hC => Pu.move rfl) ?_
    refine WS.pk 1 rfl gg (fun W hC => Pu.move rfl) ?_
    have y20 := lg_get (l := a0.l) (i := r3) (by omega) (by omega)
    have k23 : Need.Ok 140737488355329 H7 (lg a0.l r3) := ((k0p.le l8).get _ _ y20).2
    obtain ⟨ad21, qa24, f22⟩ := ((k0p.le l8).get _ _ y20).1
    refine WS.pk 2 rfl gg (fun W hC => Pu.idx0 rfl rfl sl92 (by first|omega|simp<;>omega) (by first|omega|simp<;>omega) qa24) ?_
    refine WS.pk 3 rfl gg (fun W hC => Pu.fa rfl fo184_0) ?_
    refine WS.pk 4 rfl gg (fun W hC => Pu.load rfl ty3 ((f22.drop 0).w hC.1) rfl) ?_
    refine WS.pk 5 rfl gg (fun W hC => Pu.move rfl) ?_
    refine WS.pk 6 rfl gg (fun W hC => Pu.move rfl) ?_
    have y25 := lg_get (l := a0.l) (i := r3) (by omega) (by omega)
    have k28 : Need.Ok 140737488355329 H7 (lg a0.l r3) := ((k0p.le l8).get _ _ y25).2
    obtain ⟨ad26, qa29, f27⟩ := ((k0p.le l8).get _ _ y25).1
    refine WS.pk 7 rfl gg (fun W hC => Pu.idx0 rfl rfl sl92 (by first|omega|simp<;>omega) (by first|omega|simp<;>omega) qa29) ?_
    refine WS.pk 8 rfl gg (fun W hC => Pu.fa rfl fo184_1) ?_
    refine WS.pk 9 rfl gg (fun W hC => Pu.load rfl ty9 ((f27.drop 1).w hC.1) rfl) ?_
    refine WS.two (i := 10) (j := 12) (by kernel_rfl) ?_ ?_
    ·refine WO.call 10 rfl rfl rfl (fun _ H' l => good_grew ((Le.refl _).trans l) (fun _ h => h)) en16 rfl rfl (fun W H' hs' l => c16 ((lg a0.l r3).name) hs' k28.name) ?_
     rintro _ H30 l31 ⟨x32, rfl, k33⟩
     refine WS.pk 11 rfl (good_grew l31 (fun _ h => h)) (fun W hC => Pu.buildL (cs := Need.c (⟨(lg a0.l r3).kind, x32, (Sl.nil : Sl ByteArray)⟩ : Need)) st184 rfl rfl rfl) ?_
     refine WS.one (i := 12) (by kernel_rfl) ?_
     refine WO.alloco (c := #[.int .i64 0, .string (⟨#[]⟩ : ByteArray), .slice none 0 0]) 12 rfl rfl rfl ze184 rfl (fun b _ H' l => good_grew (l31.trans l) (fun _ h => .tail _ (h))) ?_
     intro b35 H36 l37
     refine WS.one (i := 13) (by kernel_rfl) ?_
     refine WO.store (o := 0) (c' := [.int .i64 ((lg a0.l r3).kind), .string x32, .slice none 0 0]) 13 rfl rfl (fun _ H' l => good_grew ((l31.trans l37).trans l) (fun _ h => .tail _ (h))) rfl rfl rfl ty184 rfl (Enc.one (α := Need) _) rfl rfl ?_
     intro H38 l39
     refine WS.fin (by kernel_rfl) (fun W42 H40 st l41 => ?_)
     refine QX.thenN (CW.seq (CW.seq (CW.reg (WL.as rfl (WL.nt ?_)))))
     replace st := st.rownilS (α := ByteArray) 9
     refine (CW.cuts (fun (s : (List ByteArray) × Value) W => (∃ H', St w W H H' [rowS (α := ByteArray) s.2 9 s.1, Own.box b35 (.cells #[.int .i64 ((lg a0.l r3).kind), .string x32, s.2] 184 (0, 0)), rowS (α := Need) (.slice v2A v2m v2c) 184 r1] ∧ Le H40 H' ∧ OkL 1048576 H' s.1 ∧ (s.1.length : Int) ≤ (9))) (fun (s : (List ByteArray) × Value) => [(0, a0.v), (3, (.slice v2A v2m v2c)), (4, Value.int .i64 r3), (5, Value.pointer (some (⟨b35, 0, none⟩ : Addr))), (12, Value.int .i64 r3), (13, Value.bool (decide (r3 < 9)))]) ?_ ?_)
     ·refine CW.blk (CW.loop (fun (s : Nat × Int × (List ByteArray) × Value) W => (∃ H', St w W H H' [rowS (α := ByteArray) s.2.2.2 9 s.2.2.1, Own.box b35 (.cells #[.int .i64 ((lg a0.l r3).kind), .string x32, s.2.2.2] 184 (0, 0)), rowS (α := Need) (.slice v2A v2m v2c) 184 r1] ∧ Le H40 H' ∧ OkL 1048576 H' s.2.2.1 ∧ (s.2.2.1.length : Int) ≤ s.2.1) ∧ 0 ≤ s.2.1 ∧ s.2.1 ≤ ((((lg a0.l r3).vals).l).length : Int) ∧ s.2.1 ≤ 9 ∧ s.1 = (((((lg a0.l r3).vals).l).length : Int) - s.2.1).toNat) (fun (s : Nat × Int × (List ByteArray) × Value) => [(0, a0.v), (3, (.slice v2A v2m v2c)), (4, Value.int .i64 r3), (5, Value.pointer (some (⟨b35, 0, none⟩ : Addr))), (12, Value.int .i64 r3), (13, Value.bool (decide (r3 < 9))), (6, Value.int .i64 s.2.1)]) (fun s => s.1) ⟨(((((lg a0.l r3).vals).l).length : Int) - 0).toNat, 0, ([] : List ByteArray), (.slice none 0 0)⟩ ⟨⟨_, st, Le.refl _, OkL.nil, (by first|omega|simp<;>omega)⟩, (by first|omega|simp<;>omega), (by first|omega|simp<;>omega), (by first|omega|simp<;>omega), rfl⟩ (.cons rfl (.cons rfl (.cons rfl (.cons rfl (.cons rfl (.cons rfl (.cons rfl (.nil _)))))))) ?_)
      rintro ⟨N58, r43, r44, v45⟩ W51 ⟨⟨H49, st, l50, k56, g57⟩, g95, g96, g97, g55⟩
      replace g95 : 0 ≤ r43 := g95
      replace g96 : r43 ≤ ((((lg a0.l r3).vals).l).length : Int) := g96
      replace g97 : r43 ≤ 9 := g97
      replace g55 : N58 = (((((lg a0.l r3).vals).l).length : Int) - r43).toNat := g55
      obtain ⟨v45A, v45m, v45c, rfl⟩ := row_form st (.head _)
      replace st : St w _ _ _ [rowS (α := ByteArray) (.slice v45A v45m v45c) 9 r44, Own.box b35 (.cells #[.int .i64 ((lg a0.l r3).kind), .string x32, (.slice v45A v45m v45c)] 184 (0, 0)), rowS (α := Need) (.slice v2A v2m v2c) 184 r1] := st
      replace k56 : OkL 1048576 H49 r44 := k56
      replace g57 : (r44.length : Int) ≤ r43 := g57
      show CW _ _ _ _ [(0, a0.v), (3, (.slice v2A v2m v2c)), (4, Value.int .i64 r3), (5, Value.pointer (some (⟨b35, 0, none⟩ : Addr))), (12, Value.int .i64 r3), (13, Value.bool (decide (r3 < 9))), (6, Value.int .i64 r43)] _
      refine CW.seq (CW.seq (CW.reg (WL.mv rfl (WL.mv rfl (WL.mv rfl ?_)))))
      have y59 := lg_get (l := a0.l) (i := r3) (by omega) (by omega)
      have k62 : Need.Ok 140737488355329 H49 (lg a0.l r3) := ((k0p.le (((((l8.trans l31).trans l37).trans l39).trans l41).trans l50)).get _ _ y59).2
      refine WL.idx (s := a0) rfl rfl rfl rfl sl92 (k0p.le (((((l8.trans l31).trans l37).trans l39).trans l41).trans l50)) (by omega) y59 ?_
      intro ad60 f61
      refine WL.pv (Pu.fa rfl fo184_2) (WL.pv (Pu.load rfl ty28 ((f61.drop 2).w st.sub) rfl) ?_)
      have z63 : (((lg a0.l r3).vals).l).length ≤ 140737488355329 := k62.vals.top
      refine WL.pv (Pu.lens (n := (((lg a0.l r3).vals).l).length) rfl sl28) (WL.pv (Pu.ilt rfl rfl) (WL.mv rfl ?_))
      refine WL.splitP 37 rfl dT dF (fun h64 => ?_) (fun h64 => ?_)
      ·obtain ⟨n46, rfl⟩ : ∃ k, N58 = k + 1 := ⟨N58 - 1, by omega⟩
       refine WL.mv rfl (WL.pv (Pu.ilt rfl rfl) (WL.pv (Pu.pickT rfl rfl) (WL.nt ?_)))
       refine CW.condP 40 rfl dT dF (fun h65 => ?_) (fun h65 => ?_)
       ·refine CW.skip (QX.thenN ?_)
        refine CW.seq ?_
        refine CW.blk ?_
        refine CW.regS (C := Cl w H49 [Own.box b35 (.cells #[.int .i64 ((lg a0.l r3).kind), .string x32, (.slice v45A v45m v45c)] 184 (0, 0))]) (tail := [14]) (S := Grew w H H49 [rowS (α := ByteArray) (.slice v45A v45m v45c) 9 r44, Own.box b35 (.cells #[.int .i64 ((lg a0.l r3).kind), .string x32, (.slice v45A v45m v45c)] 184 (0, 0)), rowS (α := Need) (.slice v2A v2m v2c) 184 r1]) mixed (fun W' h1 h2 h3 h4 => grew_start st h1 h2 h3 h4) (n := 15) rfl ?_
        refine WS.pk 0 rfl (good_grew (Le.refl _) ((subC (.tail _ (.head _)) subN))) (fun W hC => Pu.fa rfl fo184_2) ?_
        refine WS.pk 1 rfl (good_grew (Le.refl _) ((subC (.tail _ (.head _)) subN))) (fun W hC => Pu.load rfl ty28 ((AtW.block (hC.2 _ (.head _)).2).drop 2) rfl) ?_
        refine WS.pk 2 rfl (good_grew (Le.refl _) ((subC (.tail _ (.head _)) subN))) (fun W hC => Pu.move rfl) ?_
        refine WS.pk 3 rfl (good_grew (Le.refl _) ((subC (.tail _ (.head _)) subN))) (fun W hC => Pu.move rfl) ?_
        have y66 := lg_get (l := a0.l) (i := r3) (by omega) (by omega)
        have k69 : Need.Ok 140737488355329 H49 (lg a0.l r3) := ((k0p.le (((((l8.trans l31).trans l37).trans l39).trans l41).trans l50)).get _ _ y66).2
        obtain ⟨ad67, qa70, f68⟩ := ((k0p.le (((((l8.trans l31).trans l37).trans l39).trans l41).trans l50)).get _ _ y66).1
        refine WS.pk 4 rfl (good_grew (Le.refl _) ((subC (.tail _ (.head _)) subN))) (fun W hC => Pu.idx0 rfl rfl sl92 (by first|omega|simp<;>omega) (by first|omega|simp<;>omega) qa70) ?_
        refine WS.pk 5 rfl (good_grew (Le.refl _) ((subC (.tail _ (.head _)) subN))) (fun W hC => Pu.fa rfl fo184_2) ?_
        refine WS.pk 6 rfl (good_grew (Le.refl _) ((subC (.tail _ (.head _)) subN))) (fun W hC => Pu.load rfl ty28 ((f68.drop 2).w hC.1) rfl) ?_
        refine WS.pk 7 rfl (good_grew (Le.refl _) ((subC (.tail _ (.head _)) subN))) (fun W hC => Pu.move rfl) ?_
        have y71 := lg_get (l := ((lg a0.l r3).vals).l) (i := r43) (by omega) (by omega)
        have k74 : (lg (((lg a0.l r3).vals).l) r43).size < 140737488355329 := (k69.vals.get _ _ y71).2
        obtain ⟨ad72, qa75, f73⟩ := (k69.vals.get _ _ y71).1
        refine WS.pk 8 rfl (good_grew (Le.refl _) ((subC (.tail _ (.head _)) subN))) (fun W hC => Pu.idx0 rfl rfl sl28 (by first|omega|simp<;>omega) (by first|omega|simp<;>omega) qa75) ?_
        refine WS.pk 9 rfl (good_grew (Le.refl _) ((subC (.tail _ (.head _)) subN))) (fun W hC => Pu.load rfl ty9 (f73.w hC.1) rfl) ?_
        refine WS.one (i := 10) (by kernel_rfl) ?_
        refine WO.call 10 rfl rfl rfl (fun _ H' l => good_grew ((Le.refl _).trans l) ((subC (.tail _ (.head _)) subN))) en16 rfl rfl (fun W H' hs' l => c16 (lg (((lg a0.l r3).vals).l) r43) hs' k74) ?_
        rintro _ H76 l77 ⟨x78, rfl, k79⟩
        refine WS.one (i := 11) (by kernel_rfl) ?_
        refine WO.lit (M := 1048576) ([x78] : List ByteArray) 11 rfl rfl rfl (fun _ H' l => good_grew (l77.trans l) ((subC (.tail _ (.head _)) subN))) ap28 rfl rfl rfl rfl rfl rfl rfl rfl rfl (by decide) (OkL.cons (okS k79) OkL.nil) ?_
        intro b81 H82 l83 k84
        refine WS.one (i := 12) (by kernel_rfl) ?_
        refine WO.appS (s2 := (⟨some ⟨b81, 0, none⟩, 1, ([x78] : List ByteArray)⟩ : Sl ByteArray)) 12 rfl rfl rfl (fun _ A m c H' l => good_grew ((l77.trans l83).trans l) ((subC (.tail _ (.head _)) subN))) ap28 rfl rfl rfl rfl rfl k84 (by first|omega|simp<;>omega) (by first|omega|simp<;>omega) ?_
        intro A85 mm86 n87 H88 l89
        refine WS.pk 13 rfl (good_grew ((l77.trans l83).trans l89) ((subC (.tail _ (.head _)) subN))) (fun W hC => Pu.fa rfl fo184_2) ?_
        refine WS.one (i := 14) (by kernel_rfl) ?_
        refine WO.front2 ?_
        refine WO.store (o := 2) (c' := [.int .i64 ((lg a0.l r3).kind), .string x32, (.slice A85 mm86 n87)]) 14 rfl rfl (tlT (by kernel_rfl)) rfl rfl rfl ty28 rfl (one1 rfl rfl) rfl rfl ?_
        intro H90 l91
        refine WS.fin (by kernel_rfl) (fun W94 H92 st l93 => ?_)
        refine QX.blkN (QX.thenN ?_)
        refine CW.reg (WL.mv rfl (WL.pv (Pu.iadd rfl rfl (c := r43 + 1) (w64 (by omega) (by omega))) (WL.as rfl ?_)))
        refine WL.nil (QX.round ⟨n46, r43 + 1, r44 ++ ([x78] : List ByteArray), (.slice A85 mm86 n87)⟩ ?_ (Nat.lt_succ_self _) (.cons rfl (.cons rfl (.cons rfl (.cons rfl (.cons rfl (.cons rfl (.cons rfl (.nil _)))))))))
        replace st := st.front3
        replace st := st.front2
        replace st := st.front3
        exact ⟨⟨_, st, (((((l50.trans l77).trans l83).trans l89).trans l91).trans l93), (OkL.app (k56.le ((((l77.trans l83).trans l89).trans l91).trans l93)) (OkL.cons (okS k79) OkL.nil)), (by first|omega|simp<;>omega)⟩, (by first|omega|simp<;>omega), (by first|omega|simp<;>omega), (by first|omega|simp<;>omega), (by first|omega|simp<;>omega)⟩
       ·refine CW.exit (QX.thenE (QX.thenE (QX.hit (QX.meets ⟨r44, (.slice v45A v45m v45c)⟩ ?_ (.cons rfl (.cons rfl (.cons rfl (.cons rfl (.cons rfl (.cons rfl (.nil _)))))))))))
        exact ⟨_, st, l50, k56, (by first|omega|simp<;>omega)⟩
      ·obtain rfl : N58 = 0 := by omega
       refine WL.of (WL.of (WL.pv (Pu.pickF rfl rfl) (WL.nt ?_)))
       refine CW.condF rfl ?_
       refine CW.exit (QX.thenE (QX.thenE (QX.hit (QX.meets ⟨r44, (.slice v45A v45m v45c)⟩ ?_ (.cons rfl (.cons rfl (.cons rfl (.cons rfl (.cons rfl (.cons rfl (.nil _)))))))))))
       exact ⟨_, st, l50, k56, (by first|omega|simp<;>omega)⟩
     rintro ⟨r47, v48⟩ W100 ⟨H98, st, l99, k102, g103⟩
     obtain ⟨v48A, v48m, v48c, rfl⟩ := row_form st (.head _)
     replace st : St w _ _ _ [rowS (α := ByteArray) (.slice v48A v48m v48c) 9 r47, Own.box b35 (.cells #[.int .i64 ((lg a0.l r3).kind), .string x32, (.slice v48A v48m v48c)] 184 (0, 0)), rowS (α := Need) (.slice v2A v2m v2c) 184 r1] := st
     replace k102 : OkL 1048576 H98 r47 := k102
     replace g103 : (r47.length : Int) ≤ (9) := g103
     show QX _ _ _ [(0, a0.v), (3, (.slice v2A v2m v2c)), (4, Value.int .i64 r3), (5, Value.pointer (some (⟨b35, 0, none⟩ : Addr))), (12, Value.int .i64 r3), (13, Value.bool (decide (r3 < 9)))] _
     refine QX.thenN (CW.reg (WL.mv rfl ?_))
     obtain ⟨H104, st', l105, rfl, k106⟩ := st.settle (M := 1048576) k102 (by first|omega|simp<;>omega)
     have st := st'
     refine WL.pv (Pu.load (v := Need.v (⟨(lg a0.l r3).kind, x32, (⟨v48A, v48c, r47⟩ : Sl ByteArray)⟩ : Need)) rfl ty184 (AtW.block (st.own _ (.head _)).1.2) rfl) ?_
     refine WL.lit (M := 1048576) ([(⟨(lg a0.l r3).kind, x32, (⟨v48A, v48c, r47⟩ : Sl ByteArray)⟩ : Need)] : List Need) rfl rfl ap92 rfl rfl rfl rfl rfl rfl rfl rfl rfl (by decide) (OkL.cons (show Need.Ok _ _ (⟨(lg a0.l r3).kind, x32, (⟨v48A, v48c, r47⟩ : Sl ByteArray)⟩ : Need) from ⟨k33, k106⟩) OkL.nil) st ?_
     intro b108 W107 H109 st l110 k111
     replace st := st.front2
     refine WL.appS (s2 := (⟨some ⟨b108, 0, none⟩, 1, ([(⟨(lg a0.l r3).kind, x32, (⟨v48A, v48c, r47⟩ : Sl ByteArray)⟩ : Need)] : List Need)⟩ : Sl Need)) rfl rfl ap92 rfl rfl rfl rfl rfl k111 (by first|omega|simp<;>omega) (by first|omega|simp<;>omega) st ?_
     intro A112 mm113 n114 W115 st
     refine WL.as rfl ?_
     refine WL.nil (QX.blkN (QX.thenN ?_))
     refine CW.reg (WL.mv rfl (WL.pv (Pu.iadd rfl rfl (c := r3 + 1) (w64 (by omega) (by omega))) (WL.as rfl ?_)))
     refine WL.nil (QX.round ⟨n4, r1 ++ ([(⟨(lg a0.l r3).kind, x32, (⟨v48A, v48c, r47⟩ : Sl ByteArray)⟩ : Need)] : List Need), r3 + 1, (.slice A112 mm113 n114)⟩ ?_ (Nat.lt_succ_self _) (.cons rfl (.cons rfl (.cons rfl (.nil _)))))
     replace st := st.front2
     replace st := st.forget
     exact ⟨⟨_, st, (((((((l8.trans l31).trans l37).trans l39).trans l41).trans l99).trans l105).trans l110), (OkL.app (k14.le ((((((l31.trans l37).trans l39).trans l41).trans l99).trans l105).trans l110)) (OkL.cons (show Need.Ok _ _ (⟨(lg a0.l r3).kind, x32, (⟨v48A, v48c, r47⟩ : Sl ByteArray)⟩ : Need) from ⟨k33, (k106.le l110)⟩) OkL.nil)), (by first|omega|simp<;>omega)⟩, (by first|omega|simp<;>omega), (by first|omega|simp<;>omega), (by first|omega|simp<;>omega), (by first|omega|simp<;>omega)⟩
    ·refine WO.alloco (c := #[.int .i64 0, .string (⟨#[]⟩ : ByteArray), .slice none 0 0]) 12 rfl rfl rfl ze184 rfl (fun b _ H' l => good_grew ((Le.refl _).trans l) (fun _ h => .tail _ (h))) ?_
     intro b116 H117 l118
     refine WS.one (i := 10) (by kernel_rfl) ?_
     refine WO.call 10 rfl rfl rfl (fun _ H' l => good_grew (l118.trans l) (fun _ h => .tail _ (h))) en16 rfl rfl (fun W H' hs' l => c16 ((lg a0.l r3).name) hs' k28.name) ?_
     rintro _ H119 l120 ⟨x121, rfl, k122⟩
     refine WS.pk 11 rfl (good_grew (l118.trans l120) (fun _ h => .tail _ (h))) (fun W hC => Pu.buildL (cs := Need.c (⟨(lg a0.l r3).kind, x121, (Sl.nil : Sl ByteArray)⟩ : Need)) st184 rfl rfl rfl) ?_
     refine WS.one (i := 13) (by kernel_rfl) ?_
     refine WO.store (o := 0) (c' := [.int .i64 ((lg a0.l r3).kind), .string x121, .slice none 0 0]) 13 rfl rfl (fun _ H' l => good_grew ((l118.trans l120).trans l) (fun _ h => .tail _ (h))) rfl rfl rfl ty184 rfl (Enc.one (α := Need) _) rfl rfl ?_
     intro H124 l125
     refine WS.fin (by kernel_rfl) (fun W128 H126 st l127 => ?_)
     refine QX.thenN (CW.seq (CW.seq (CW.reg (WL.as rfl (WL.nt ?_)))))
     replace st := st.rownilS (α := ByteArray) 9
     refine (CW.cuts (fun (s : (List ByteArray) × Value) W => (∃ H', St w W H H' [rowS (α := ByteArray) s.2 9 s.1, Own.box b116 (.cells #[.int .i64 ((lg a0.l r3).kind), .string x121, s.2] 184 (0, 0)), rowS (α := Need) (.slice v2A v2m v2c) 184 r1] ∧ Le H126 H' ∧ OkL 1048576 H' s.1 ∧ (s.1.length : Int) ≤ (9))) (fun (s : (List ByteArray) × Value) => [(0, a0.v), (3, (.slice v2A v2m v2c)), (4, Value.int .i64 r3), (5, Value.pointer (some (⟨b116, 0, none⟩ : Addr))), (12, Value.int .i64 r3), (13, Value.bool (decide (r3 < 9)))]) ?_ ?_)
     ·refine CW.blk (CW.loop (fun (s : Nat × Int × (List ByteArray) × Value) W => (∃ H', St w W H H' [rowS (α := ByteArray) s.2.2.2 9 s.2.2.1, Own.box b116 (.cells #[.int .i64 ((lg a0.l r3).kind), .string x121, s.2.2.2] 184 (0, 0)), rowS (α := Need) (.slice v2A v2m v2c) 184 r1] ∧ Le H126 H' ∧ OkL 1048576 H' s.2.2.1 ∧ (s.2.2.1.length : Int) ≤ s.2.1) ∧ 0 ≤ s.2.1 ∧ s.2.1 ≤ ((((lg a0.l r3).vals).l).length : Int) ∧ s.2.1 ≤ 9 ∧ s.1 = (((((lg a0.l r3).vals).l).length : Int) - s.2.1).toNat) (fun (s : Nat × Int × (List ByteArray) × Value) => [(0, a0.v), (3, (.slice v2A v2m v2c)), (4, Value.int .i64 r3), (5, Value.pointer (some (⟨b116, 0, none⟩ : Addr))), (12, Value.int .i64 r3), (13, Value.bool (decide (r3 < 9))), (6, Value.int .i64 s.2.1)]) (fun s => s.1) ⟨(((((lg a0.l r3).vals).l).length : Int) - 0).toNat, 0, ([] : List ByteArray), (.slice none 0 0)⟩ ⟨⟨_, st, Le.refl _, OkL.nil, (by first|omega|simp<;>omega)⟩, (by first|omega|simp<;>omega), (by first|omega|simp<;>omega), (by first|omega|simp<;>omega), rfl⟩ (.cons rfl (.cons rfl (.cons rfl (.cons rfl (.cons rfl (.cons rfl (.cons rfl (.nil _)))))))) ?_)
      rintro ⟨N144, r129, r130, v131⟩ W137 ⟨⟨H135, st, l136, k142, g143⟩, g181, g182, g183, g141⟩
      replace g181 : 0 ≤ r129 := g181
      replace g182 : r129 ≤ ((((lg a0.l r3).vals).l).length : Int) := g182
      replace g183 : r129 ≤ 9 := g183
      replace g141 : N144 = (((((lg a0.l r3).vals).l).length : Int) - r129).toNat := g141
      obtain ⟨v131A, v131m, v131c, rfl⟩ := row_form st (.head _)
      replace st : St w _ _ _ [rowS (α := ByteArray) (.slice v131A v131m v131c) 9 r130, Own.box b116 (.cells #[.int .i64 ((lg a0.l r3).kind), .string x121, (.slice v131A v131m v131c)] 184 (0, 0)), rowS (α := Need) (.slice v2A v2m v2c) 184 r1] := st
      replace k142 : OkL 1048576 H135 r130 := k142
      replace g143 : (r130.length : Int) ≤ r129 := g143
      show CW _ _ _ _ [(0, a0.v), (3, (.slice v2A v2m v2c)), (4, Value.int .i64 r3), (5, Value.pointer (some (⟨b116, 0, none⟩ : Addr))), (12, Value.int .i64 r3), (13, Value.bool (decide (r3 < 9))), (6, Value.int .i64 r129)] _
      refine CW.seq (CW.seq (CW.reg (WL.mv rfl (WL.mv rfl (WL.mv rfl ?_)))))
      have y145 := lg_get (l := a0.l) (i := r3) (by omega) (by omega)
      have k148 : Need.Ok 140737488355329 H135 (lg a0.l r3) := ((k0p.le (((((l8.trans l118).trans l120).trans l125).trans l127).trans l136)).get _ _ y145).2
      refine WL.idx (s := a0) rfl rfl rfl rfl sl92 (k0p.le (((((l8.trans l118).trans l120).trans l125).trans l127).trans l136)) (by omega) y145 ?_
      intro ad146 f147
      refine WL.pv (Pu.fa rfl fo184_2) (WL.pv (Pu.load rfl ty28 ((f147.drop 2).w st.sub) rfl) ?_)
      have z149 : (((lg a0.l r3).vals).l).length ≤ 140737488355329 := k148.vals.top
      refine WL.pv (Pu.lens (n := (((lg a0.l r3).vals).l).length) rfl sl28) (WL.pv (Pu.ilt rfl rfl) (WL.mv rfl ?_))
      refine WL.splitP 37 rfl dT dF (fun h150 => ?_) (fun h150 => ?_)
      ·obtain ⟨n132, rfl⟩ : ∃ k, N144 = k + 1 := ⟨N144 - 1, by omega⟩
       refine WL.mv rfl (WL.pv (Pu.ilt rfl rfl) (WL.pv (Pu.pickT rfl rfl) (WL.nt ?_)))
       refine CW.condP 40 rfl dT dF (fun h151 => ?_) (fun h151 => ?_)
       ·refine CW.skip (QX.thenN ?_)
        refine CW.seq ?_
        refine CW.blk ?_
        refine CW.regS (C := Cl w H135 [Own.box b116 (.cells #[.int .i64 ((lg a0.l r3).kind), .string x121, (.slice v131A v131m v131c)] 184 (0, 0))]) (tail := [14]) (S := Grew w H H135 [rowS (α := ByteArray) (.slice v131A v131m v131c) 9 r130, Own.box b116 (.cells #[.int .i64 ((lg a0.l r3).kind), .string x121, (.slice v131A v131m v131c)] 184 (0, 0)), rowS (α := Need) (.slice v2A v2m v2c) 184 r1]) mixed (fun W' h1 h2 h3 h4 => grew_start st h1 h2 h3 h4) (n := 15) rfl ?_
        refine WS.pk 0 rfl (good_grew (Le.refl _) ((subC (.tail _ (.head _)) subN))) (fun W hC => Pu.fa rfl fo184_2) ?_
        refine WS.pk 1 rfl (good_grew (Le.refl _) ((subC (.tail _ (.head _)) subN))) (fun W hC => Pu.load rfl ty28 ((AtW.block (hC.2 _ (.head _)).2).drop 2) rfl) ?_
        refine WS.pk 2 rfl (good_grew (Le.refl _) ((subC (.tail _ (.head _)) subN))) (fun W hC => Pu.move rfl) ?_
        refine WS.pk 3 rfl (good_grew (Le.refl _) ((subC (.tail _ (.head _)) subN))) (fun W hC => Pu.move rfl) ?_
        have y152 := lg_get (l := a0.l) (i := r3) (by omega) (by omega)
        have k155 : Need.Ok 140737488355329 H135 (lg a0.l r3) := ((k0p.le (((((l8.trans l118).trans l120).trans l125).trans l127).trans l136)).get _ _ y152).2
        obtain ⟨ad153, qa156, f154⟩ := ((k0p.le (((((l8.trans l118).trans l120).trans l125).trans l127).trans l136)).get _ _ y152).1
        refine WS.pk 4 rfl (good_grew (Le.refl _) ((subC (.tail _ (.head _)) subN))) (fun W hC => Pu.idx0 rfl rfl sl92 (by first|omega|simp<;>omega) (by first|omega|simp<;>omega) qa156) ?_
        refine WS.pk 5 rfl (good_grew (Le.refl _) ((subC (.tail _ (.head _)) subN))) (fun W hC => Pu.fa rfl fo184_2) ?_
        refine WS.pk 6 rfl (good_grew (Le.refl _) ((subC (.tail _ (.head _)) subN))) (fun W hC => Pu.load rfl ty28 ((f154.drop 2).w hC.1) rfl) ?_
        refine WS.pk 7 rfl (good_grew (Le.refl _) ((subC (.tail _ (.head _)) subN))) (fun W hC => Pu.move rfl) ?_
        have y157 := lg_get (l := ((lg a0.l r3).vals).l) (i := r129) (by omega) (by omega)
        have k160 : (lg (((lg a0.l r3).vals).l) r129).size < 140737488355329 := (k155.vals.get _ _ y157).2
        obtain ⟨ad158, qa161, f159⟩ := (k155.vals.get _ _ y157).1
        refine WS.pk 8 rfl (good_grew (Le.refl _) ((subC (.tail _ (.head _)) subN))) (fun W hC => Pu.idx0 rfl rfl sl28 (by first|omega|simp<;>omega) (by first|omega|simp<;>omega) qa161) ?_
        refine WS.pk 9 rfl (good_grew (Le.refl _) ((subC (.tail _ (.head _)) subN))) (fun W hC => Pu.load rfl ty9 (f159.w hC.1) rfl) ?_
        refine WS.one (i := 10) (by kernel_rfl) ?_
        refine WO.call 10 rfl rfl rfl (fun _ H' l => good_grew ((Le.refl _).trans l) ((subC (.tail _ (.head _)) subN))) en16 rfl rfl (fun W H' hs' l => c16 (lg (((lg a0.l r3).vals).l) r129) hs' k160) ?_
        rintro _ H162 l163 ⟨x164, rfl, k165⟩
        refine WS.one (i := 11) (by kernel_rfl) ?_
        refine WO.lit (M := 1048576) ([x164] : List ByteArray) 11 rfl rfl rfl (fun _ H' l => good_grew (l163.trans l) ((subC (.tail _ (.head _)) subN))) ap28 rfl rfl rfl rfl rfl rfl rfl rfl rfl (by decide) (OkL.cons (okS k165) OkL.nil) ?_
        intro b167 H168 l169 k170
        refine WS.one (i := 12) (by kernel_rfl) ?_
        refine WO.appS (s2 := (⟨some ⟨b167, 0, none⟩, 1, ([x164] : List ByteArray)⟩ : Sl ByteArray)) 12 rfl rfl rfl (fun _ A m c H' l => good_grew ((l163.trans l169).trans l) ((subC (.tail _ (.head _)) subN))) ap28 rfl rfl rfl rfl rfl k170 (by first|omega|simp<;>omega) (by first|omega|simp<;>omega) ?_
        intro A171 mm172 n173 H174 l175
        refine WS.pk 13 rfl (good_grew ((l163.trans l169).trans l175) ((subC (.tail _ (.head _)) subN))) (fun W hC => Pu.fa rfl fo184_2) ?_
        refine WS.one (i := 14) (by kernel_rfl) ?_
        refine WO.front2 ?_
        refine WO.store (o := 2) (c' := [.int .i64 ((lg a0.l r3).kind), .string x121, (.slice A171 mm172 n173)]) 14 rfl rfl (tlT (by kernel_rfl)) rfl rfl rfl ty28 rfl (one1 rfl rfl) rfl rfl ?_
        intro H176 l177
        refine WS.fin (by kernel_rfl) (fun W180 H178 st l179 => ?_)
        refine QX.blkN (QX.thenN ?_)
        refine CW.reg (WL.mv rfl (WL.pv (Pu.iadd rfl rfl (c := r129 + 1) (w64 (by omega) (by omega))) (WL.as rfl ?_)))
        refine WL.nil (QX.round ⟨n132, r129 + 1, r130 ++ ([x164] : List ByteArray), (.slice A171 mm172 n173)⟩ ?_ (Nat.lt_succ_self _) (.cons rfl (.cons rfl (.cons rfl (.cons rfl (.cons rfl (.cons rfl (.cons rfl (.nil _)))))))))
        replace st := st.front3
        replace st := st.front2
        replace st := st.front3
        exact ⟨⟨_, st, (((((l136.trans l163).trans l169).trans l175).trans l177).trans l179), (OkL.app (k142.le ((((l163.trans l169).trans l175).trans l177).trans l179)) (OkL.cons (okS k165) OkL.nil)), (by first|omega|simp<;>omega)⟩, (by first|omega|simp<;>omega), (by first|omega|simp<;>omega), (by first|omega|simp<;>omega), (by first|omega|simp<;>omega)⟩
       ·refine CW.exit (QX.thenE (QX.thenE (QX.hit (QX.meets ⟨r130, (.slice v131A v131m v131c)⟩ ?_ (.cons rfl (.cons rfl (.cons rfl (.cons rfl (.cons rfl (.cons rfl (.nil _)))))))))))
        exact ⟨_, st, l136, k142, (by first|omega|simp<;>omega)⟩
      ·obtain rfl : N144 = 0 := by omega
       refine WL.of (WL.of (WL.pv (Pu.pickF rfl rfl) (WL.nt ?_)))
       refine CW.condF rfl ?_
       refine CW.exit (QX.thenE (QX.thenE (QX.hit (QX.meets ⟨r130, (.slice v131A v131m v131c)⟩ ?_ (.cons rfl (.cons rfl (.cons rfl (.cons rfl (.cons rfl (.cons rfl (.nil _)))))))))))
       exact ⟨_, st, l136, k142, (by first|omega|simp<;>omega)⟩
     rintro ⟨r133, v134⟩ W186 ⟨H184, st, l185, k188, g189⟩
     obtain ⟨v134A, v134m, v134c, rfl⟩ := row_form st (.head _)
     replace st : St w _ _ _ [rowS (α := ByteArray) (.slice v134A v134m v134c) 9 r133, Own.box b116 (.cells #[.int .i64 ((lg a0.l r3).kind), .string x121, (.slice v134A v134m v134c)] 184 (0, 0)), rowS (α := Need) (.slice v2A v2m v2c) 184 r1] := st
     replace k188 : OkL 1048576 H184 r133 := k188
     replace g189 : (r133.length : Int) ≤ (9) := g189
     show QX _ _ _ [(0, a0.v), (3, (.slice v2A v2m v2c)), (4, Value.int .i64 r3), (5, Value.pointer (some (⟨b116, 0, none⟩ : Addr))), (12, Value.int .i64 r3), (13, Value.bool (decide (r3 < 9)))] _
     refine QX.thenN (CW.reg (WL.mv rfl ?_))
     obtain ⟨H190, st', l191, rfl, k192⟩ := st.settle (M := 1048576) k188 (by first|omega|simp<;>omega)
     have st := st'
     refine WL.pv (Pu.load (v := Need.v (⟨(lg a0.l r3).kind, x121, (⟨v134A, v134c, r133⟩ : Sl ByteArray)⟩ : Need)) rfl ty184 (AtW.block (st.own _ (.head _)).1.2) rfl) ?_
     refine WL.lit (M := 1048576) ([(⟨(lg a0.l r3).kind, x121, (⟨v134A, v134c, r133⟩ : Sl ByteArray)⟩ : Need)] : List Need) rfl rfl ap92 rfl rfl rfl rfl rfl rfl rfl rfl rfl (by decide) (OkL.cons (show Need.Ok _ _ (⟨(lg a0.l r3).kind, x121, (⟨v134A, v134c, r133⟩ : Sl ByteArray)⟩ : Need) from ⟨k122, k192⟩) OkL.nil) st ?_
     intro b194 W193 H195 st l196 k197
     replace st := st.front2
     refine WL.appS (s2 := (⟨some ⟨b194, 0, none⟩, 1, ([(⟨(lg a0.l r3).kind, x121, (⟨v134A, v134c, r133⟩ : Sl ByteArray)⟩ : Need)] : List Need)⟩ : Sl Need)) rfl rfl ap92 rfl rfl rfl rfl rfl k197 (by first|omega|simp<;>omega) (by first|omega|simp<;>omega) st ?_
     intro A198 mm199 n200 W201 st
     refine WL.as rfl ?_
     refine WL.nil (QX.blkN (QX.thenN ?_))
     refine CW.reg (WL.mv rfl (WL.pv (Pu.iadd rfl rfl (c := r3 + 1) (w64 (by omega) (by omega))) (WL.as rfl ?_)))
     refine WL.nil (QX.round ⟨n4, r1 ++ ([(⟨(lg a0.l r3).kind, x121, (⟨v134A, v134c, r133⟩ : Sl ByteArray)⟩ : Need)] : List Need), r3 + 1, (.slice A198 mm199 n200)⟩ ?_ (Nat.lt_succ_self _) (.cons rfl (.cons rfl (.cons rfl (.nil _)))))
     replace st := st.front2
     replace st := st.forget
     exact ⟨⟨_, st, (((((((l8.trans l118).trans l120).trans l125).trans l127).trans l185).trans l191).trans l196), (OkL.app (k14.le ((((((l118.trans l120).trans l125).trans l127).trans l185).trans l191).trans l196)) (OkL.cons (show Need.Ok _ _ (⟨(lg a0.l r3).kind, x121, (⟨v134A, v134c, r133⟩ : Sl ByteArray)⟩ : Need) from ⟨k122, (k192.le l196)⟩) OkL.nil)), (by first|omega|simp<;>omega)⟩, (by first|omega|simp<;>omega), (by first|omega|simp<;>omega), (by first|omega|simp<;>omega), (by first|omega|simp<;>omega)⟩
   ·refine CW.exit (QX.thenE (QX.thenE (QX.hit (QX.meets ⟨r1, (.slice v2A v2m v2c)⟩ ?_ (.cons rfl (.nil _))))))
    exact ⟨_, st, l8, k14, (by first|omega|simp<;>omega)⟩
  ·obtain rfl : N16 = 0 := by omega
   refine WL.of (WL.of (WL.pv (Pu.pickF rfl rfl) (WL.nt ?_)))
   refine CW.condF rfl ?_
   refine CW.exit (QX.thenE (QX.thenE (QX.hit (QX.meets ⟨r1, (.slice v2A v2m v2c)⟩ ?_ (.cons rfl (.nil _))))))
   exact ⟨_, st, l8, k14, (by first|omega|simp<;>omega)⟩
 rintro ⟨r5, v6⟩ W207 ⟨H205, st, l206, k209, g210⟩
 obtain ⟨v6A, v6m, v6c, rfl⟩ := row_form st (.head _)
 replace st : St w _ _ _ [rowS (α := Need) (.slice v6A v6m v6c) 184 r5] := st
 replace k209 : OkL 1048576 H205 r5 := k209
 replace g210 : (r5.length : Int) ≤ (9) := g210
 show QX _ _ _ [(3, (.slice v6A v6m v6c))] _
 refine QX.thenN (CW.seq (CW.reg (WL.mv rfl (WL.as rfl (WL.nt ?_)))))
 obtain ⟨H211, st', l212, rfl, k213⟩ := st.settle (M := 1048576) k209 (by first|omega|simp<;>omega)
 have st := st'
 refine CW.ret (finA Tryz.results75 st (.tmp rfl .nil) ?_)
 exact ⟨(⟨v6A, v6c, r5⟩ : Sl Need), rfl, k213⟩
/-! toll tolllaw07.Few -/
theorem c76 (a0 : Sl Filter) {w : World} {H : PH} (hs : Sub H w) (k0p : Sl.Ok 140737488355329 H a0) : Spec Tryz.prog 76 [a0.v].toArray w H (fun H' v => ∃ (x0 : Sl Filter), v = x0.v ∧ Sl.Ok 1048576 H' x0) := by
 refine Spec.enter Tryz.func76 rfl Tryz.ntmps76 rfl ?_
 have st := St.start hs
 refine CW.seq (CW.reg (WL.as rfl (WL.nt (CW.seq (CW.reg (WL.as rfl (WL.nt (CW.seq (CW.seq ?_)))))))))
 refine CW.reg (WL.as rfl (WL.nt ?_))
 replace st := st.rownilS (α := Filter) 186
 refine (CW.cuts (fun (s : (List Filter) × Value) W => (∃ H', St w W H H' [rowS (α := Filter) s.2 186 s.1] ∧ Le H H' ∧ OkL 1048576 H' s.1 ∧ (s.1.length : Int) ≤ (9))) (fun (s : (List Filter) × Value) => [(3, s.2)]) ?_ ?_)
 ·refine CW.blk (CW.loop (fun (s : Nat × (List Filter) × Int × Value) W => (∃ H', St w W H H' [rowS (α := Filter) s.2.2.2 186 s.2.1] ∧ Le H H' ∧ OkL 1048576 H' s.2.1 ∧ (s.2.1.length : Int) ≤ s.2.2.1) ∧ 0 ≤ s.2.2.1 ∧ s.2.2.1 ≤ (a0.l.length : Int) ∧ s.2.2.1 ≤ 9 ∧ s.1 = ((a0.l.length : Int) - s.2.2.1).toNat) (fun (s : Nat × (List Filter) × Int × Value) => [(0, a0.v), (3, s.2.2.2), (4, Value.int .i64 s.2.2.1)]) (fun s => s.1) ⟨((a0.l.length : Int) - 0).toNat, ([] : List Filter), 0, (.slice none 0 0)⟩ ⟨⟨_, st, Le.refl _, OkL.nil, (by first|omega|simp<;>omega)⟩, (by first|omega|simp<;>omega), (by first|omega|simp<;>omega), (by first|omega|simp<;>omega), rfl⟩ (.cons rfl (.cons rfl (.cons rfl (.nil _)))) ?_)
  rintro ⟨N16, r1, r3, v2⟩ W9 ⟨⟨H7, st, l8, k14, g15⟩, g67, g68, g69, g13⟩
  replace g67 : 0 ≤ r3 := g67
  replace g68 : r3 ≤ (a0.l.length : Int) := g68
  replace g69 : r3 ≤ 9 := g69
  replace g13 : N16 = ((a0.l.length : Int) - r3).toNat := g13
  obtain ⟨v2A, v2m, v2c, rfl⟩ := row_form st (.head _)
  replace st : St w _ _ _ [rowS (α := Filter) (.slice v2A v2m v2c) 186 r1] := st
  replace k14 : OkL 1048576 H7 r1 := k14
  replace g15 : (r1.length : Int) ≤ r3 := g15
  show CW _ _ _ _ [(0, a0.v), (3, (.slice v2A v2m v2c)), (4, Value.int .i64 r3)] _
  refine CW.seq (CW.seq (CW.reg (WL.mv rfl (WL.mv rfl ?_))))
  have z17 : a0.l.length ≤ 140737488355329 := (k0p.le l8).top
  refine WL.pv (Pu.lens (n := a0.l.length) rfl sl63) (WL.pv (Pu.ilt rfl rfl) (WL.mv rfl ?_))
  refine WL.splitP 10 rfl dT dF (fun h18 => ?_) (fun h18 => ?_)
  ·obtain ⟨n4, rfl⟩ : ∃ k, N16 = k + 1 := ⟨N16 - 1, by omega⟩
   refine WL.mv rfl (WL.pv (Pu.ilt rfl rfl) (WL.pv (Pu.pickT rfl rfl) (WL.nt ?_)))
   refine CW.condP 13 rfl dT dF (fun h19 => ?_) (fun h19 => ?_)
   ·refine CW.skip (QX.thenN ?_)
    refine CW.seq ?_
    refine CW.blk ?_
    refine CW.seq (CW.reg (WL.mv rfl (WL.mv rfl ?_)))
    have y20 := lg_get (l := a0.l) (i := r3) (by omega) (by omega)
    have k23 : Filter.Ok 140737488355329 H7 (lg a0.l r3) := ((k0p.le l8).get _ _ y20).2
    refine WL.idx (s := a0) rfl rfl rfl rfl sl63 (k0p.le l8) (by omega) y20 ?_
    intro ad21 f22
    refine WL.pv (Pu.load (v := Filter.v (lg a0.l r3)) rfl ty186 (f22.w st.sub) rfl) ?_
    refine WL.alloco (c := #[.int .i64 0, .string (⟨#[]⟩ : ByteArray), .string (⟨#[]⟩ : ByteArray), .string (⟨#[]⟩ : ByteArray), .int .i64 0, .string (⟨#[]⟩ : ByteArray), .bool false, .int .i64 0]) rfl rfl ze186 rfl st ?_
    intro b24 W25 st
    refine WL.store (o := 0) (c' := [.int .i64 ((lg a0.l r3).kind), .string ((lg a0.l r3).name), .string ((lg a0.l r3).val), .string ((lg a0.l r3).host), .int .i64 ((lg a0.l r3).port), .string ((lg a0.l r3).path), .bool ((lg a0.l r3).whole), .int .i64 ((lg a0.l r3).code)]) rfl rfl rfl rfl ty186 rfl (Enc.one (α := Filter) _) rfl rfl st ?_
    intro W26 st
    refine WL.nt (CW.seq ?_)
    refine CW.regS (C := Cl w H7 [Own.box b24 (.cells #[.int .i64 ((lg a0.l r3).kind), .string ((lg a0.l r3).name), .string ((lg a0.l r3).val), .string ((lg a0.l r3).host), .int .i64 ((lg a0.l r3).port), .string ((lg a0.l r3).path), .bool ((lg a0.l r3).whole), .int .i64 ((lg a0.l r3).code)] 186 (0, 0)), rowS (α := Filter) (.slice v2A v2m v2c) 186 r1]) (tail := [13, 15, 17, 19]) (S := Grew w H H7 [Own.box b24 (.cells #[.int .i64 ((lg a0.l r3).kind), .string ((lg a0.l r3).name), .string ((lg a0.l r3).val), .string ((lg a0.l r3).host), .int .i64 ((lg a0.l r3).port), .string ((lg a0.l r3).path), .bool ((lg a0.l r3).whole), .int .i64 ((lg a0.l r3).code)] 186 (0, 0)), rowS (α := Filter) (.slice v2A v2m v2c) 186 r1]) mixed (fun W' h1 h2 h3 h4 => grew_start st h1 h2 h3 h4) (n := 20) rfl ?_
    refine WS.pk 0 rfl gg (fun W hC => Pu.fa rfl fo186_1) ?_
    refine WS.pk 1 rfl gg (fun W hC => Pu.load rfl ty9 ((AtW.block (hC.2 _ (.head _)).2).drop 1) rfl) ?_
    refine WS.pk 3 rfl gg (fun W hC => Pu.fa rfl fo186_2) ?_
    refine WS.pk 4 rfl gg (fun W hC => Pu.load rfl ty9 ((AtW.block (hC.2 _ (.head _)).2).drop 2) rfl) ?_
    refine WS.pk 6 rfl gg (fun W hC => Pu.fa rfl fo186_3) ?_
    refine WS.pk 7 rfl gg (fun W hC => Pu.load rfl ty9 ((AtW.block (hC.2 _ (.head _)).2).drop 3) rfl) ?_
    refine WS.pk 9 rfl gg (fun W hC => Pu.fa rfl fo186_5) ?_
    refine WS.pk 10 rfl gg (fun W hC => Pu.load rfl ty9 ((AtW.block (hC.2 _ (.head _)).2).drop 5) rfl) ?_
    refine WS.one (i := 2) (by kernel_rfl) ?_
    refine WO.call 2 rfl rfl rfl (fun _ H' l => good_grew ((Le.refl _).trans l) (fun _ h => h)) en16 rfl rfl (fun W H' hs' l => c16 ((lg a0.l r3).name) hs' k23.name) ?_
    rintro _ H27 l28 ⟨x29, rfl, k30⟩
    refine WS.pk 12 rfl (good_grew l28 (fun _ h => h)) (fun W hC => Pu.fa rfl fo186_1) ?_
    refine WS.one (i := 5) (by kernel_rfl) ?_
    refine WO.call 5 rfl rfl rfl (fun _ H' l => good_grew (l28.trans l) (fun _ h => h)) en16 rfl rfl (fun W H' hs' l => c16 ((lg a0.l r3).val) hs' k23.val) ?_
    rintro _ H32 l33 ⟨x34, rfl, k35⟩
    refine WS.one (i := 8) (by kernel_rfl) ?_
    refine WO.call 8 rfl rfl rfl (fun _ H' l => good_grew ((l28.trans l33).trans l) (fun _ h => h)) en16 rfl rfl (fun W H' hs' l => c16 ((lg a0.l r3).host) hs' k23.host) ?_
    rintro _ H37 l38 ⟨x39, rfl, k40⟩
    refine WS.one (i := 11) (by kernel_rfl) ?_
    refine WO.call 11 rfl rfl rfl (fun _ H' l => good_grew (((l28.trans l33).trans l38).trans l) (fun _ h => h)) en16 rfl rfl (fun W H' hs' l => c16 ((lg a0.l r3).path) hs' k23.path) ?_
    rintro _ H42 l43 ⟨x44, rfl, k45⟩
    refine WS.one (i := 13) (by kernel_rfl) ?_
    refine WO.store (o := 1) (c' := [.int .i64 ((lg a0.l r3).kind), .string x29, .string ((lg a0.l r3).val), .string ((lg a0.l r3).host), .int .i64 ((lg a0.l r3).port), .string ((lg a0.l r3).path), .bool ((lg a0.l r3).whole), .int .i64 ((lg a0.l r3).code)]) 13 rfl rfl (tlT (by kernel_rfl)) rfl rfl rfl ty9 rfl (one1 rfl rfl) rfl rfl ?_
    intro H47 l48
    refine WS.one (i := 14) (by kernel_rfl) ?_
    refine WO.pu 14 rfl rfl rfl (tlT (by kernel_rfl)) (fun W H' st l => Pu.fa rfl fo186_2) ?_
    refine WS.one (i := 15) (by kernel_rfl) ?_
    refine WO.store (o := 2) (c' := [.int .i64 ((lg a0.l r3).kind), .string x29, .string x34, .string ((lg a0.l r3).host), .int .i64 ((lg a0.l r3).port), .string ((lg a0.l r3).path), .bool ((lg a0.l r3).whole), .int .i64 ((lg a0.l r3).code)]) 15 rfl rfl (tlT (by kernel_rfl)) rfl rfl rfl ty9 rfl (one1 rfl rfl) rfl rfl ?_
    intro H49 l50
    refine WS.one (i := 16) (by kernel_rfl) ?_
    refine WO.pu 16 rfl rfl rfl (tlT (by kernel_rfl)) (fun W H' st l => Pu.fa rfl fo186_3) ?_
    refine WS.one (i := 17) (by kernel_rfl) ?_
    refine WO.store (o := 3) (c' := [.int .i64 ((lg a0.l r3).kind), .string x29, .string x34, .string x39, .int .i64 ((lg a0.l r3).port), .string ((lg a0.l r3).path), .bool ((lg a0.l r3).whole), .int .i64 ((lg a0.l r3).code)]) 17 rfl rfl (tlT (by kernel_rfl)) rfl rfl rfl ty9 rfl (one1 rfl rfl) rfl rfl ?_
    intro H51 l52
    refine WS.one (i := 18) (by kernel_rfl) ?_
    refine WO.pu 18 rfl rfl rfl (tlT (by kernel_rfl)) (fun W H' st l => Pu.fa rfl fo186_5) ?_
    refine WS.one (i := 19) (by kernel_rfl) ?_
    refine WO.store (o := 5) (c' := [.int .i64 ((lg a0.l r3).kind), .string x29, .string x34, .string x39, .int .i64 ((lg a0.l r3).port), .string x44, .bool ((lg a0.l r3).whole), .int .i64 ((lg a0.l r3).code)]) 19 rfl rfl (tlT (by kernel_rfl)) rfl rfl rfl ty9 rfl (one1 rfl rfl) rfl rfl ?_
    intro H53 l54
    refine WS.fin (by kernel_rfl) (fun W57 H55 st l56 => ?_)
    refine QX.thenN (CW.reg (WL.mv rfl (WL.pv (Pu.load (v := Filter.v (⟨(lg a0.l r3).kind, x29, x34, x39, (lg a0.l r3).port, x44, (lg a0.l r3).whole, (lg a0.l r3).code⟩ : Filter)) rfl ty186 (AtW.block (st.own _ (.head _)).1.2) rfl) ?_)))
    refine WL.lit (M := 1048576) ([(⟨(lg a0.l r3).kind, x29, x34, x39, (lg a0.l r3).port, x44, (lg a0.l r3).whole, (lg a0.l r3).code⟩ : Filter)] : List Filter) rfl rfl ap63 rfl rfl rfl rfl rfl rfl rfl rfl rfl (by decide) (OkL.cons (show Filter.Ok _ _ (⟨(lg a0.l r3).kind, x29, x34, x39, (lg a0.l r3).port, x44, (lg a0.l r3).whole, (lg a0.l r3).code⟩ : Filter) from ⟨k30, k35, k40, k45⟩) OkL.nil) st ?_
    intro b59 W58 H60 st l61 k62
    replace st := st.front2
    refine WL.appS (s2 := (⟨some ⟨b59, 0, none⟩, 1, ([(⟨(lg a0.l r3).kind, x29, x34, x39, (lg a0.l r3).port, x44, (lg a0.l r3).whole, (lg a0.l r3).code⟩ : Filter)] : List Filter)⟩ : Sl Filter)) rfl rfl ap63 rfl rfl rfl rfl rfl k62 (by first|omega|simp<;>omega) (by first|omega|simp<;>omega) st ?_
    intro A63 mm64 n65 W66 st
    refine WL.as rfl ?_
    refine WL.nil (QX.blkN (QX.thenN ?_))
    refine CW.reg (WL.mv rfl (WL.pv (Pu.iadd rfl rfl (c := r3 + 1) (w64 (by omega) (by omega))) (WL.as rfl ?_)))
    refine WL.nil (QX.round ⟨n4, r1 ++ ([(⟨(lg a0.l r3).kind, x29, x34, x39, (lg a0.l r3).port, x44, (lg a0.l r3).whole, (lg a0.l r3).code⟩ : Filter)] : List Filter), r3 + 1, (.slice A63 mm64 n65)⟩ ?_ (Nat.lt_succ_self _) (.cons rfl (.cons rfl (.cons rfl (.nil _)))))
    replace st := st.front2
    replace st := st.forget
    exact ⟨⟨_, st, ((((((((((l8.trans l28).trans l33).trans l38).trans l43).trans l48).trans l50).trans l52).trans l54).trans l56).trans l61), (OkL.app (k14.le (((((((((l28.trans l33).trans l38).trans l43).trans l48).trans l50).trans l52).trans l54).trans l56).trans l61)) (OkL.cons (show Filter.Ok _ _ (⟨(lg a0.l r3).kind, x29, x34, x39, (lg a0.l r3).port, x44, (lg a0.l r3).whole, (lg a0.l r3).code⟩ : Filter) from ⟨k30, k35, k40, k45⟩) OkL.nil)), (by first|omega|simp<;>omega)⟩, (by first|omega|simp<;>omega), (by first|omega|simp<;>omega), (by first|omega|simp<;>omega), (by first|omega|simp<;>omega)⟩
   ·refine CW.exit (QX.thenE (QX.thenE (QX.hit (QX.meets ⟨r1, (.slice v2A v2m v2c)⟩ ?_ (.cons rfl (.nil _))))))
    exact ⟨_, st, l8, k14, (by first|omega|simp<;>omega)⟩
  ·obtain rfl : N16 = 0 := by omega
   refine WL.of (WL.of (WL.pv (Pu.pickF rfl rfl) (WL.nt ?_)))
   refine CW.condF rfl ?_
   refine CW.exit (QX.thenE (QX.thenE (QX.hit (QX.meets ⟨r1, (.slice v2A v2m v2c)⟩ ?_ (.cons rfl (.nil _))))))
   exact ⟨_, st, l8, k14, (by first|omega|simp<;>omega)⟩
 rintro ⟨r5, v6⟩ W72 ⟨H70, st, l71, k74, g75⟩
 obtain ⟨v6A, v6m, v6c, rfl⟩ := row_form st (.head _)
 replace st : St w _ _ _ [rowS (α := Filter) (.slice v6A v6m v6c) 186 r5] := st
 replace k74 : OkL 1048576 H70 r5 := k74
 replace g75 : (r5.length : Int) ≤ (9) := g75
 show QX _ _ _ [(3, (.slice v6A v6m v6c))] _
 refine QX.thenN (CW.seq (CW.reg (WL.mv rfl (WL.as rfl (WL.nt ?_)))))
 obtain ⟨H76, st', l77, rfl, k78⟩ := st.settle (M := 1048576) k74 (by first|omega|simp<;>omega)
 have st := st'
 refine CW.ret (finA Tryz.results76 st (.tmp rfl .nil) ?_)
 exact ⟨(⟨v6A, v6c, r5⟩ : Sl Filter), rfl, k78⟩
/-! toll tolllaw03.Few -/
theorem c130 (a0 : Path) {w : World} {H : PH} (hs : Sub H w) (k0p : Path.Ok 140737488355329 H a0) : Spec Tryz.prog 130 [Path.v a0].toArray w H (fun H' v => ∃ (x0 : Path), v = Path.v x0 ∧ Path.Ok 1048576 H' x0) := by
 refine Spec.enter Tryz.func130 rfl Tryz.ntmps130 rfl ?_
 have st := St.start hs
 refine CW.seq (CW.reg ?_)
 refine WL.boxo (c := #[.int .i64 a0.kind, .string a0.val]) rfl rfl rfl rfl st ?_
 intro b1 W2 st
 refine WL.alloco (c := #[.int .i64 0, .string (⟨#[]⟩ : ByteArray)]) rfl rfl ze122 rfl st ?_
 intro b3 W4 st
 refine WL.nt (CW.seq (CW.reg (WL.pv (Pu.fa rfl fo122_1) (WL.pv (Pu.load rfl ty9 ((AtW.block (st.own _ (.tail _ (.head _))).1.2).drop 1) rfl) ?_))))
 refine WL.call rfl rfl en16 rfl rfl st (c16 a0.val st.sub k0p.val) ?_
 rintro _ W5 H6 st l7 ⟨x8, rfl, k9⟩
 refine WL.pv (Pu.fa rfl fo122_1) ?_
 replace st := st.front2
 refine WL.store (o := 1) (c' := [.int .i64 a0.kind, .string x8]) rfl rfl rfl rfl ty9 rfl (one1 rfl rfl) rfl rfl st ?_
 intro W11 st
 refine WL.nt (CW.seq (CW.reg (WL.pv (Pu.load (v := Path.v (⟨a0.kind, x8⟩ : Path)) rfl ty122 (AtW.block (st.own _ (.head _)).1.2) rfl) ?_)))
 replace st := st.front2
 refine WL.store (o := 0) (c' := [.int .i64 a0.kind, .string x8]) rfl rfl rfl rfl ty122 rfl (Enc.one (α := Path) _) rfl rfl st ?_
 intro W12 st
 refine WL.nt ?_
 refine CW.ret (fun a ha => finR Tryz.results130 st (.cell (v := Path.v (⟨a0.kind, x8⟩ : Path)) rfl ty122 (AtW.block (st.own _ (.head _)).1.2) rfl .nil) ?_ ha)
 exact ⟨(⟨a0.kind, x8⟩ : Path), rfl, ⟨k9⟩⟩
/-! toll tolllaw06.Few -/
theorem c77 (a0 : Match) {w : World} {H : PH} (hs : Sub H w) (k0p : Match.Ok 140737488355329 H a0) : Spec Tryz.prog 77 [Match.v a0].toArray w H (fun H' v => ∃ (x0 : Match), v = Match.v x0 ∧ Match.Ok 1048576 H' x0) := by
 refine Spec.enter Tryz.func77 rfl Tryz.ntmps77 rfl ?_
 have st := St.start hs
 refine CW.seq (CW.reg ?_)
 refine WL.box rfl rfl rfl rfl st ?_
 intro b1 W2 H3 st l4 f5
 refine WL.alloco (c := #[.int .i64 0, .string (⟨#[]⟩ : ByteArray), .string (⟨#[]⟩ : ByteArray), .slice none 0 0, .slice none 0 0]) rfl rfl ze124 rfl st ?_
 intro b6 W7 st
 refine WL.nt (CW.seq ?_)
 refine CW.regS (C := Cl w H3 [Own.box b6 (.cells #[.int .i64 0, .string (⟨#[]⟩ : ByteArray), .string (⟨#[]⟩ : ByteArray), .slice none 0 0, .slice none 0 0] 124 (0, 0))]) (tail := [13]) (S := Grew w H H3 [Own.box b6 (.cells #[.int .i64 0, .string (⟨#[]⟩ : ByteArray), .string (⟨#[]⟩ : ByteArray), .slice none 0 0, .slice none 0 0] 124 (0, 0))]) mixed (fun W' h1 h2 h3 h4 => grew_start st h1 h2 h3 h4) (n := 14) rfl ?_
 refine WS.pk 0 rfl gg (fun W hC => Pu.fa rfl fo124_0) ?_
 refine WS.pk 1 rfl gg (fun W hC => Pu.load (v := Path.v a0.path) rfl ty122 ((f5.drop 0).w hC.1) rfl) ?_
 refine WS.pk 3 rfl gg (fun W hC => Pu.fa rfl fo124_1) ?_
 refine WS.pk 4 rfl gg (fun W hC => Pu.load rfl ty9 ((f5.drop 2).w hC.1) rfl) ?_
 refine WS.pk 6 rfl gg (fun W hC => Pu.fa rfl fo124_2) ?_
 refine WS.pk 7 rfl gg (fun W hC => Pu.load rfl ty24 ((f5.drop 3).w hC.1) rfl) ?_
 refine WS.pk 9 rfl gg (fun W hC => Pu.fa rfl fo124_3) ?_
 refine WS.pk 10 rfl gg (fun W hC => Pu.load rfl ty24 ((f5.drop 4).w hC.1) rfl) ?_
 refine WS.one (i := 2) (by kernel_rfl) ?_
 refine WO.call 2 rfl rfl rfl (fun _ H' l => good_grew ((Le.refl _).trans l) (fun _ h => h)) en130 rfl rfl (fun W H' hs' l => c130 a0.path hs' (k0p.path.le (l4.trans l))) ?_
 rintro _ H8 l9 ⟨x10, rfl, k11⟩
 refine WS.one (i := 5) (by kernel_rfl) ?_
 refine WO.call 5 rfl rfl rfl (fun _ H' l => good_grew (l9.trans l) (fun _ h => h)) en16 rfl rfl (fun W H' hs' l => c16 a0.method hs' k0p.method) ?_
 rintro _ H13 l14 ⟨x15, rfl, k16⟩
 refine WS.one (i := 8) (by kernel_rfl) ?_
 refine WO.call 8 rfl rfl rfl (fun _ H' l => good_grew ((l9.trans l14).trans l) (fun _ h => h)) en73 rfl rfl (fun W H' hs' l => c73 a0.head hs' (k0p.head.le (((l4.trans l9).trans l14).trans l))) ?_
 rintro _ H18 l19 ⟨x20, rfl, k21⟩
 refine WS.one (i := 11) (by kernel_rfl) ?_
 refine WO.call 11 rfl rfl rfl (fun _ H' l => good_grew (((l9.trans l14).trans l19).trans l) (fun _ h => h)) en73 rfl rfl (fun W H' hs' l => c73 a0.query hs' (k0p.query.le ((((l4.trans l9).trans l14).trans l19).trans l))) ?_
 rintro _ H23 l24 ⟨x25, rfl, k26⟩
 refine WS.pk 12 rfl (good_grew (((l9.trans l14).trans l19).trans l24) (fun _ h => h)) (fun W hC => Pu.buildL (cs := Match.c (⟨x10, x15, x20, x25⟩ : Match)) st124 rfl rfl rfl) ?_
 refine WS.one (i := 13) (by kernel_rfl) ?_
 refine WO.store (o := 0) (c' := [.int .i64 x10.kind, .string x10.val, .string x15, x20.v, x25.v]) 13 rfl rfl (tlT (by kernel_rfl)) rfl rfl rfl ty124 rfl (Enc.one (α := Match) _) rfl rfl ?_
 intro H28 l29
 refine WS.fin (by kernel_rfl) (fun W32 H30 st l31 => ?_)
 refine QX.thenN ?_
 refine CW.ret (fun a ha => finR Tryz.results77 st (.cell (v := Match.v (⟨x10, x15, x20, x25⟩ : Match)) rfl ty124 (AtW.block (st.own _ (.head _)).1.2) rfl .nil) ?_ ha)
 exact ⟨(⟨x10, x15, x20, x25⟩ : Match), rfl, ⟨(k11.le ((((l14.trans l19).trans l24).trans l29).trans l31)), k16, (k21.le ((l24.trans l29).trans l31)), (k26.le (l29.trans l31))⟩⟩
/-! toll tolllaw09.Few -/
theorem c14 (a0 : Object) {w : World} {H : PH} (hs : Sub H w) (k0p : Object.Ok 140737488355329 H a0) : Spec Tryz.prog 14 [Object.v a0].toArray w H (fun H' v => ∃ (x0 : Object), v = Object.v x0 ∧ Object.Ok 1048576 H' x0) := by
 refine Spec.enter Tryz.func14 rfl Tryz.ntmps14 rfl ?_
 have st := St.start hs
 refine CW.seq (CW.reg ?_)
 refine WL.box rfl rfl rfl rfl st ?_
 intro b1 W2 H3 st l4 f5
 refine WL.alloco (c := #[.int .i64 0, .string (⟨#[]⟩ : ByteArray), .string (⟨#[]⟩ : ByteArray), .bool false, .slice none 0 0, .slice none 0 0, .string (⟨#[]⟩ : ByteArray), .slice none 0 0, .slice none 0 0, .slice none 0 0, .slice none 0 0, .slice none 0 0, .slice none 0 0]) rfl rfl ze32 rfl st ?_
 intro b6 W7 st
 refine WL.nt ?_
 refine CW.seq (CW.cuts (fun (s : Int × ByteArray × ByteArray × (Sl Pair) × ByteArray × (Sl Side) × (Sl Side) × Nat) W => (∃ H', St w W H H' [Own.box s.2.2.2.2.2.2.2 (.cells #[.int .i64 s.1, .string s.2.1, .string s.2.2.1, .bool a0.good, s.2.2.2.1.v, .slice none 0 0, .string s.2.2.2.2.1, .slice none 0 0, .slice none 0 0, .slice none 0 0, .slice none 0 0, s.2.2.2.2.2.1.v, s.2.2.2.2.2.2.1.v] 32 (0, 0)), Own.box b6 (.cells #[.int .i64 0, .string (⟨#[]⟩ : ByteArray), .string (⟨#[]⟩ : ByteArray), .bool false, .slice none 0 0, .slice none 0 0, .string (⟨#[]⟩ : ByteArray), .slice none 0 0, .slice none 0 0, .slice none 0 0, .slice none 0 0, .slice none 0 0, .slice none 0 0] 32 (0, 0))] ∧ Le H3 H' ∧ s.2.1.size < 1048576 ∧ s.2.2.1.size < 1048576 ∧ Sl.Ok 1048576 H' s.2.2.2.1 ∧ s.2.2.2.2.1.size < 1048576 ∧ Sl.Ok 1048576 H' s.2.2.2.2.2.1 ∧ Sl.Ok 1048576 H' s.2.2.2.2.2.2.1)) (fun (s : Int × ByteArray × ByteArray × (Sl Pair) × ByteArray × (Sl Side) × (Sl Side) × Nat) => [(1, Value.pointer (some (⟨b1, 0, none⟩ : Addr))), (2, Value.pointer (some (⟨b6, 0, none⟩ : Addr))), (3, Value.pointer (some (⟨s.2.2.2.2.2.2.2, 0, none⟩ : Addr)))]) ?_ ?_)
 ·refine CW.regS (C := Cl w H3 [Own.box b6 (.cells #[.int .i64 0, .string (⟨#[]⟩ : ByteArray), .string (⟨#[]⟩ : ByteArray), .bool false, .slice none 0 0, .slice none 0 0, .string (⟨#[]⟩ : ByteArray), .slice none 0 0, .slice none 0 0, .slice none 0 0, .slice none 0 0, .slice none 0 0, .slice none 0 0] 32 (0, 0))]) (tail := []) (S := Grew w H H3 [Own.box b6 (.cells #[.int .i64 0, .string (⟨#[]⟩ : ByteArray), .string (⟨#[]⟩ : ByteArray), .bool false, .slice none 0 0, .slice none 0 0, .string (⟨#[]⟩ : ByteArray), .slice none 0 0, .slice none 0 0, .slice none 0 0, .slice none 0 0, .slice none 0 0, .slice none 0 0] 32 (0, 0))]) mixed (fun W' h1 h2 h3 h4 => grew_start st h1 h2 h3 h4) (n := 20) rfl ?_
  refine WS.pk 0 rfl gg (fun W hC => Pu.fa rfl fo32_0) ?_
  refine WS.pk 1 rfl gg (fun W hC => Pu.load (v := Ref.v a0.ref) rfl ty23 ((f5.drop 0).w hC.1) rfl) ?_
  refine WS.pk 3 rfl gg (fun W hC => Pu.fa rfl fo32_1) ?_
  refine WS.pk 4 rfl gg (fun W hC => Pu.load rfl ty4 ((f5.drop 3).w hC.1) rfl) ?_
  refine WS.pk 5 rfl gg (fun W hC => Pu.fa rfl fo32_2) ?_
  refine WS.pk 6 rfl gg (fun W hC => Pu.load rfl ty24 ((f5.drop 4).w hC.1) rfl) ?_
  refine WS.pk 8 rfl gg (fun W hC => Pu.fa rfl fo32_4) ?_
  refine WS.pk 9 rfl gg (fun W hC => Pu.load rfl ty9 ((f5.drop 6).w hC.1) rfl) ?_
  refine WS.pk 11 rfl gg (fun W hC => Pu.fa rfl fo32_9) ?_
  refine WS.pk 12 rfl gg (fun W hC => Pu.load rfl ty30 ((f5.drop 11).w hC.1) rfl) ?_
  refine WS.pk 14 rfl gg (fun W hC => Pu.fa rfl fo32_10) ?_
  refine WS.pk 15 rfl gg (fun W hC => Pu.load rfl ty30 ((f5.drop 12).w hC.1) rfl) ?_
  refine WS.two (i := 2) (j := 18) (by kernel_rfl) ?_ ?_
  ·refine WO.call 2 rfl rfl rfl (fun _ H' l => good_grew ((Le.refl _).trans l) (fun _ h => h)) en15 rfl rfl (fun W H' hs' l => c15 a0.ref hs' (k0p.ref.le (l4.trans l))) ?_
   rintro _ H16 l17 ⟨x18, rfl, k19⟩
   refine WS.two (i := 7) (j := 18) (by kernel_rfl) ?_ ?_
   ·refine WO.call 7 rfl rfl rfl (fun _ H' l => good_grew (l17.trans l) (fun _ h => h)) en73 rfl rfl (fun W H' hs' l => c73 a0.labels hs' (k0p.labels.le ((l4.trans l17).trans l))) ?_
    rintro _ H21 l22 ⟨x23, rfl, k24⟩
    refine WS.two (i := 10) (j := 18) (by kernel_rfl) ?_ ?_
    ·refine WO.call 10 rfl rfl rfl (fun _ H' l => good_grew ((l17.trans l22).trans l) (fun _ h => h)) en16 rfl rfl (fun W H' hs' l => c16 a0.cls hs' k0p.cls) ?_
     rintro _ H26 l27 ⟨x28, rfl, k29⟩
     refine WS.two (i := 13) (j := 18) (by kernel_rfl) ?_ ?_
     ·refine WO.call 13 rfl rfl rfl (fun _ H' l => good_grew (((l17.trans l22).trans l27).trans l) (fun _ h => h)) en74 rfl rfl (fun W H' hs' l => c74 a0.frm hs' (k0p.frm.le ((((l4.trans l17).trans l22).trans l27).trans l))) ?_
      rintro _ H31 l32 ⟨x33, rfl, k34⟩
      refine WS.two (i := 16) (j := 18) (by kernel_rfl) ?_ ?_
      ·refine WO.call 16 rfl rfl rfl (fun _ H' l => good_grew ((((l17.trans l22).trans l27).trans l32).trans l) (fun _ h => h)) en74 rfl rfl (fun W H' hs' l => c74 a0.to hs' (k0p.to.le (((((l4.trans l17).trans l22).trans l27).trans l32).trans l))) ?_
       rintro _ H36 l37 ⟨x38, rfl, k39⟩
       refine WS.pk 17 rfl (good_grew ((((l17.trans l22).trans l27).trans l32).trans l37) (fun _ h => h)) (fun W hC => Pu.buildL (cs := Object.c (⟨x18, a0.good, x23, (Sl.nil : Sl Int), x28, (Sl.nil : Sl Listener), (Sl.nil : Sl Parent), (Sl.nil : Sl ByteArray), (Sl.nil : Sl Rule), x33, x38⟩ : Object)) st32 rfl rfl rfl) ?_
       refine WS.one (i := 18) (by kernel_rfl) ?_
       refine WO.alloco (c := #[.int .i64 0, .string (⟨#[]⟩ : ByteArray), .string (⟨#[]⟩ : ByteArray), .bool false, .slice none 0 0, .slice none 0 0, .string (⟨#[]⟩ : ByteArray), .slice none 0 0, .slice none 0 0, .slice none 0 0, .slice none 0 0, .slice none 0 0, .slice none 0 0]) 18 rfl rfl rfl ze32 rfl (fun b _ H' l => good_grew (((((l17.trans l22).trans l27).trans l32).trans l37).trans l) (fun _ h => .tail _ (h))) ?_
       intro b41 H42 l43
       refine WS.one (i := 19) (by kernel_rfl) ?_
       refine WO.store (o := 0) (c' := [.int .i64 x18.kind, .string x18.space, .string x18.name, .bool a0.good, x23.v, .slice none 0 0, .string x28, .slice none 0 0, .slice none 0 0, .slice none 0 0, .slice none 0 0, x33.v, x38.v]) 19 rfl rfl (fun _ H' l => good_grew ((((((l17.trans l22).trans l27).trans l32).trans l37).trans l43).trans l) (fun _ h => .tail _ (h))) rfl rfl rfl ty32 rfl (Enc.one (α := Object) _) rfl rfl ?_
       intro H44 l45
       refine WS.fin (by kernel_rfl) (fun W48 H46 st l47 => ?_)
       refine QX.meets ⟨x18.kind, x18.space, x18.name, x23, x28, x33, x38, b41⟩ ?_ (.cons rfl (.cons rfl (.cons rfl (.nil _))))
       exact ⟨_, st, (((((((l17.trans l22).trans l27).trans l32).trans l37).trans l43).trans l45).trans l47), k19.space, k19.name, (k24.le (((((l27.trans l32).trans l37).trans l43).trans l45).trans l47)), k29, (k34.le (((l37.trans l43).trans l45).trans l47)), (k39.le ((l43.trans l45).trans l47))⟩
      ·refine WO.alloco (c := #[.int .i64 0, .string (⟨#[]⟩ : ByteArray), .string (⟨#[]⟩ : ByteArray), .bool false, .slice none 0 0, .slice none 0 0, .string (⟨#[]⟩ : ByteArray), .slice none 0 0, .slice none 0 0, .slice none 0 0, .slice none 0 0, .slice none 0 0, .slice none 0 0]) 18 rfl rfl rfl ze32 rfl (fun b _ H' l => good_grew ((((l17.trans l22).trans l27).trans l32).trans l) (fun _ h => .tail _ (h))) ?_
       intro b49 H50 l51
       refine WS.one (i := 16) (by kernel_rfl) ?_
       refine WO.call 16 rfl rfl rfl (fun _ H' l => good_grew (((((l17.trans l22).trans l27).trans l32).trans l51).trans l) (fun _ h => .tail _ (h))) en74 rfl rfl (fun W H' hs' l => c74 a0.to hs' (k0p.to.le ((((((l4.trans l17).trans l22).trans l27).trans l32).trans l51).trans l))) ?_
       rintro _ H52 l53 ⟨x54, rfl, k55⟩
       refine WS.pk 17 rfl (good_grew (((((l17.trans l22).trans l27).trans l32).trans l51).trans l53) (fun _ h => .tail _ (h))) (fun W hC => Pu.buildL (cs := Object.c (⟨x18, a0.good, x23, (Sl.nil : Sl Int), x28, (Sl.nil : Sl Listener), (Sl.nil : Sl Parent), (Sl.nil : Sl ByteArray), (Sl.nil : Sl Rule), x33, x54⟩ : Object)) st32 rfl rfl rfl) ?_
       refine WS.one (i := 19) (by kernel_rfl) ?_
       refine WO.store (o := 0) (c' := [.int .i64 x18.kind, .string x18.space, .string x18.name, .bool a0.good, x23.v, .slice none 0 0, .string x28, .slice none 0 0, .slice none 0 0, .slice none 0 0, .slice none 0 0, x33.v, x54.v]) 19 rfl rfl (fun _ H' l => good_grew ((((((l17.trans l22).trans l27).trans l32).trans l51).trans l53).trans l) (fun _ h => .tail _ (h))) rfl rfl rfl ty32 rfl (Enc.one (α := Object) _) rfl rfl ?_
       intro H57 l58
       refine WS.fin (by kernel_rfl) (fun W61 H59 st l60 => ?_)
       refine QX.meets ⟨x18.kind, x18.space, x18.name, x23, x28, x33, x54, b49⟩ ?_ (.cons rfl (.cons rfl (.cons rfl (.nil _))))
       exact ⟨_, st, (((((((l17.trans l22).trans l27).trans l32).trans l51).trans l53).trans l58).trans l60), k19.space, k19.name, (k24.le (((((l27.trans l32).trans l51).trans l53).trans l58).trans l60)), k29, (k34.le (((l51.trans l53).trans l58).trans l60)), (k55.le (l58.trans l60))⟩
     ·refine WO.alloco (c := #[.int .i64 0, .string (⟨#[]⟩ : ByteArray), .string (⟨#[]⟩ : ByteArray), .bool false, .slice none 0 0, .slice none 0 0, .string (⟨#[]⟩ : ByteArray), .slice none 0 0, .slice none 0 0, .slice none 0 0, .slice none 0 0, .slice none 0 0, .slice none 0 0]) 18 rfl rfl rfl ze32 rfl (fun b _ H' l => good_grew (((l17.trans l22).trans l27).trans l) (fun _ h => .tail _ (h))) ?_
      intro b62 H63 l64
      refine WS.one (i := 13) (by kernel_rfl) ?_
      refine WO.call 13 rfl rfl rfl (fun _ H' l => good_grew ((((l17.trans l22).trans l27).trans l64).trans l) (fun _ h => .tail _ (h))) en74 rfl rfl (fun W H' hs' l => c74 a0.frm hs' (k0p.frm.le (((((l4.trans l17).trans l22).trans l27).trans l64).trans l))) ?_
      rintro _ H65 l66 ⟨x67, rfl, k68⟩
      refine WS.one (i := 16) (by kernel_rfl) ?_
      refine WO.call 16 rfl rfl rfl (fun _ H' l => good_grew (((((l17.trans l22).trans l27).trans l64).trans l66).trans l) (fun _ h => .tail _ (h))) en74 rfl rfl (fun W H' hs' l => c74 a0.to hs' (k0p.to.le ((((((l4.trans l17).trans l22).trans l27).trans l64).trans l66).trans l))) ?_
      rintro _ H70 l71 ⟨x72, rfl, k73⟩
      refine WS.pk 17 rfl (good_grew (((((l17.trans l22).trans l27).trans l64).trans l66).trans l71) (fun _ h => .tail _ (h))) (fun W hC => Pu.buildL (cs := Object.c (⟨x18, a0.good, x23, (Sl.nil : Sl Int), x28, (Sl.nil : Sl Listener), (Sl.nil : Sl Parent), (Sl.nil : Sl ByteArray), (Sl.nil : Sl Rule), x67, x72⟩ : Object)) st32 rfl rfl rfl) ?_
      refine WS.one (i := 19) (by kernel_rfl) ?_
      refine WO.store (o := 0) (c' := [.int .i64 x18.kind, .string x18.space, .string x18.name, .bool a0.good, x23.v, .slice none 0 0, .string x28, .slice none 0 0, .slice none 0 0, .slice none 0 0, .slice none 0 0, x67.v, x72.v]) 19 rfl rfl (fun _ H' l => good_grew ((((((l17.trans l22).trans l27).trans l64).trans l66).trans l71).trans l) (fun _ h => .tail _ (h))) rfl rfl rfl ty32 rfl (Enc.one (α := Object) _) rfl rfl ?_
      intro H75 l76
      refine WS.fin (by kernel_rfl) (fun W79 H77 st l78 => ?_)
      refine QX.meets ⟨x18.kind, x18.space, x18.name, x23, x28, x67, x72, b62⟩ ?_ (.cons rfl (.cons rfl (.cons rfl (.nil _))))
      exact ⟨_, st, (((((((l17.trans l22).trans l27).trans l64).trans l66).trans l71).trans l76).trans l78), k19.space, k19.name, (k24.le (((((l27.trans l64).trans l66).trans l71).trans l76).trans l78)), k29, (k68.le ((l71.trans l76).trans l78)), (k73.le (l76.trans l78))⟩
    ·refine WO.alloco (c := #[.int .i64 0, .string (⟨#[]⟩ : ByteArray), .string (⟨#[]⟩ : ByteArray), .bool false, .slice none 0 0, .slice none 0 0, .string (⟨#[]⟩ : ByteArray), .slice none 0 0, .slice none 0 0, .slice none 0 0, .slice none 0 0, .slice none 0 0, .slice none 0 0]) 18 rfl rfl rfl ze32 rfl (fun b _ H' l => good_grew ((l17.trans l22).trans l) (fun _ h => .tail _ (h))) ?_
     intro b80 H81 l82
     refine WS.one (i := 10) (by kernel_rfl) ?_
     refine WO.call 10 rfl rfl rfl (fun _ H' l => good_grew (((l17.trans l22).trans l82).trans l) (fun _ h => .tail _ (h))) en16 rfl rfl (fun W H' hs' l => c16 a0.cls hs' k0p.cls) ?_
     rintro _ H83 l84 ⟨x85, rfl, k86⟩
     refine WS.one (i := 13) (by kernel_rfl) ?_
     refine WO.call 13 rfl rfl rfl (fun _ H' l => good_grew ((((l17.trans l22).trans l82).trans l84).trans l) (fun _ h => .tail _ (h))) en74 rfl rfl (fun W H' hs' l => c74 a0.frm hs' (k0p.frm.le (((((l4.trans l17).trans l22).trans l82).trans l84).trans l))) ?_
     rintro _ H88 l89 ⟨x90, rfl, k91⟩
     refine WS.one (i := 16) (by kernel_rfl) ?_
     refine WO.call 16 rfl rfl rfl (fun _ H' l => good_grew (((((l17.trans l22).trans l82).trans l84).trans l89).trans l) (fun _ h => .tail _ (h))) en74 rfl rfl (fun W H' hs' l => c74 a0.to hs' (k0p.to.le ((((((l4.trans l17).trans l22).trans l82).trans l84).trans l89).trans l))) ?_
     rintro _ H93 l94 ⟨x95, rfl, k96⟩
     refine WS.pk 17 rfl (good_grew (((((l17.trans l22).trans l82).trans l84).trans l89).trans l94) (fun _ h => .tail _ (h))) (fun W hC => Pu.buildL (cs := Object.c (⟨x18, a0.good, x23, (Sl.nil : Sl Int), x85, (Sl.nil : Sl Listener), (Sl.nil : Sl Parent), (Sl.nil : Sl ByteArray), (Sl.nil : Sl Rule), x90, x95⟩ : Object)) st32 rfl rfl rfl) ?_
     refine WS.one (i := 19) (by kernel_rfl) ?_
     refine WO.store (o := 0) (c' := [.int .i64 x18.kind, .string x18.space, .string x18.name, .bool a0.good, x23.v, .slice none 0 0, .string x85, .slice none 0 0, .slice none 0 0, .slice none 0 0, .slice none 0 0, x90.v, x95.v]) 19 rfl rfl (fun _ H' l => good_grew ((((((l17.trans l22).trans l82).trans l84).trans l89).trans l94).trans l) (fun _ h => .tail _ (h))) rfl rfl rfl ty32 rfl (Enc.one (α := Object) _) rfl rfl ?_
     intro H98 l99
     refine WS.fin (by kernel_rfl) (fun W102 H100 st l101 => ?_)
     refine QX.meets ⟨x18.kind, x18.space, x18.name, x23, x85, x90, x95, b80⟩ ?_ (.cons rfl (.cons rfl (.cons rfl (.nil _))))
     exact ⟨_, st, (((((((l17.trans l22).trans l82).trans l84).trans l89).trans l94).trans l99).trans l101), k19.space, k19.name, (k24.le (((((l82.trans l84).trans l89).trans l94).trans l99).trans l101)), k86, (k91.le ((l94.trans l99).trans l101)), (k96.le (l99.trans l101))⟩
   ·refine WO.alloco (c := #[.int .i64 0, .string (⟨#[]⟩ : ByteArray), .string (⟨#[]⟩ : ByteArray), .bool false, .slice none 0 0, .slice none 0 0, .string (⟨#[]⟩ : ByteArray), .slice none 0 0, .slice none 0 0, .slice none 0 0, .slice none 0 0, .slice none 0 0, .slice none 0 0]) 18 rfl rfl rfl ze32 rfl (fun b _ H' l => good_grew (l17.trans l) (fun _ h => .tail _ (h))) ?_
    intro b103 H104 l105
    refine WS.one (i := 7) (by kernel_rfl) ?_
    refine WO.call 7 rfl rfl rfl (fun _ H' l => good_grew ((l17.trans l105).trans l) (fun _ h => .tail _ (h))) en73 rfl rfl (fun W H' hs' l => c73 a0.labels hs' (k0p.labels.le (((l4.trans l17).trans l105).trans l))) ?_
    rintro _ H106 l107 ⟨x108, rfl, k109⟩
    refine WS.one (i := 10) (by kernel_rfl) ?_
    refine WO.call 10 rfl rfl rfl (fun _ H' l => good_grew (((l17.trans l105).trans l107).trans l) (fun _ h => .tail _ (h))) en16 rfl rfl (fun W H' hs' l => c16 a0.cls hs' k0p.cls) ?_
    rintro _ H111 l112 ⟨x113, rfl, k114⟩
    refine WS.one (i := 13) (by kernel_rfl) ?_
    refine WO.call 13 rfl rfl rfl (fun _ H' l => good_grew ((((l17.trans l105).trans l107).trans l112).trans l) (fun _ h => .tail _ (h))) en74 rfl rfl (fun W H' hs' l => c74 a0.frm hs' (k0p.frm.le (((((l4.trans l17).trans l105).trans l107).trans l112).trans l))) ?_
    rintro _ H116 l117 ⟨x118, rfl, k119⟩
    refine WS.one (i := 16) (by kernel_rfl) ?_
    refine WO.call 16 rfl rfl rfl (fun _ H' l => good_grew (((((l17.trans l105).trans l107).trans l112).trans l117).trans l) (fun _ h => .tail _ (h))) en74 rfl rfl (fun W H' hs' l => c74 a0.to hs' (k0p.to.le ((((((l4.trans l17).trans l105).trans l107).trans l112).trans l117).trans l))) ?_
    rintro _ H121 l122 ⟨x123, rfl, k124⟩
    refine WS.pk 17 rfl (good_grew (((((l17.trans l105).trans l107).trans l112).trans l117).trans l122) (fun _ h => .tail _ (h))) (fun W hC => Pu.buildL (cs := Object.c (⟨x18, a0.good, x108, (Sl.nil : Sl Int), x113, (Sl.nil : Sl Listener), (Sl.nil : Sl Parent), (Sl.nil : Sl ByteArray), (Sl.nil : Sl Rule), x118, x123⟩ : Object)) st32 rfl rfl rfl) ?_
    refine WS.one (i := 19) (by kernel_rfl) ?_
    refine WO.store (o := 0) (c' := [.int .i64 x18.kind, .string x18.space, .string x18.name, .bool a0.good, x108.v, .slice none 0 0, .string x113, .slice none 0 0, .slice none 0 0, .slice none 0 0, .slice none 0 0, x118.v, x123.v]) 19 rfl rfl (fun _ H' l => good_grew ((((((l17.trans l105).trans l107).trans l112).trans l117).trans l122).trans l) (fun _ h => .tail _ (h))) rfl rfl rfl ty32 rfl (Enc.one (α := Object) _) rfl rfl ?_
    intro H126 l127
    refine WS.fin (by kernel_rfl) (fun W130 H128 st l129 => ?_)
    refine QX.meets ⟨x18.kind, x18.space, x18.name, x108, x113, x118, x123, b103⟩ ?_ (.cons rfl (.cons rfl (.cons rfl (.nil _))))
    exact ⟨_, st, (((((((l17.trans l105).trans l107).trans l112).trans l117).trans l122).trans l127).trans l129), k19.space, k19.name, (k109.le ((((l112.trans l117).trans l122).trans l127).trans l129)), k114, (k119.le ((l122.trans l127).trans l129)), (k124.le (l127.trans l129))⟩
  ·refine WO.alloco (c := #[.int .i64 0, .string (⟨#[]⟩ : ByteArray), .string (⟨#[]⟩ : ByteArray), .bool false, .slice none 0 0, .slice none 0 0, .string (⟨#[]⟩ : ByteArray), .slice none 0 0, .slice none 0 0, .slice none 0 0, .slice none 0 0, .slice none 0 0, .slice none 0 0]) 18 rfl rfl rfl ze32 rfl (fun b _ H' l => good_grew ((Le.refl _).trans l) (fun _ h => .tail _ (h))) ?_
   intro b131 H132 l133
   refine WS.one (i := 2) (by kernel_rfl) ?_
   refine WO.call 2 rfl rfl rfl (fun _ H' l => good_grew (l133.trans l) (fun _ h => .tail _ (h))) en15 rfl rfl (fun W H' hs' l => c15 a0.ref hs' (k0p.ref.le ((l4.trans l133).trans l))) ?_
   rintro _ H134 l135 ⟨x136, rfl, k137⟩
   refine WS.one (i := 7) (by kernel_rfl) ?_
   refine WO.call 7 rfl rfl rfl (fun _ H' l => good_grew ((l133.trans l135).trans l) (fun _ h => .tail _ (h))) en73 rfl rfl (fun W H' hs' l => c73 a0.labels hs' (k0p.labels.le (((l4.trans l133).trans l135).trans l))) ?_
   rintro _ H139 l140 ⟨x141, rfl, k142⟩
   refine WS.one (i := 10) (by kernel_rfl) ?_
   refine WO.call 10 rfl rfl rfl (fun _ H' l => good_grew (((l133.trans l135).trans l140).trans l) (fun _ h => .tail _ (h))) en16 rfl rfl (fun W H' hs' l => c16 a0.cls hs' k0p.cls) ?_
   rintro _ H144 l145 ⟨x146, rfl, k147⟩
   refine WS.one (i := 13) (by kernel_rfl) ?_
   refine WO.call 13 rfl rfl rfl (fun _ H' l => good_grew ((((l133.trans l135).trans l140).trans l145).trans l) (fun _ h => .tail _ (h))) en74 rfl rfl (fun W H' hs' l => c74 a0.frm hs' (k0p.frm.le (((((l4.trans l133).trans l135).trans l140).trans l145).trans l))) ?_
   rintro _ H149 l150 ⟨x151, rfl, k152⟩
   refine WS.one (i := 16) (by kernel_rfl) ?_
   refine WO.call 16 rfl rfl rfl (fun _ H' l => good_grew (((((l133.trans l135).trans l140).trans l145).trans l150).trans l) (fun _ h => .tail _ (h))) en74 rfl rfl (fun W H' hs' l => c74 a0.to hs' (k0p.to.le ((((((l4.trans l133).trans l135).trans l140).trans l145).trans l150).trans l))) ?_
   rintro _ H154 l155 ⟨x156, rfl, k157⟩
   refine WS.pk 17 rfl (good_grew (((((l133.trans l135).trans l140).trans l145).trans l150).trans l155) (fun _ h => .tail _ (h))) (fun W hC => Pu.buildL (cs := Object.c (⟨x136, a0.good, x141, (Sl.nil : Sl Int), x146, (Sl.nil : Sl Listener), (Sl.nil : Sl Parent), (Sl.nil : Sl ByteArray), (Sl.nil : Sl Rule), x151, x156⟩ : Object)) st32 rfl rfl rfl) ?_
   refine WS.one (i := 19) (by kernel_rfl) ?_
   refine WO.store (o := 0) (c' := [.int .i64 x136.kind, .string x136.space, .string x136.name, .bool a0.good, x141.v, .slice none 0 0, .string x146, .slice none 0 0, .slice none 0 0, .slice none 0 0, .slice none 0 0, x151.v, x156.v]) 19 rfl rfl (fun _ H' l => good_grew ((((((l133.trans l135).trans l140).trans l145).trans l150).trans l155).trans l) (fun _ h => .tail _ (h))) rfl rfl rfl ty32 rfl (Enc.one (α := Object) _) rfl rfl ?_
   intro H159 l160
   refine WS.fin (by kernel_rfl) (fun W163 H161 st l162 => ?_)
   refine QX.meets ⟨x136.kind, x136.space, x136.name, x141, x146, x151, x156, b131⟩ ?_ (.cons rfl (.cons rfl (.cons rfl (.nil _))))
   exact ⟨_, st, (((((((l133.trans l135).trans l140).trans l145).trans l150).trans l155).trans l160).trans l162), k137.space, k137.name, (k142.le ((((l145.trans l150).trans l155).trans l160).trans l162)), k147, (k152.le ((l155.trans l160).trans l162)), (k157.le (l160.trans l162))⟩
 rintro ⟨r9, r10, r11, r12, r13, r14, r15, r8⟩ W166 ⟨H164, st, l165, k168, k169, k170, k171, k172, k173⟩
 replace st : St w _ _ _ [Own.box r8 (.cells #[.int .i64 r9, .string r10, .string r11, .bool a0.good, r12.v, .slice none 0 0, .string r13, .slice none 0 0, .slice none 0 0, .slice none 0 0, .slice none 0 0, r14.v, r15.v] 32 (0, 0)), Own.box b6 (.cells #[.int .i64 0, .string (⟨#[]⟩ : ByteArray), .string (⟨#[]⟩ : ByteArray), .bool false, .slice none 0 0, .slice none 0 0, .string (⟨#[]⟩ : ByteArray), .slice none 0 0, .slice none 0 0, .slice none 0 0, .slice none 0 0, .slice none 0 0, .slice none 0 0] 32 (0, 0))] := st
 replace k168 : r10.size < 1048576 := k168
 replace k169 : r11.size < 1048576 := k169
 replace k170 : Sl.Ok 1048576 H164 r12 := k170
 replace k171 : r13.size < 1048576 := k171
 replace k172 : Sl.Ok 1048576 H164 r14 := k172
 replace k173 : Sl.Ok 1048576 H164 r15 := k173
 show QX _ _ _ [(1, Value.pointer (some (⟨b1, 0, none⟩ : Addr))), (2, Value.pointer (some (⟨b6, 0, none⟩ : Addr))), (3, Value.pointer (some (⟨r8, 0, none⟩ : Addr)))] _
 refine QX.thenN (CW.seq (CW.seq (CW.reg (WL.as rfl (WL.nt ?_)))))
 replace st := st.rownilS (α := Int) 3
 refine (CW.cuts (fun (s : (List Int) × Value) W => (∃ H', St w W H H' [rowS (α := Int) s.2 3 s.1, Own.box r8 (.cells #[.int .i64 r9, .string r10, .string r11, .bool a0.good, r12.v, s.2, .string r13, .slice none 0 0, .slice none 0 0, .slice none 0 0, .slice none 0 0, r14.v, r15.v] 32 (0, 0)), Own.box b6 (.cells #[.int .i64 0, .string (⟨#[]⟩ : ByteArray), .string (⟨#[]⟩ : ByteArray), .bool false, .slice none 0 0, .slice none 0 0, .string (⟨#[]⟩ : ByteArray), .slice none 0 0, .slice none 0 0, .slice none 0 0, .slice none 0 0, .slice none 0 0, .slice none 0 0] 32 (0, 0))] ∧ Le H164 H' ∧ (s.1.length : Int) ≤ (9))) (fun (s : (List Int) × Value) => [(1, Value.pointer (some (⟨b1, 0, none⟩ : Addr))), (2, Value.pointer (some (⟨b6, 0, none⟩ : Addr))), (3, Value.pointer (some (⟨r8, 0, none⟩ : Addr)))]) ?_ ?_)
 ·refine CW.blk (CW.loop (fun (s : Nat × Int × (List Int) × Value) W => (∃ H', St w W H H' [rowS (α := Int) s.2.2.2 3 s.2.2.1, Own.box r8 (.cells #[.int .i64 r9, .string r10, .string r11, .bool a0.good, r12.v, s.2.2.2, .string r13, .slice none 0 0, .slice none 0 0, .slice none 0 0, .slice none 0 0, r14.v, r15.v] 32 (0, 0)), Own.box b6 (.cells #[.int .i64 0, .string (⟨#[]⟩ : ByteArray), .string (⟨#[]⟩ : ByteArray), .bool false, .slice none 0 0, .slice none 0 0, .string (⟨#[]⟩ : ByteArray), .slice none 0 0, .slice none 0 0, .slice none 0 0, .slice none 0 0, .slice none 0 0, .slice none 0 0] 32 (0, 0))] ∧ Le H164 H' ∧ (s.2.2.1.length : Int) ≤ s.2.1) ∧ 0 ≤ s.2.1 ∧ s.2.1 ≤ (a0.ports.l.length : Int) ∧ s.2.1 ≤ 9 ∧ s.1 = ((a0.ports.l.length : Int) - s.2.1).toNat) (fun (s : Nat × Int × (List Int) × Value) => [(1, Value.pointer (some (⟨b1, 0, none⟩ : Addr))), (2, Value.pointer (some (⟨b6, 0, none⟩ : Addr))), (3, Value.pointer (some (⟨r8, 0, none⟩ : Addr))), (4, Value.int .i64 s.2.1)]) (fun s => s.1) ⟨((a0.ports.l.length : Int) - 0).toNat, 0, ([] : List Int), (.slice none 0 0)⟩ ⟨⟨_, st, Le.refl _, (by first|omega|simp<;>omega)⟩, (by first|omega|simp<;>omega), (by first|omega|simp<;>omega), (by first|omega|simp<;>omega), rfl⟩ (.cons rfl (.cons rfl (.cons rfl (.cons rfl (.nil _))))) ?_)
  rintro ⟨N188, r174, r175, v176⟩ W182 ⟨⟨H180, st, l181, g187⟩, g211, g212, g213, g186⟩
  replace g211 : 0 ≤ r174 := g211
  replace g212 : r174 ≤ (a0.ports.l.length : Int) := g212
  replace g213 : r174 ≤ 9 := g213
  replace g186 : N188 = ((a0.ports.l.length : Int) - r174).toNat := g186
  obtain ⟨v176A, v176m, v176c, rfl⟩ := row_form st (.head _)
  replace st : St w _ _ _ [rowS (α := Int) (.slice v176A v176m v176c) 3 r175, Own.box r8 (.cells #[.int .i64 r9, .string r10, .string r11, .bool a0.good, r12.v, (.slice v176A v176m v176c), .string r13, .slice none 0 0, .slice none 0 0, .slice none 0 0, .slice none 0 0, r14.v, r15.v] 32 (0, 0)), Own.box b6 (.cells #[.int .i64 0, .string (⟨#[]⟩ : ByteArray), .string (⟨#[]⟩ : ByteArray), .bool false, .slice none 0 0, .slice none 0 0, .string (⟨#[]⟩ : ByteArray), .slice none 0 0, .slice none 0 0, .slice none 0 0, .slice none 0 0, .slice none 0 0, .slice none 0 0] 32 (0, 0))] := st
  replace g187 : (r175.length : Int) ≤ r174 := g187
  show CW _ _ _ _ [(1, Value.pointer (some (⟨b1, 0, none⟩ : Addr))), (2, Value.pointer (some (⟨b6, 0, none⟩ : Addr))), (3, Value.pointer (some (⟨r8, 0, none⟩ : Addr))), (4, Value.int .i64 r174)] _
  refine CW.seq (CW.seq (CW.reg (WL.mv rfl (WL.pv (Pu.fa rfl fo32_3) (WL.pv (Pu.load rfl ty25 (((f5.le (l165.trans l181)).drop 5).w st.sub) rfl) ?_)))))
  have z189 : a0.ports.l.length ≤ 140737488355329 := (k0p.ports.le ((l4.trans l165).trans l181)).top
  refine WL.pv (Pu.lens (n := a0.ports.l.length) rfl sl25) (WL.pv (Pu.ilt rfl rfl) (WL.mv rfl ?_))
  refine WL.splitP 38 rfl dT dF (fun h190 => ?_) (fun h190 => ?_)
  ·obtain ⟨n177, rfl⟩ : ∃ k, N188 = k + 1 := ⟨N188 - 1, by omega⟩
   refine WL.mv rfl (WL.pv (Pu.ilt rfl rfl) (WL.pv (Pu.pickT rfl rfl) (WL.nt ?_)))
   refine CW.condP 41 rfl dT dF (fun h191 => ?_) (fun h191 => ?_)
   ·refine CW.skip (QX.thenN ?_)
    refine CW.seq ?_
    refine CW.blk ?_
    refine CW.regS (C := Cl w H180 [Own.box r8 (.cells #[.int .i64 r9, .string r10, .string r11, .bool a0.good, r12.v, (.slice v176A v176m v176c), .string r13, .slice none 0 0, .slice none 0 0, .slice none 0 0, .slice none 0 0, r14.v, r15.v] 32 (0, 0)), Own.box b6 (.cells #[.int .i64 0, .string (⟨#[]⟩ : ByteArray), .string (⟨#[]⟩ : ByteArray), .bool false, .slice none 0 0, .slice none 0 0, .string (⟨#[]⟩ : ByteArray), .slice none 0 0, .slice none 0 0, .slice none 0 0, .slice none 0 0, .slice none 0 0, .slice none 0 0] 32 (0, 0))]) (tail := [10]) (S := Grew w H H180 [rowS (α := Int) (.slice v176A v176m v176c) 3 r175, Own.box r8 (.cells #[.int .i64 r9, .string r10, .string r11, .bool a0.good, r12.v, (.slice v176A v176m v176c), .string r13, .slice none 0 0, .slice none 0 0, .slice none 0 0, .slice none 0 0, r14.v, r15.v] 32 (0, 0)), Own.box b6 (.cells #[.int .i64 0, .string (⟨#[]⟩ : ByteArray), .string (⟨#[]⟩ : ByteArray), .bool false, .slice none 0 0, .slice none 0 0, .string (⟨#[]⟩ : ByteArray), .slice none 0 0, .slice none 0 0, .slice none 0 0, .slice none 0 0, .slice none 0 0, .slice none 0 0] 32 (0, 0))]) mixed (fun W' h1 h2 h3 h4 => grew_start st h1 h2 h3 h4) (n := 11) rfl ?_
    refine WS.pk 0 rfl (good_grew (Le.refl _) (fun _ h => .tail _ (h))) (fun W hC => Pu.fa rfl fo32_3) ?_
    refine WS.pk 1 rfl (good_grew (Le.refl _) (fun _ h => .tail _ (h))) (fun W hC => Pu.load rfl ty25 ((AtW.block (hC.2 _ (.head _)).2).drop 5) rfl) ?_
    refine WS.pk 2 rfl (good_grew (Le.refl _) (fun _ h => .tail _ (h))) (fun W hC => Pu.fa rfl fo32_3) ?_
    refine WS.pk 3 rfl (good_grew (Le.refl _) (fun _ h => .tail _ (h))) (fun W hC => Pu.load rfl ty25 (((f5.le (l165.trans l181)).drop 5).w hC.1) rfl) ?_
    refine WS.pk 4 rfl (good_grew (Le.refl _) (fun _ h => .tail _ (h))) (fun W hC => Pu.move rfl) ?_
    have y192 := lg_get (l := a0.ports.l) (i := r174) (by omega) (by omega)
    obtain ⟨ad193, qa196, f194⟩ := ((k0p.ports.le ((l4.trans l165).trans l181)).get _ _ y192).1
    refine WS.pk 5 rfl (good_grew (Le.refl _) (fun _ h => .tail _ (h))) (fun W hC => Pu.idx0 rfl rfl sl25 (by first|omega|simp<;>omega) (by first|omega|simp<;>omega) qa196) ?_
    refine WS.pk 6 rfl (good_grew (Le.refl _) (fun _ h => .tail _ (h))) (fun W hC => Pu.load rfl ty3 (f194.w hC.1) rfl) ?_
    refine WS.one (i := 7) (by kernel_rfl) ?_
    refine WO.lit (M := 1048576) ([lg a0.ports.l r174] : List Int) 7 rfl rfl rfl (fun _ H' l => good_grew ((Le.refl _).trans l) (fun _ h => .tail _ (h))) ap25 rfl rfl rfl rfl rfl rfl rfl rfl rfl (by decide) (OkL.cons trivial OkL.nil) ?_
    intro b197 H198 l199 k200
    refine WS.one (i := 8) (by kernel_rfl) ?_
    refine WO.appS (s2 := (⟨some ⟨b197, 0, none⟩, 1, ([lg a0.ports.l r174] : List Int)⟩ : Sl Int)) 8 rfl rfl rfl (fun _ A m c H' l => good_grew (l199.trans l) (fun _ h => .tail _ (h))) ap25 rfl rfl rfl rfl rfl k200 (by first|omega|simp<;>omega) (by first|omega|simp<;>omega) ?_
    intro A201 mm202 n203 H204 l205
    refine WS.pk 9 rfl (good_grew (l199.trans l205) (fun _ h => .tail _ (h))) (fun W hC => Pu.fa rfl fo32_3) ?_
    refine WS.one (i := 10) (by kernel_rfl) ?_
    refine WO.front2 ?_
    refine WO.store (o := 5) (c' := [.int .i64 r9, .string r10, .string r11, .bool a0.good, r12.v, (.slice A201 mm202 n203), .string r13, .slice none 0 0, .slice none 0 0, .slice none 0 0, .slice none 0 0, r14.v, r15.v]) 10 rfl rfl (tlT (by kernel_rfl)) rfl rfl rfl ty25 rfl (one1 rfl rfl) rfl rfl ?_
    intro H206 l207
    refine WS.fin (by kernel_rfl) (fun W210 H208 st l209 => ?_)
    refine QX.blkN (QX.thenN ?_)
    refine CW.reg (WL.mv rfl (WL.pv (Pu.iadd rfl rfl (c := r174 + 1) (w64 (by omega) (by omega))) (WL.as rfl ?_)))
    refine WL.nil (QX.round ⟨n177, r174 + 1, r175 ++ ([lg a0.ports.l r174] : List Int), (.slice A201 mm202 n203)⟩ ?_ (Nat.lt_succ_self _) (.cons rfl (.cons rfl (.cons rfl (.cons rfl (.nil _))))))
    replace st := st.front3
    replace st := st.front2
    replace st := st.front3
    exact ⟨⟨_, st, ((((l181.trans l199).trans l205).trans l207).trans l209), (by first|omega|simp<;>omega)⟩, (by first|omega|simp<;>omega), (by first|omega|simp<;>omega), (by first|omega|simp<;>omega), (by first|omega|simp<;>omega)⟩
   ·refine CW.exit (QX.thenE (QX.thenE (QX.hit (QX.meets ⟨r175, (.slice v176A v176m v176c)⟩ ?_ (.cons rfl (.cons rfl (.cons rfl (.nil _))))))))
    exact ⟨_, st, l181, (by first|omega|simp<;>omega)⟩
  ·obtain rfl : N188 = 0 := by omega
   refine WL.of (WL.of (WL.pv (Pu.pickF rfl rfl) (WL.nt ?_)))
   refine CW.condF rfl ?_
   refine CW.exit (QX.thenE (QX.thenE (QX.hit (QX.meets ⟨r175, (.slice v176A v176m v176c)⟩ ?_ (.cons rfl (.cons rfl (.cons rfl (.nil _))))))))
   exact ⟨_, st, l181, (by first|omega|simp<;>omega)⟩
 rintro ⟨r178, v179⟩ W216 ⟨H214, st, l215, g218⟩
 obtain ⟨v179A, v179m, v179c, rfl⟩ := row_form st (.head _)
 replace st : St w _ _ _ [rowS (α := Int) (.slice v179A v179m v179c) 3 r178, Own.box r8 (.cells #[.int .i64 r9, .string r10, .string r11, .bool a0.good, r12.v, (.slice v179A v179m v179c), .string r13, .slice none 0 0, .slice none 0 0, .slice none 0 0, .slice none 0 0, r14.v, r15.v] 32 (0, 0)), Own.box b6 (.cells #[.int .i64 0, .string (⟨#[]⟩ : ByteArray), .string (⟨#[]⟩ : ByteArray), .bool false, .slice none 0 0, .slice none 0 0, .string (⟨#[]⟩ : ByteArray), .slice none 0 0, .slice none 0 0, .slice none 0 0, .slice none 0 0, .slice none 0 0, .slice none 0 0] 32 (0, 0))] := st
 replace g218 : (r178.length : Int) ≤ (9) := g218
 show QX _ _ _ [(1, Value.pointer (some (⟨b1, 0, none⟩ : Addr))), (2, Value.pointer (some (⟨b6, 0, none⟩ : Addr))), (3, Value.pointer (some (⟨r8, 0, none⟩ : Addr)))] _
 refine QX.thenN (CW.seq (CW.seq (CW.reg (WL.as rfl (WL.nt ?_)))))
 replace st := st.rownilS (α := Listener) 94
 refine (CW.cuts (fun (s : (List Listener) × Value) W => (∃ H', St w W H H' [rowS (α := Listener) s.2 94 s.1, rowS (α := Int) (.slice v179A v179m v179c) 3 r178, Own.box r8 (.cells #[.int .i64 r9, .string r10, .string r11, .bool a0.good, r12.v, (.slice v179A v179m v179c), .string r13, s.2, .slice none 0 0, .slice none 0 0, .slice none 0 0, r14.v, r15.v] 32 (0, 0)), Own.box b6 (.cells #[.int .i64 0, .string (⟨#[]⟩ : ByteArray), .string (⟨#[]⟩ : ByteArray), .bool false, .slice none 0 0, .slice none 0 0, .string (⟨#[]⟩ : ByteArray), .slice none 0 0, .slice none 0 0, .slice none 0 0, .slice none 0 0, .slice none 0 0, .slice none 0 0] 32 (0, 0))] ∧ Le H214 H' ∧ OkL 1048576 H' s.1 ∧ (s.1.length : Int) ≤ (9))) (fun (s : (List Listener) × Value) => [(1, Value.pointer (some (⟨b1, 0, none⟩ : Addr))), (2, Value.pointer (some (⟨b6, 0, none⟩ : Addr))), (3, Value.pointer (some (⟨r8, 0, none⟩ : Addr)))]) ?_ ?_)
 ·refine CW.blk (CW.loop (fun (s : Nat × Int × (List Listener) × Value) W => (∃ H', St w W H H' [rowS (α := Listener) s.2.2.2 94 s.2.2.1, rowS (α := Int) (.slice v179A v179m v179c) 3 r178, Own.box r8 (.cells #[.int .i64 r9, .string r10, .string r11, .bool a0.good, r12.v, (.slice v179A v179m v179c), .string r13, s.2.2.2, .slice none 0 0, .slice none 0 0, .slice none 0 0, r14.v, r15.v] 32 (0, 0)), Own.box b6 (.cells #[.int .i64 0, .string (⟨#[]⟩ : ByteArray), .string (⟨#[]⟩ : ByteArray), .bool false, .slice none 0 0, .slice none 0 0, .string (⟨#[]⟩ : ByteArray), .slice none 0 0, .slice none 0 0, .slice none 0 0, .slice none 0 0, .slice none 0 0, .slice none 0 0] 32 (0, 0))] ∧ Le H214 H' ∧ OkL 1048576 H' s.2.2.1 ∧ (s.2.2.1.length : Int) ≤ s.2.1) ∧ 0 ≤ s.2.1 ∧ s.2.1 ≤ (a0.listeners.l.length : Int) ∧ s.2.1 ≤ 9 ∧ s.1 = ((a0.listeners.l.length : Int) - s.2.1).toNat) (fun (s : Nat × Int × (List Listener) × Value) => [(1, Value.pointer (some (⟨b1, 0, none⟩ : Addr))), (2, Value.pointer (some (⟨b6, 0, none⟩ : Addr))), (3, Value.pointer (some (⟨r8, 0, none⟩ : Addr))), (5, Value.int .i64 s.2.1)]) (fun s => s.1) ⟨((a0.listeners.l.length : Int) - 0).toNat, 0, ([] : List Listener), (.slice none 0 0)⟩ ⟨⟨_, st, Le.refl _, OkL.nil, (by first|omega|simp<;>omega)⟩, (by first|omega|simp<;>omega), (by first|omega|simp<;>omega), (by first|omega|simp<;>omega), rfl⟩ (.cons rfl (.cons rfl (.cons rfl (.cons rfl (.nil _))))) ?_)
  rintro ⟨N234, r219, r220, v221⟩ W227 ⟨⟨H225, st, l226, k232, g233⟩, g282, g283, g284, g231⟩
  replace g282 : 0 ≤ r219 := g282
  replace g283 : r219 ≤ (a0.listeners.l.length : Int) := g283
  replace g284 : r219 ≤ 9 := g284
  replace g231 : N234 = ((a0.listeners.l.length : Int) - r219).toNat := g231
  obtain ⟨v221A, v221m, v221c, rfl⟩ := row_form st (.head _)
  replace st : St w _ _ _ [rowS (α := Listener) (.slice v221A v221m v221c) 94 r220, rowS (α := Int) (.slice v179A v179m v179c) 3 r178, Own.box r8 (.cells #[.int .i64 r9, .string r10, .string r11, .bool a0.good, r12.v, (.slice v179A v179m v179c), .string r13, (.slice v221A v221m v221c), .slice none 0 0, .slice none 0 0, .slice none 0 0, r14.v, r15.v] 32 (0, 0)), Own.box b6 (.cells #[.int .i64 0, .string (⟨#[]⟩ : ByteArray), .string (⟨#[]⟩ : ByteArray), .bool false, .slice none 0 0, .slice none 0 0, .string (⟨#[]⟩ : ByteArray), .slice none 0 0, .slice none 0 0, .slice none 0 0, .slice none 0 0, .slice none 0 0, .slice none 0 0] 32 (0, 0))] := st
  replace k232 : OkL 1048576 H225 r220 := k232
  replace g233 : (r220.length : Int) ≤ r219 := g233
  show CW _ _ _ _ [(1, Value.pointer (some (⟨b1, 0, none⟩ : Addr))), (2, Value.pointer (some (⟨b6, 0, none⟩ : Addr))), (3, Value.pointer (some (⟨r8, 0, none⟩ : Addr))), (5, Value.int .i64 r219)] _
  refine CW.seq (CW.seq (CW.reg (WL.mv rfl (WL.pv (Pu.fa rfl fo32_5) (WL.pv (Pu.load rfl ty26 (((f5.le ((l165.trans l215).trans l226)).drop 7).w st.sub) rfl) ?_)))))
  have z235 : a0.listeners.l.length ≤ 140737488355329 := (k0p.listeners.le (((l4.trans l165).trans l215).trans l226)).top
  refine WL.pv (Pu.lens (n := a0.listeners.l.length) rfl sl26) (WL.pv (Pu.ilt rfl rfl) (WL.mv rfl ?_))
  refine WL.splitP 59 rfl dT dF (fun h236 => ?_) (fun h236 => ?_)
  ·obtain ⟨n222, rfl⟩ : ∃ k, N234 = k + 1 := ⟨N234 - 1, by omega⟩
   refine WL.mv rfl (WL.pv (Pu.ilt rfl rfl) (WL.pv (Pu.pickT rfl rfl) (WL.nt ?_)))
   refine CW.condP 62 rfl dT dF (fun h237 => ?_) (fun h237 => ?_)
   ·refine CW.skip (QX.thenN ?_)
    refine CW.seq ?_
    refine CW.blk ?_
    refine CW.seq (CW.reg (WL.pv (Pu.fa rfl fo32_5) (WL.pv (Pu.load rfl ty26 (((f5.le ((l165.trans l215).trans l226)).drop 7).w st.sub) rfl) (WL.mv rfl ?_))))
    have y238 := lg_get (l := a0.listeners.l) (i := r219) (by omega) (by omega)
    have k241 : Listener.Ok 140737488355329 H225 (lg a0.listeners.l r219) := ((k0p.listeners.le (((l4.trans l165).trans l215).trans l226)).get _ _ y238).2
    refine WL.idx (s := a0.listeners) rfl rfl rfl rfl sl26 (k0p.listeners.le (((l4.trans l165).trans l215).trans l226)) (by omega) y238 ?_
    intro ad239 f240
    refine WL.pv (Pu.load (v := Listener.v (lg a0.listeners.l r219)) rfl ty94 (f240.w st.sub) rfl) ?_
    refine WL.alloco (c := #[.string (⟨#[]⟩ : ByteArray), .int .i64 0, .bool false, .string (⟨#[]⟩ : ByteArray), .int .i64 0, .string (⟨#[]⟩ : ByteArray), .string (⟨#[]⟩ : ByteArray), .int .i64 0, .slice none 0 0]) rfl rfl ze94 rfl st ?_
    intro b242 W243 st
    refine WL.store (o := 0) (c' := [.string ((lg a0.listeners.l r219).name), .int .i64 ((lg a0.listeners.l r219).port), .bool ((lg a0.listeners.l r219).tls), .string ((lg a0.listeners.l r219).host), .int .i64 (((lg a0.listeners.l r219).cert).kind), .string (((lg a0.listeners.l r219).cert).space), .string (((lg a0.listeners.l r219).cert).name), .int .i64 ((lg a0.listeners.l r219).frm), ((lg a0.listeners.l r219).needs).v]) rfl rfl rfl rfl ty94 rfl (Enc.one (α := Listener) _) rfl rfl st ?_
    intro W244 st
    obtain ⟨H245, st, l246, f247⟩ := st.keepbox
    refine WL.nt ?_
    refine CW.regS (C := Cl w H245 [Own.box r8 (.cells #[.int .i64 r9, .string r10, .string r11, .bool a0.good, r12.v, (.slice v179A v179m v179c), .string r13, (.slice v221A v221m v221c), .slice none 0 0, .slice none 0 0, .slice none 0 0, r14.v, r15.v] 32 (0, 0)), Own.box b6 (.cells #[.int .i64 0, .string (⟨#[]⟩ : ByteArray), .string (⟨#[]⟩ : ByteArray), .bool false, .slice none 0 0, .slice none 0 0, .string (⟨#[]⟩ : ByteArray), .slice none 0 0, .slice none 0 0, .slice none 0 0, .slice none 0 0, .slice none 0 0, .slice none 0 0] 32 (0, 0))]) (tail := [24]) (S := Grew w H H245 [rowS (α := Listener) (.slice v221A v221m v221c) 94 r220, rowS (α := Int) (.slice v179A v179m v179c) 3 r178, Own.box r8 (.cells #[.int .i64 r9, .string r10, .string r11, .bool a0.good, r12.v, (.slice v179A v179m v179c), .string r13, (.slice v221A v221m v221c), .slice none 0 0, .slice none 0 0, .slice none 0 0, r14.v, r15.v] 32 (0, 0)), Own.box b6 (.cells #[.int .i64 0, .string (⟨#[]⟩ : ByteArray), .string (⟨#[]⟩ : ByteArray), .bool false, .slice none 0 0, .slice none 0 0, .string (⟨#[]⟩ : ByteArray), .slice none 0 0, .slice none 0 0, .slice none 0 0, .slice none 0 0, .slice none 0 0, .slice none 0 0] 32 (0, 0))]) mixed (fun W' h1 h2 h3 h4 => grew_start st h1 h2 h3 h4) (n := 25) rfl ?_
    refine WS.pk 0 rfl (good_grew (Le.refl _) (fun _ h => .tail _ (.tail _ (h)))) (fun W hC => Pu.fa rfl fo32_5) ?_
    refine WS.pk 1 rfl (good_grew (Le.refl _) (fun _ h => .tail _ (.tail _ (h)))) (fun W hC => Pu.load rfl ty26 ((AtW.block (hC.2 _ (.head _)).2).drop 7) rfl) ?_
    refine WS.pk 2 rfl (good_grew (Le.refl _) (fun _ h => .tail _ (.tail _ (h)))) (fun W hC => Pu.fa rfl fo94_0) ?_
    refine WS.pk 3 rfl (good_grew (Le.refl _) (fun _ h => .tail _ (.tail _ (h)))) (fun W hC => Pu.load rfl ty9 ((f247.drop 0).w hC.1) rfl) ?_
    refine WS.pk 5 rfl (good_grew (Le.refl _) (fun _ h => .tail _ (.tail _ (h)))) (fun W hC => Pu.fa rfl fo94_1) ?_
    refine WS.pk 6 rfl (good_grew (Le.refl _) (fun _ h => .tail _ (.tail _ (h)))) (fun W hC => Pu.load rfl ty3 ((f247.drop 1).w hC.1) rfl) ?_
    refine WS.pk 7 rfl (good_grew (Le.refl _) (fun _ h => .tail _ (.tail _ (h)))) (fun W hC => Pu.fa rfl fo94_2) ?_
    refine WS.pk 8 rfl (good_grew (Le.refl _) (fun _ h => .tail _ (.tail _ (h)))) (fun W hC => Pu.load rfl ty4 ((f247.drop 2).w hC.1) rfl) ?_
    refine WS.pk 9 rfl (good_grew (Le.refl _) (fun _ h => .tail _ (.tail _ (h)))) (fun W hC => Pu.fa rfl fo94_3) ?_
    refine WS.pk 10 rfl (good_grew (Le.refl _) (fun _ h => .tail _ (.tail _ (h)))) (fun W hC => Pu.load rfl ty9 ((f247.drop 3).w hC.1) rfl) ?_
    refine WS.pk 12 rfl (good_grew (Le.refl _) (fun _ h => .tail _ (.tail _ (h)))) (fun W hC => Pu.fa rfl fo94_4) ?_
    refine WS.pk 13 rfl (good_grew (Le.refl _) (fun _ h => .tail _ (.tail _ (h)))) (fun W hC => Pu.load (v := Ref.v ((lg a0.listeners.l r219).cert)) rfl ty23 ((f247.drop 4).w hC.1) rfl) ?_
    refine WS.pk 15 rfl (good_grew (Le.refl _) (fun _ h => .tail _ (.tail _ (h)))) (fun W hC => Pu.fa rfl fo94_5) ?_
    refine WS.pk 16 rfl (good_grew (Le.refl _) (fun _ h => .tail _ (.tail _ (h)))) (fun W hC => Pu.load rfl ty3 ((f247.drop 7).w hC.1) rfl) ?_
    refine WS.pk 17 rfl (good_grew (Le.refl _) (fun _ h => .tail _ (.tail _ (h)))) (fun W hC => Pu.fa rfl fo94_6) ?_
    refine WS.pk 18 rfl (good_grew (Le.refl _) (fun _ h => .tail _ (.tail _ (h)))) (fun W hC => Pu.load rfl ty92 ((f247.drop 8).w hC.1) rfl) ?_
    refine WS.one (i := 4) (by kernel_rfl) ?_
    refine WO.call 4 rfl rfl rfl (fun _ H' l => good_grew ((Le.refl _).trans l) (fun _ h => .tail _ (.tail _ (h)))) en16 rfl rfl (fun W H' hs' l => c16 ((lg a0.listeners.l r219).name) hs' k241.name) ?_
    rintro _ H248 l249 ⟨x250, rfl, k251⟩
    refine WS.one (i := 11) (by kernel_rfl) ?_
    refine WO.call 11 rfl rfl rfl (fun _ H' l => good_grew (l249.trans l) (fun _ h => .tail _ (.tail _ (h)))) en16 rfl rfl (fun W H' hs' l => c16 ((lg a0.listeners.l r219).host) hs' k241.host) ?_
    rintro _ H253 l254 ⟨x255, rfl, k256⟩
    refine WS.one (i := 14) (by kernel_rfl) ?_
    refine WO.call 14 rfl rfl rfl (fun _ H' l => good_grew ((l249.trans l254).trans l) (fun _ h => .tail _ (.tail _ (h)))) en15 rfl rfl (fun W H' hs' l => c15 ((lg a0.listeners.l r219).cert) hs' (k241.cert.le (((l246.trans l249).trans l254).trans l))) ?_
    rintro _ H258 l259 ⟨x260, rfl, k261⟩
    refine WS.one (i := 19) (by kernel_rfl) ?_
    refine WO.call 19 rfl rfl rfl (fun _ H' l => good_grew (((l249.trans l254).trans l259).trans l) (fun _ h => .tail _ (.tail _ (h)))) en75 rfl rfl (fun W H' hs' l => c75 ((lg a0.listeners.l r219).needs) hs' (k241.needs.le ((((l246.trans l249).trans l254).trans l259).trans l))) ?_
    rintro _ H263 l264 ⟨x265, rfl, k266⟩
    refine WS.pk 20 rfl (good_grew (((l249.trans l254).trans l259).trans l264) (fun _ h => .tail _ (.tail _ (h)))) (fun W hC => Pu.buildL (cs := Listener.c (⟨x250, (lg a0.listeners.l r219).port, (lg a0.listeners.l r219).tls, x255, x260, (lg a0.listeners.l r219).frm, x265⟩ : Listener)) st94 rfl rfl rfl) ?_
    refine WS.one (i := 21) (by kernel_rfl) ?_
    refine WO.lit (M := 1048576) ([(⟨x250, (lg a0.listeners.l r219).port, (lg a0.listeners.l r219).tls, x255, x260, (lg a0.listeners.l r219).frm, x265⟩ : Listener)] : List Listener) 21 rfl rfl rfl (fun _ H' l => good_grew ((((l249.trans l254).trans l259).trans l264).trans l) (fun _ h => .tail _ (.tail _ (h)))) ap26 rfl rfl rfl rfl rfl rfl rfl rfl rfl (by decide) (OkL.cons (show Listener.Ok _ _ (⟨x250, (lg a0.listeners.l r219).port, (lg a0.listeners.l r219).tls, x255, x260, (lg a0.listeners.l r219).frm, x265⟩ : Listener) from ⟨k251, k256, (k261.le l264), k266⟩) OkL.nil) ?_
    intro b268 H269 l270 k271
    refine WS.one (i := 22) (by kernel_rfl) ?_
    refine WO.appS (s2 := (⟨some ⟨b268, 0, none⟩, 1, ([(⟨x250, (lg a0.listeners.l r219).port, (lg a0.listeners.l r219).tls, x255, x260, (lg a0.listeners.l r219).frm, x265⟩ : Listener)] : List Listener)⟩ : Sl Listener)) 22 rfl rfl rfl (fun _ A m c H' l => good_grew (((((l249.trans l254).trans l259).trans l264).trans l270).trans l) (fun _ h => .tail _ (.tail _ (h)))) ap26 rfl rfl rfl rfl rfl k271 (by first|omega|simp<;>omega) (by first|omega|simp<;>omega) ?_
    intro A272 mm273 n274 H275 l276
    refine WS.pk 23 rfl (good_grew (((((l249.trans l254).trans l259).trans l264).trans l270).trans l276) (fun _ h => .tail _ (.tail _ (h)))) (fun W hC => Pu.fa rfl fo32_5) ?_
    refine WS.one (i := 24) (by kernel_rfl) ?_
    refine WO.front3 ?_
    refine WO.store (o := 7) (c' := [.int .i64 r9, .string r10, .string r11, .bool a0.good, r12.v, (.slice v179A v179m v179c), .string r13, (.slice A272 mm273 n274), .slice none 0 0, .slice none 0 0, .slice none 0 0, r14.v, r15.v]) 24 rfl rfl (tlT (by kernel_rfl)) rfl rfl rfl ty26 rfl (one1 rfl rfl) rfl rfl ?_
    intro H277 l278
    refine WS.fin (by kernel_rfl) (fun W281 H279 st l280 => ?_)
    refine QX.blkN (QX.thenN ?_)
    refine CW.reg (WL.mv rfl (WL.pv (Pu.iadd rfl rfl (c := r219 + 1) (w64 (by omega) (by omega))) (WL.as rfl ?_)))
    refine WL.nil (QX.round ⟨n222, r219 + 1, r220 ++ ([(⟨x250, (lg a0.listeners.l r219).port, (lg a0.listeners.l r219).tls, x255, x260, (lg a0.listeners.l r219).frm, x265⟩ : Listener)] : List Listener), (.slice A272 mm273 n274)⟩ ?_ (Nat.lt_succ_self _) (.cons rfl (.cons rfl (.cons rfl (.cons rfl (.nil _))))))
    replace st := st.front4
    replace st := st.front2
    replace st := st.front4
    replace st := st.front4
    exact ⟨⟨_, st, (((((((((l226.trans l246).trans l249).trans l254).trans l259).trans l264).trans l270).trans l276).trans l278).trans l280), (OkL.app (k232.le ((((((((l246.trans l249).trans l254).trans l259).trans l264).trans l270).trans l276).trans l278).trans l280)) (OkL.cons (show Listener.Ok _ _ (⟨x250, (lg a0.listeners.l r219).port, (lg a0.listeners.l r219).tls, x255, x260, (lg a0.listeners.l r219).frm, x265⟩ : Listener) from ⟨k251, k256, (k261.le ((((l264.trans l270).trans l276).trans l278).trans l280)), (k266.le (((l270.trans l276).trans l278).trans l280))⟩) OkL.nil)), (by first|omega|simp<;>omega)⟩, (by first|omega|simp<;>omega), (by first|omega|simp<;>omega), (by first|omega|simp<;>omega), (by first|omega|simp<;>omega)⟩
   ·refine CW.exit (QX.thenE (QX.thenE (QX.hit (QX.meets ⟨r220, (.slice v221A v221m v221c)⟩ ?_ (.cons rfl (.cons rfl (.cons rfl (.nil _))))))))
    exact ⟨_, st, l226, k232, (by first|omega|simp<;>omega)⟩
  ·obtain rfl : N234 = 0 := by omega
   refine WL.of (WL.of (WL.pv (Pu.pickF rfl rfl) (WL.nt ?_)))
   refine CW.condF rfl ?_
   refine CW.exit (QX.thenE (QX.thenE (QX.hit (QX.meets ⟨r220, (.slice v221A v221m v221c)⟩ ?_ (.cons rfl (.cons rfl (.cons rfl (.nil _))))))))
   exact ⟨_, st, l226, k232, (by first|omega|simp<;>omega)⟩
 rintro ⟨r223, v224⟩ W287 ⟨H285, st, l286, k289, g290⟩
 obtain ⟨v224A, v224m, v224c, rfl⟩ := row_form st (.head _)
 replace st : St w _ _ _ [rowS (α := Listener) (.slice v224A v224m v224c) 94 r223, rowS (α := Int) (.slice v179A v179m v179c) 3 r178, Own.box r8 (.cells #[.int .i64 r9, .string r10, .string r11, .bool a0.good, r12.v, (.slice v179A v179m v179c), .string r13, (.slice v224A v224m v224c), .slice none 0 0, .slice none 0 0, .slice none 0 0, r14.v, r15.v] 32 (0, 0)), Own.box b6 (.cells #[.int .i64 0, .string (⟨#[]⟩ : ByteArray), .string (⟨#[]⟩ : ByteArray), .bool false, .slice none 0 0, .slice none 0 0, .string (⟨#[]⟩ : ByteArray), .slice none 0 0, .slice none 0 0, .slice none 0 0, .slice none 0 0, .slice none 0 0, .slice none 0 0] 32 (0, 0))] := st
 replace k289 : OkL 1048576 H285 r223 := k289
 replace g290 : (r223.length : Int) ≤ (9) := g290
 show QX _ _ _ [(1, Value.pointer (some (⟨b1, 0, none⟩ : Addr))), (2, Value.pointer (some (⟨b6, 0, none⟩ : Addr))), (3, Value.pointer (some (⟨r8, 0, none⟩ : Addr)))] _
 refine QX.thenN (CW.seq (CW.seq (CW.reg (WL.as rfl (WL.nt ?_)))))
 replace st := st.rownilS (α := Parent) 99
 refine (CW.cuts (fun (s : (List Parent) × Value) W => (∃ H', St w W H H' [rowS (α := Parent) s.2 99 s.1, rowS (α := Listener) (.slice v224A v224m v224c) 94 r223, rowS (α := Int) (.slice v179A v179m v179c) 3 r178, Own.box r8 (.cells #[.int .i64 r9, .string r10, .string r11, .bool a0.good, r12.v, (.slice v179A v179m v179c), .string r13, (.slice v224A v224m v224c), s.2, .slice none 0 0, .slice none 0 0, r14.v, r15.v] 32 (0, 0)), Own.box b6 (.cells #[.int .i64 0, .string (⟨#[]⟩ : ByteArray), .string (⟨#[]⟩ : ByteArray), .bool false, .slice none 0 0, .slice none 0 0, .string (⟨#[]⟩ : ByteArray), .slice none 0 0, .slice none 0 0, .slice none 0 0, .slice none 0 0, .slice none 0 0, .slice none 0 0] 32 (0, 0))] ∧ Le H285 H' ∧ OkL 1048576 H' s.1 ∧ (s.1.length : Int) ≤ (5))) (fun (s : (List Parent) × Value) => [(1, Value.pointer (some (⟨b1, 0, none⟩ : Addr))), (2, Value.pointer (some (⟨b6, 0, none⟩ : Addr))), (3, Value.pointer (some (⟨r8, 0, none⟩ : Addr)))]) ?_ ?_)
 ·refine CW.blk (CW.loop (fun (s : Nat × Int × (List Parent) × Value) W => (∃ H', St w W H H' [rowS (α := Parent) s.2.2.2 99 s.2.2.1, rowS (α := Listener) (.slice v224A v224m v224c) 94 r223, rowS (α := Int) (.slice v179A v179m v179c) 3 r178, Own.box r8 (.cells #[.int .i64 r9, .string r10, .string r11, .bool a0.good, r12.v, (.slice v179A v179m v179c), .string r13, (.slice v224A v224m v224c), s.2.2.2, .slice none 0 0, .slice none 0 0, r14.v, r15.v] 32 (0, 0)), Own.box b6 (.cells #[.int .i64 0, .string (⟨#[]⟩ : ByteArray), .string (⟨#[]⟩ : ByteArray), .bool false, .slice none 0 0, .slice none 0 0, .string (⟨#[]⟩ : ByteArray), .slice none 0 0, .slice none 0 0, .slice none 0 0, .slice none 0 0, .slice none 0 0, .slice none 0 0] 32 (0, 0))] ∧ Le H285 H' ∧ OkL 1048576 H' s.2.2.1 ∧ (s.2.2.1.length : Int) ≤ s.2.1) ∧ 0 ≤ s.2.1 ∧ s.2.1 ≤ (a0.parents.l.length : Int) ∧ s.2.1 ≤ 5 ∧ s.1 = ((a0.parents.l.length : Int) - s.2.1).toNat) (fun (s : Nat × Int × (List Parent) × Value) => [(1, Value.pointer (some (⟨b1, 0, none⟩ : Addr))), (2, Value.pointer (some (⟨b6, 0, none⟩ : Addr))), (3, Value.pointer (some (⟨r8, 0, none⟩ : Addr))), (7, Value.int .i64 s.2.1)]) (fun s => s.1) ⟨((a0.parents.l.length : Int) - 0).toNat, 0, ([] : List Parent), (.slice none 0 0)⟩ ⟨⟨_, st, Le.refl _, OkL.nil, (by first|omega|simp<;>omega)⟩, (by first|omega|simp<;>omega), (by first|omega|simp<;>omega), (by first|omega|simp<;>omega), rfl⟩ (.cons rfl (.cons rfl (.cons rfl (.cons rfl (.nil _))))) ?_)
  rintro ⟨N306, r291, r292, v293⟩ W299 ⟨⟨H297, st, l298, k304, g305⟩, g349, g350, g351, g303⟩
  replace g349 : 0 ≤ r291 := g349
  replace g350 : r291 ≤ (a0.parents.l.length : Int) := g350
  replace g351 : r291 ≤ 5 := g351
  replace g303 : N306 = ((a0.parents.l.length : Int) - r291).toNat := g303
  obtain ⟨v293A, v293m, v293c, rfl⟩ := row_form st (.head _)
  replace st : St w _ _ _ [rowS (α := Parent) (.slice v293A v293m v293c) 99 r292, rowS (α := Listener) (.slice v224A v224m v224c) 94 r223, rowS (α := Int) (.slice v179A v179m v179c) 3 r178, Own.box r8 (.cells #[.int .i64 r9, .string r10, .string r11, .bool a0.good, r12.v, (.slice v179A v179m v179c), .string r13, (.slice v224A v224m v224c), (.slice v293A v293m v293c), .slice none 0 0, .slice none 0 0, r14.v, r15.v] 32 (0, 0)), Own.box b6 (.cells #[.int .i64 0, .string (⟨#[]⟩ : ByteArray), .string (⟨#[]⟩ : ByteArray), .bool false, .slice none 0 0, .slice none 0 0, .string (⟨#[]⟩ : ByteArray), .slice none 0 0, .slice none 0 0, .slice none 0 0, .slice none 0 0, .slice none 0 0, .slice none 0 0] 32 (0, 0))] := st
  replace k304 : OkL 1048576 H297 r292 := k304
  replace g305 : (r292.length : Int) ≤ r291 := g305
  show CW _ _ _ _ [(1, Value.pointer (some (⟨b1, 0, none⟩ : Addr))), (2, Value.pointer (some (⟨b6, 0, none⟩ : Addr))), (3, Value.pointer (some (⟨r8, 0, none⟩ : Addr))), (7, Value.int .i64 r291)] _
  refine CW.seq (CW.seq (CW.reg (WL.mv rfl (WL.pv (Pu.fa rfl fo32_6) (WL.pv (Pu.load rfl ty27 (((f5.le (((l165.trans l215).trans l286).trans l298)).drop 8).w st.sub) rfl) ?_)))))
  have z307 : a0.parents.l.length ≤ 140737488355329 := (k0p.parents.le ((((l4.trans l165).trans l215).trans l286).trans l298)).top
  refine WL.pv (Pu.lens (n := a0.parents.l.length) rfl sl27) (WL.pv (Pu.ilt rfl rfl) (WL.mv rfl ?_))
  refine WL.splitP 99 rfl dT dF (fun h308 => ?_) (fun h308 => ?_)
  ·obtain ⟨n294, rfl⟩ : ∃ k, N306 = k + 1 := ⟨N306 - 1, by omega⟩
   refine WL.mv rfl (WL.pv (Pu.ilt rfl rfl) (WL.pv (Pu.pickT rfl rfl) (WL.nt ?_)))
   refine CW.condP 102 rfl dT dF (fun h309 => ?_) (fun h309 => ?_)
   ·refine CW.skip (QX.thenN ?_)
    refine CW.seq ?_
    refine CW.blk ?_
    refine CW.seq (CW.reg (WL.pv (Pu.fa rfl fo32_6) (WL.pv (Pu.load rfl ty27 (((f5.le (((l165.trans l215).trans l286).trans l298)).drop 8).w st.sub) rfl) (WL.mv rfl ?_))))
    have y310 := lg_get (l := a0.parents.l) (i := r291) (by omega) (by omega)
    have k313 : Parent.Ok 140737488355329 H297 (lg a0.parents.l r291) := ((k0p.parents.le ((((l4.trans l165).trans l215).trans l286).trans l298)).get _ _ y310).2
    refine WL.idx (s := a0.parents) rfl rfl rfl rfl sl27 (k0p.parents.le ((((l4.trans l165).trans l215).trans l286).trans l298)) (by omega) y310 ?_
    intro ad311 f312
    refine WL.pv (Pu.load (v := Parent.v (lg a0.parents.l r291)) rfl ty99 (f312.w st.sub) rfl) ?_
    refine WL.alloco (c := #[.string (⟨#[]⟩ : ByteArray), .string (⟨#[]⟩ : ByteArray), .string (⟨#[]⟩ : ByteArray), .int .i64 0]) rfl rfl ze99 rfl st ?_
    intro b314 W315 st
    refine WL.store (o := 0) (c' := [.string ((lg a0.parents.l r291).space), .string ((lg a0.parents.l r291).name), .string ((lg a0.parents.l r291).sect), .int .i64 ((lg a0.parents.l r291).port)]) rfl rfl rfl rfl ty99 rfl (Enc.one (α := Parent) _) rfl rfl st ?_
    intro W316 st
    obtain ⟨H317, st, l318, f319⟩ := st.keepbox
    refine WL.nt ?_
    refine CW.regS (C := Cl w H317 [Own.box r8 (.cells #[.int .i64 r9, .string r10, .string r11, .bool a0.good, r12.v, (.slice v179A v179m v179c), .string r13, (.slice v224A v224m v224c), (.slice v293A v293m v293c), .slice none 0 0, .slice none 0 0, r14.v, r15.v] 32 (0, 0)), Own.box b6 (.cells #[.int .i64 0, .string (⟨#[]⟩ : ByteArray), .string (⟨#[]⟩ : ByteArray), .bool false, .slice none 0 0, .slice none 0 0, .string (⟨#[]⟩ : ByteArray), .slice none 0 0, .slice none 0 0, .slice none 0 0, .slice none 0 0, .slice none 0 0, .slice none 0 0] 32 (0, 0))]) (tail := [17]) (S := Grew w H H317 [rowS (α := Parent) (.slice v293A v293m v293c) 99 r292, rowS (α := Listener) (.slice v224A v224m v224c) 94 r223, rowS (α := Int) (.slice v179A v179m v179c) 3 r178, Own.box r8 (.cells #[.int .i64 r9, .string r10, .string r11, .bool a0.good, r12.v, (.slice v179A v179m v179c), .string r13, (.slice v224A v224m v224c), (.slice v293A v293m v293c), .slice none 0 0, .slice none 0 0, r14.v, r15.v] 32 (0, 0)), Own.box b6 (.cells #[.int .i64 0, .string (⟨#[]⟩ : ByteArray), .string (⟨#[]⟩ : ByteArray), .bool false, .slice none 0 0, .slice none 0 0, .string (⟨#[]⟩ : ByteArray), .slice none 0 0, .slice none 0 0, .slice none 0 0, .slice none 0 0, .slice none 0 0, .slice none 0 0] 32 (0, 0))]) mixed (fun W' h1 h2 h3 h4 => grew_start st h1 h2 h3 h4) (n := 18) rfl ?_
    refine WS.pk 0 rfl (good_grew (Le.refl _) (fun _ h => .tail _ (.tail _ (.tail _ (h))))) (fun W hC => Pu.fa rfl fo32_6) ?_
    refine WS.pk 1 rfl (good_grew (Le.refl _) (fun _ h => .tail _ (.tail _ (.tail _ (h))))) (fun W hC => Pu.load rfl ty27 ((AtW.block (hC.2 _ (.head _)).2).drop 8) rfl) ?_
    refine WS.pk 2 rfl (good_grew (Le.refl _) (fun _ h => .tail _ (.tail _ (.tail _ (h))))) (fun W hC => Pu.fa rfl fo99_0) ?_
    refine WS.pk 3 rfl (good_grew (Le.refl _) (fun _ h => .tail _ (.tail _ (.tail _ (h))))) (fun W hC => Pu.load rfl ty9 ((f319.drop 0).w hC.1) rfl) ?_
    refine WS.pk 5 rfl (good_grew (Le.refl _) (fun _ h => .tail _ (.tail _ (.tail _ (h))))) (fun W hC => Pu.fa rfl fo99_1) ?_
    refine WS.pk 6 rfl (good_grew (Le.refl _) (fun _ h => .tail _ (.tail _ (.tail _ (h))))) (fun W hC => Pu.load rfl ty9 ((f319.drop 1).w hC.1) rfl) ?_
    refine WS.pk 8 rfl (good_grew (Le.refl _) (fun _ h => .tail _ (.tail _ (.tail _ (h))))) (fun W hC => Pu.fa rfl fo99_2) ?_
    refine WS.pk 9 rfl (good_grew (Le.refl _) (fun _ h => .tail _ (.tail _ (.tail _ (h))))) (fun W hC => Pu.load rfl ty9 ((f319.drop 2).w hC.1) rfl) ?_
    refine WS.pk 11 rfl (good_grew (Le.refl _) (fun _ h => .tail _ (.tail _ (.tail _ (h))))) (fun W hC => Pu.fa rfl fo99_3) ?_
    refine WS.pk 12 rfl (good_grew (Le.refl _) (fun _ h => .tail _ (.tail _ (.tail _ (h))))) (fun W hC => Pu.load rfl ty3 ((f319.drop 3).w hC.1) rfl) ?_
    refine WS.one (i := 4) (by kernel_rfl) ?_
    refine WO.call 4 rfl rfl rfl (fun _ H' l => good_grew ((Le.refl _).trans l) (fun _ h => .tail _ (.tail _ (.tail _ (h))))) en16 rfl rfl (fun W H' hs' l => c16 ((lg a0.parents.l r291).space) hs' k313.space) ?_
    rintro _ H320 l321 ⟨x322, rfl, k323⟩
    refine WS.one (i := 7) (by kernel_rfl) ?_
    refine WO.call 7 rfl rfl rfl (fun _ H' l => good_grew (l321.trans l) (fun _ h => .tail _ (.tail _ (.tail _ (h))))) en16 rfl rfl (fun W H' hs' l => c16 ((lg a0.parents.l r291).name) hs' k313.name) ?_
    rintro _ H325 l326 ⟨x327, rfl, k328⟩
    refine WS.one (i := 10) (by kernel_rfl) ?_
    refine WO.call 10 rfl rfl rfl (fun _ H' l => good_grew ((l321.trans l326).trans l) (fun _ h => .tail _ (.tail _ (.tail _ (h))))) en16 rfl rfl (fun W H' hs' l => c16 ((lg a0.parents.l r291).sect) hs' k313.sect) ?_
    rintro _ H330 l331 ⟨x332, rfl, k333⟩
    refine WS.pk 13 rfl (good_grew ((l321.trans l326).trans l331) (fun _ h => .tail _ (.tail _ (.tail _ (h))))) (fun W hC => Pu.buildL (cs := Parent.c (⟨x322, x327, x332, (lg a0.parents.l r291).port⟩ : Parent)) st99 rfl rfl rfl) ?_
    refine WS.one (i := 14) (by kernel_rfl) ?_
    refine WO.lit (M := 1048576) ([(⟨x322, x327, x332, (lg a0.parents.l r291).port⟩ : Parent)] : List Parent) 14 rfl rfl rfl (fun _ H' l => good_grew (((l321.trans l326).trans l331).trans l) (fun _ h => .tail _ (.tail _ (.tail _ (h))))) ap27 rfl rfl rfl rfl rfl rfl rfl rfl rfl (by decide) (OkL.cons (show Parent.Ok _ _ (⟨x322, x327, x332, (lg a0.parents.l r291).port⟩ : Parent) from ⟨k323, k328, k333⟩) OkL.nil) ?_
    intro b335 H336 l337 k338
    refine WS.one (i := 15) (by kernel_rfl) ?_
    refine WO.appS (s2 := (⟨some ⟨b335, 0, none⟩, 1, ([(⟨x322, x327, x332, (lg a0.parents.l r291).port⟩ : Parent)] : List Parent)⟩ : Sl Parent)) 15 rfl rfl rfl (fun _ A m c H' l => good_grew ((((l321.trans l326).trans l331).trans l337).trans l) (fun _ h => .tail _ (.tail _ (.tail _ (h))))) ap27 rfl rfl rfl rfl rfl k338 (by first|omega|simp<;>omega) (by first|omega|simp<;>omega) ?_
    intro A339 mm340 n341 H342 l343
    refine WS.pk 16 rfl (good_grew ((((l321.trans l326).trans l331).trans l337).trans l343) (fun _ h => .tail _ (.tail _ (.tail _ (h))))) (fun W hC => Pu.fa rfl fo32_6) ?_
    refine WS.one (i := 17) (by kernel_rfl) ?_
    refine WO.front4 ?_
    refine WO.store (o := 8) (c' := [.int .i64 r9, .string r10, .string r11, .bool a0.good, r12.v, (.slice v179A v179m v179c), .string r13, (.slice v224A v224m v224c), (.slice A339 mm340 n341), .slice none 0 0, .slice none 0 0, r14.v, r15.v]) 17 rfl rfl (tlT (by kernel_rfl)) rfl rfl rfl ty27 rfl (one1 rfl rfl) rfl rfl ?_
    intro H344 l345
    refine WS.fin (by kernel_rfl) (fun W348 H346 st l347 => ?_)
    refine QX.blkN (QX.thenN ?_)
    refine CW.reg (WL.mv rfl (WL.pv (Pu.iadd rfl rfl (c := r291 + 1) (w64 (by omega) (by omega))) (WL.as rfl ?_)))
    refine WL.nil (QX.round ⟨n294, r291 + 1, r292 ++ ([(⟨x322, x327, x332, (lg a0.parents.l r291).port⟩ : Parent)] : List Parent), (.slice A339 mm340 n341)⟩ ?_ (Nat.lt_succ_self _) (.cons rfl (.cons rfl (.cons rfl (.cons rfl (.nil _))))))
    replace st := st.front5
    replace st := st.front2
    replace st := st.front5
    replace st := st.front5
    replace st := st.front5
    exact ⟨⟨_, st, ((((((((l298.trans l318).trans l321).trans l326).trans l331).trans l337).trans l343).trans l345).trans l347), (OkL.app (k304.le (((((((l318.trans l321).trans l326).trans l331).trans l337).trans l343).trans l345).trans l347)) (OkL.cons (show Parent.Ok _ _ (⟨x322, x327, x332, (lg a0.parents.l r291).port⟩ : Parent) from ⟨k323, k328, k333⟩) OkL.nil)), (by first|omega|simp<;>omega)⟩, (by first|omega|simp<;>omega), (by first|omega|simp<;>omega), (by first|omega|simp<;>omega), (by first|omega|simp<;>omega)⟩
   ·refine CW.exit (QX.thenE (QX.thenE (QX.hit (QX.meets ⟨r292, (.slice v293A v293m v293c)⟩ ?_ (.cons rfl (.cons rfl (.cons rfl (.nil _))))))))
    exact ⟨_, st, l298, k304, (by first|omega|simp<;>omega)⟩
  ·obtain rfl : N306 = 0 := by omega
   refine WL.of (WL.of (WL.pv (Pu.pickF rfl rfl) (WL.nt ?_)))
   refine CW.condF rfl ?_
   refine CW.exit (QX.thenE (QX.thenE (QX.hit (QX.meets ⟨r292, (.slice v293A v293m v293c)⟩ ?_ (.cons rfl (.cons rfl (.cons rfl (.nil _))))))))
   exact ⟨_, st, l298, k304, (by first|omega|simp<;>omega)⟩
 rintro ⟨r295, v296⟩ W354 ⟨H352, st, l353, k356, g357⟩
 obtain ⟨v296A, v296m, v296c, rfl⟩ := row_form st (.head _)
 replace st : St w _ _ _ [rowS (α := Parent) (.slice v296A v296m v296c) 99 r295, rowS (α := Listener) (.slice v224A v224m v224c) 94 r223, rowS (α := Int) (.slice v179A v179m v179c) 3 r178, Own.box r8 (.cells #[.int .i64 r9, .string r10, .string r11, .bool a0.good, r12.v, (.slice v179A v179m v179c), .string r13, (.slice v224A v224m v224c), (.slice v296A v296m v296c), .slice none 0 0, .slice none 0 0, r14.v, r15.v] 32 (0, 0)), Own.box b6 (.cells #[.int .i64 0, .string (⟨#[]⟩ : ByteArray), .string (⟨#[]⟩ : ByteArray), .bool false, .slice none 0 0, .slice none 0 0, .string (⟨#[]⟩ : ByteArray), .slice none 0 0, .slice none 0 0, .slice none 0 0, .slice none 0 0, .slice none 0 0, .slice none 0 0] 32 (0, 0))] := st
 replace k356 : OkL 1048576 H352 r295 := k356
 replace g357 : (r295.length : Int) ≤ (5) := g357
 show QX _ _ _ [(1, Value.pointer (some (⟨b1, 0, none⟩ : Addr))), (2, Value.pointer (some (⟨b6, 0, none⟩ : Addr))), (3, Value.pointer (some (⟨r8, 0, none⟩ : Addr)))] _
 refine QX.thenN (CW.seq (CW.seq (CW.reg (WL.as rfl (WL.nt ?_)))))
 replace st := st.rownilS (α := ByteArray) 9
 refine (CW.cuts (fun (s : (List ByteArray) × Value) W => (∃ H', St w W H H' [rowS (α := ByteArray) s.2 9 s.1, rowS (α := Parent) (.slice v296A v296m v296c) 99 r295, rowS (α := Listener) (.slice v224A v224m v224c) 94 r223, rowS (α := Int) (.slice v179A v179m v179c) 3 r178, Own.box r8 (.cells #[.int .i64 r9, .string r10, .string r11, .bool a0.good, r12.v, (.slice v179A v179m v179c), .string r13, (.slice v224A v224m v224c), (.slice v296A v296m v296c), s.2, .slice none 0 0, r14.v, r15.v] 32 (0, 0)), Own.box b6 (.cells #[.int .i64 0, .string (⟨#[]⟩ : ByteArray), .string (⟨#[]⟩ : ByteArray), .bool false, .slice none 0 0, .slice none 0 0, .string (⟨#[]⟩ : ByteArray), .slice none 0 0, .slice none 0 0, .slice none 0 0, .slice none 0 0, .slice none 0 0, .slice none 0 0] 32 (0, 0))] ∧ Le H352 H' ∧ OkL 1048576 H' s.1 ∧ (s.1.length : Int) ≤ (5))) (fun (s : (List ByteArray) × Value) => [(1, Value.pointer (some (⟨b1, 0, none⟩ : Addr))), (2, Value.pointer (some (⟨b6, 0, none⟩ : Addr))), (3, Value.pointer (some (⟨r8, 0, none⟩ : Addr)))]) ?_ ?_)
 ·refine CW.blk (CW.loop (fun (s : Nat × Int × (List ByteArray) × Value) W => (∃ H', St w W H H' [rowS (α := ByteArray) s.2.2.2 9 s.2.2.1, rowS (α := Parent) (.slice v296A v296m v296c) 99 r295, rowS (α := Listener) (.slice v224A v224m v224c) 94 r223, rowS (α := Int) (.slice v179A v179m v179c) 3 r178, Own.box r8 (.cells #[.int .i64 r9, .string r10, .string r11, .bool a0.good, r12.v, (.slice v179A v179m v179c), .string r13, (.slice v224A v224m v224c), (.slice v296A v296m v296c), s.2.2.2, .slice none 0 0, r14.v, r15.v] 32 (0, 0)), Own.box b6 (.cells #[.int .i64 0, .string (⟨#[]⟩ : ByteArray), .string (⟨#[]⟩ : ByteArray), .bool false, .slice none 0 0, .slice none 0 0, .string (⟨#[]⟩ : ByteArray), .slice none 0 0, .slice none 0 0, .slice none 0 0, .slice none 0 0, .slice none 0 0, .slice none 0 0] 32 (0, 0))] ∧ Le H352 H' ∧ OkL 1048576 H' s.2.2.1 ∧ (s.2.2.1.length : Int) ≤ s.2.1) ∧ 0 ≤ s.2.1 ∧ s.2.1 ≤ (a0.hosts.l.length : Int) ∧ s.2.1 ≤ 5 ∧ s.1 = ((a0.hosts.l.length : Int) - s.2.1).toNat) (fun (s : Nat × Int × (List ByteArray) × Value) => [(1, Value.pointer (some (⟨b1, 0, none⟩ : Addr))), (2, Value.pointer (some (⟨b6, 0, none⟩ : Addr))), (3, Value.pointer (some (⟨r8, 0, none⟩ : Addr))), (9, Value.int .i64 s.2.1)]) (fun s => s.1) ⟨((a0.hosts.l.length : Int) - 0).toNat, 0, ([] : List ByteArray), (.slice none 0 0)⟩ ⟨⟨_, st, Le.refl _, OkL.nil, (by first|omega|simp<;>omega)⟩, (by first|omega|simp<;>omega), (by first|omega|simp<;>omega), (by first|omega|simp<;>omega), rfl⟩ (.cons rfl (.cons rfl (.cons rfl (.cons rfl (.nil _))))) ?_)
  rintro ⟨N373, r358, r359, v360⟩ W366 ⟨⟨H364, st, l365, k371, g372⟩, g401, g402, g403, g370⟩
  replace g401 : 0 ≤ r358 := g401
  replace g402 : r358 ≤ (a0.hosts.l.length : Int) := g402
  replace g403 : r358 ≤ 5 := g403
  replace g370 : N373 = ((a0.hosts.l.length : Int) - r358).toNat := g370
  obtain ⟨v360A, v360m, v360c, rfl⟩ := row_form st (.head _)
  replace st : St w _ _ _ [rowS (α := ByteArray) (.slice v360A v360m v360c) 9 r359, rowS (α := Parent) (.slice v296A v296m v296c) 99 r295, rowS (α := Listener) (.slice v224A v224m v224c) 94 r223, rowS (α := Int) (.slice v179A v179m v179c) 3 r178, Own.box r8 (.cells #[.int .i64 r9, .string r10, .string r11, .bool a0.good, r12.v, (.slice v179A v179m v179c), .string r13, (.slice v224A v224m v224c), (.slice v296A v296m v296c), (.slice v360A v360m v360c), .slice none 0 0, r14.v, r15.v] 32 (0, 0)), Own.box b6 (.cells #[.int .i64 0, .string (⟨#[]⟩ : ByteArray), .string (⟨#[]⟩ : ByteArray), .bool false, .slice none 0 0, .slice none 0 0, .string (⟨#[]⟩ : ByteArray), .slice none 0 0, .slice none 0 0, .slice none 0 0, .slice none 0 0, .slice none 0 0, .slice none 0 0] 32 (0, 0))] := st
  replace k371 : OkL 1048576 H364 r359 := k371
  replace g372 : (r359.length : Int) ≤ r358 := g372
  show CW _ _ _ _ [(1, Value.pointer (some (⟨b1, 0, none⟩ : Addr))), (2, Value.pointer (some (⟨b6, 0, none⟩ : Addr))), (3, Value.pointer (some (⟨r8, 0, none⟩ : Addr))), (9, Value.int .i64 r358)] _
  refine CW.seq (CW.seq (CW.reg (WL.mv rfl (WL.pv (Pu.fa rfl fo32_7) (WL.pv (Pu.load rfl ty28 (((f5.le ((((l165.trans l215).trans l286).trans l353).trans l365)).drop 9).w st.sub) rfl) ?_)))))
  have z374 : a0.hosts.l.length ≤ 140737488355329 := (k0p.hosts.le (((((l4.trans l165).trans l215).trans l286).trans l353).trans l365)).top
  refine WL.pv (Pu.lens (n := a0.hosts.l.length) rfl sl28) (WL.pv (Pu.ilt rfl rfl) (WL.mv rfl ?_))
  refine WL.splitP 132 rfl dT dF (fun h375 => ?_) (fun h375 => ?_)
  ·obtain ⟨n361, rfl⟩ : ∃ k, N373 = k + 1 := ⟨N373 - 1, by omega⟩
   refine WL.mv rfl (WL.pv (Pu.ilt rfl rfl) (WL.pv (Pu.pickT rfl rfl) (WL.nt ?_)))
   refine CW.condP 135 rfl dT dF (fun h376 => ?_) (fun h376 => ?_)
   ·refine CW.skip (QX.thenN ?_)
    refine CW.seq ?_
    refine CW.blk ?_
    refine CW.regS (C := Cl w H364 [Own.box r8 (.cells #[.int .i64 r9, .string r10, .string r11, .bool a0.good, r12.v, (.slice v179A v179m v179c), .string r13, (.slice v224A v224m v224c), (.slice v296A v296m v296c), (.slice v360A v360m v360c), .slice none 0 0, r14.v, r15.v] 32 (0, 0)), Own.box b6 (.cells #[.int .i64 0, .string (⟨#[]⟩ : ByteArray), .string (⟨#[]⟩ : ByteArray), .bool false, .slice none 0 0, .slice none 0 0, .string (⟨#[]⟩ : ByteArray), .slice none 0 0, .slice none 0 0, .slice none 0 0, .slice none 0 0, .slice none 0 0, .slice none 0 0] 32 (0, 0))]) (tail := [11]) (S := Grew w H H364 [rowS (α := ByteArray) (.slice v360A v360m v360c) 9 r359, rowS (α := Parent) (.slice v296A v296m v296c) 99 r295, rowS (α := Listener) (.slice v224A v224m v224c) 94 r223, rowS (α := Int) (.slice v179A v179m v179c) 3 r178, Own.box r8 (.cells #[.int .i64 r9, .string r10, .string r11, .bool a0.good, r12.v, (.slice v179A v179m v179c), .string r13, (.slice v224A v224m v224c), (.slice v296A v296m v296c), (.slice v360A v360m v360c), .slice none 0 0, r14.v, r15.v] 32 (0, 0)), Own.box b6 (.cells #[.int .i64 0, .string (⟨#[]⟩ : ByteArray), .string (⟨#[]⟩ : ByteArray), .bool false, .slice none 0 0, .slice none 0 0, .string (⟨#[]⟩ : ByteArray), .slice none 0 0, .slice none 0 0, .slice none 0 0, .slice none 0 0, .slice none 0 0, .slice none 0 0] 32 (0, 0))]) mixed (fun W' h1 h2 h3 h4 => grew_start st h1 h2 h3 h4) (n := 12) rfl ?_
    refine WS.pk 0 rfl (good_grew (Le.refl _) (fun _ h => .tail _ (.tail _ (.tail _ (.tail _ (h)))))) (fun W hC => Pu.fa rfl fo32_7) ?_
    refine WS.pk 1 rfl (good_grew (Le.refl _) (fun _ h => .tail _ (.tail _ (.tail _ (.tail _ (h)))))) (fun W hC => Pu.load rfl ty28 ((AtW.block (hC.2 _ (.head _)).2).drop 9) rfl) ?_
    refine WS.pk 2 rfl (good_grew (Le.refl _) (fun _ h => .tail _ (.tail _ (.tail _ (.tail _ (h)))))) (fun W hC => Pu.fa rfl fo32_7) ?_
    refine WS.pk 3 rfl (good_grew (Le.refl _) (fun _ h => .tail _ (.tail _ (.tail _ (.tail _ (h)))))) (fun W hC => Pu.load rfl ty28 (((f5.le ((((l165.trans l215).trans l286).trans l353).trans l365)).drop 9).w hC.1) rfl) ?_
    refine WS.pk 4 rfl (good_grew (Le.refl _) (fun _ h => .tail _ (.tail _ (.tail _ (.tail _ (h)))))) (fun W hC => Pu.move rfl) ?_
    have y377 := lg_get (l := a0.hosts.l) (i := r358) (by omega) (by omega)
    have k380 : (lg a0.hosts.l r358).size < 140737488355329 := ((k0p.hosts.le (((((l4.trans l165).trans l215).trans l286).trans l353).trans l365)).get _ _ y377).2
    obtain ⟨ad378, qa381, f379⟩ := ((k0p.hosts.le (((((l4.trans l165).trans l215).trans l286).trans l353).trans l365)).get _ _ y377).1
    refine WS.pk 5 rfl (good_grew (Le.refl _) (fun _ h => .tail _ (.tail _ (.tail _ (.tail _ (h)))))) (fun W hC => Pu.idx0 rfl rfl sl28 (by first|omega|simp<;>omega) (by first|omega|simp<;>omega) qa381) ?_
    refine WS.pk 6 rfl (good_grew (Le.refl _) (fun _ h => .tail _ (.tail _ (.tail _ (.tail _ (h)))))) (fun W hC => Pu.load rfl ty9 (f379.w hC.1) rfl) ?_
    refine WS.one (i := 7) (by kernel_rfl) ?_
    refine WO.call 7 rfl rfl rfl (fun _ H' l => good_grew ((Le.refl _).trans l) (fun _ h => .tail _ (.tail _ (.tail _ (.tail _ (h)))))) en16 rfl rfl (fun W H' hs' l => c16 (lg a0.hosts.l r358) hs' k380) ?_
    rintro _ H382 l383 ⟨x384, rfl, k385⟩
    refine WS.one (i := 8) (by kernel_rfl) ?_
    refine WO.lit (M := 1048576) ([x384] : List ByteArray) 8 rfl rfl rfl (fun _ H' l => good_grew (l383.trans l) (fun _ h => .tail _ (.tail _ (.tail _ (.tail _ (h)))))) ap28 rfl rfl rfl rfl rfl rfl rfl rfl rfl (by decide) (OkL.cons (okS k385) OkL.nil) ?_
    intro b387 H388 l389 k390
    refine WS.one (i := 9) (by kernel_rfl) ?_
    refine WO.appS (s2 := (⟨some ⟨b387, 0, none⟩, 1, ([x384] : List ByteArray)⟩ : Sl ByteArray)) 9 rfl rfl rfl (fun _ A m c H' l => good_grew ((l383.trans l389).trans l) (fun _ h => .tail _ (.tail _ (.tail _ (.tail _ (h)))))) ap28 rfl rfl rfl rfl rfl k390 (by first|omega|simp<;>omega) (by first|omega|simp<;>omega) ?_
    intro A391 mm392 n393 H394 l395
    refine WS.pk 10 rfl (good_grew ((l383.trans l389).trans l395) (fun _ h => .tail _ (.tail _ (.tail _ (.tail _ (h)))))) (fun W hC => Pu.fa rfl fo32_7) ?_
    refine WS.one (i := 11) (by kernel_rfl) ?_
    refine WO.front5 ?_
    refine WO.store (o := 9) (c' := [.int .i64 r9, .string r10, .string r11, .bool a0.good, r12.v, (.slice v179A v179m v179c), .string r13, (.slice v224A v224m v224c), (.slice v296A v296m v296c), (.slice A391 mm392 n393), .slice none 0 0, r14.v, r15.v]) 11 rfl rfl (tlT (by kernel_rfl)) rfl rfl rfl ty28 rfl (one1 rfl rfl) rfl rfl ?_
    intro H396 l397
    refine WS.fin (by kernel_rfl) (fun W400 H398 st l399 => ?_)
    refine QX.blkN (QX.thenN ?_)
    refine CW.reg (WL.mv rfl (WL.pv (Pu.iadd rfl rfl (c := r358 + 1) (w64 (by omega) (by omega))) (WL.as rfl ?_)))
    refine WL.nil (QX.round ⟨n361, r358 + 1, r359 ++ ([x384] : List ByteArray), (.slice A391 mm392 n393)⟩ ?_ (Nat.lt_succ_self _) (.cons rfl (.cons rfl (.cons rfl (.cons rfl (.nil _))))))
    replace st := st.front6
    replace st := st.front2
    replace st := st.front6
    replace st := st.front6
    replace st := st.front6
    replace st := st.front6
    exact ⟨⟨_, st, (((((l365.trans l383).trans l389).trans l395).trans l397).trans l399), (OkL.app (k371.le ((((l383.trans l389).trans l395).trans l397).trans l399)) (OkL.cons (okS k385) OkL.nil)), (by first|omega|simp<;>omega)⟩, (by first|omega|simp<;>omega), (by first|omega|simp<;>omega), (by first|omega|simp<;>omega), (by first|omega|simp<;>omega)⟩
   ·refine CW.exit (QX.thenE (QX.thenE (QX.hit (QX.meets ⟨r359, (.slice v360A v360m v360c)⟩ ?_ (.cons rfl (.cons rfl (.cons rfl (.nil _))))))))
    exact ⟨_, st, l365, k371, (by first|omega|simp<;>omega)⟩
  ·obtain rfl : N373 = 0 := by omega
   refine WL.of (WL.of (WL.pv (Pu.pickF rfl rfl) (WL.nt ?_)))
   refine CW.condF rfl ?_
   refine CW.exit (QX.thenE (QX.thenE (QX.hit (QX.meets ⟨r359, (.slice v360A v360m v360c)⟩ ?_ (.cons rfl (.cons rfl (.cons rfl (.nil _))))))))
   exact ⟨_, st, l365, k371, (by first|omega|simp<;>omega)⟩
 rintro ⟨r362, v363⟩ W406 ⟨H404, st, l405, k408, g409⟩
 obtain ⟨v363A, v363m, v363c, rfl⟩ := row_form st (.head _)
 replace st : St w _ _ _ [rowS (α := ByteArray) (.slice v363A v363m v363c) 9 r362, rowS (α := Parent) (.slice v296A v296m v296c) 99 r295, rowS (α := Listener) (.slice v224A v224m v224c) 94 r223, rowS (α := Int) (.slice v179A v179m v179c) 3 r178, Own.box r8 (.cells #[.int .i64 r9, .string r10, .string r11, .bool a0.good, r12.v, (.slice v179A v179m v179c), .string r13, (.slice v224A v224m v224c), (.slice v296A v296m v296c), (.slice v363A v363m v363c), .slice none 0 0, r14.v, r15.v] 32 (0, 0)), Own.box b6 (.cells #[.int .i64 0, .string (⟨#[]⟩ : ByteArray), .string (⟨#[]⟩ : ByteArray), .bool false, .slice none 0 0, .slice none 0 0, .string (⟨#[]⟩ : ByteArray), .slice none 0 0, .slice none 0 0, .slice none 0 0, .slice none 0 0, .slice none 0 0, .slice none 0 0] 32 (0, 0))] := st
 replace k408 : OkL 1048576 H404 r362 := k408
 replace g409 : (r362.length : Int) ≤ (5) := g409
 show QX _ _ _ [(1, Value.pointer (some (⟨b1, 0, none⟩ : Addr))), (2, Value.pointer (some (⟨b6, 0, none⟩ : Addr))), (3, Value.pointer (some (⟨r8, 0, none⟩ : Addr)))] _
 refine QX.thenN (CW.seq (CW.seq (CW.reg (WL.as rfl (WL.nt ?_)))))
 replace st := st.rownilS (α := Rule) 66
 refine (CW.cuts (fun (s : (List Rule) × Value) W => (∃ H', St w W H H' [rowS (α := Rule) s.2 66 s.1, rowS (α := ByteArray) (.slice v363A v363m v363c) 9 r362, rowS (α := Parent) (.slice v296A v296m v296c) 99 r295, rowS (α := Listener) (.slice v224A v224m v224c) 94 r223, rowS (α := Int) (.slice v179A v179m v179c) 3 r178, Own.box r8 (.cells #[.int .i64 r9, .string r10, .string r11, .bool a0.good, r12.v, (.slice v179A v179m v179c), .string r13, (.slice v224A v224m v224c), (.slice v296A v296m v296c), (.slice v363A v363m v363c), s.2, r14.v, r15.v] 32 (0, 0)), Own.box b6 (.cells #[.int .i64 0, .string (⟨#[]⟩ : ByteArray), .string (⟨#[]⟩ : ByteArray), .bool false, .slice none 0 0, .slice none 0 0, .string (⟨#[]⟩ : ByteArray), .slice none 0 0, .slice none 0 0, .slice none 0 0, .slice none 0 0, .slice none 0 0, .slice none 0 0] 32 (0, 0))] ∧ Le H404 H' ∧ OkL 1048576 H' s.1 ∧ (s.1.length : Int) ≤ (7))) (fun (s : (List Rule) × Value) => [(2, Value.pointer (some (⟨b6, 0, none⟩ : Addr))), (3, Value.pointer (some (⟨r8, 0, none⟩ : Addr)))]) ?_ ?_)
 ·refine CW.blk (CW.loop (fun (s : Nat × Int × (List Rule) × Value) W => (∃ H', St w W H H' [rowS (α := Rule) s.2.2.2 66 s.2.2.1, rowS (α := ByteArray) (.slice v363A v363m v363c) 9 r362, rowS (α := Parent) (.slice v296A v296m v296c) 99 r295, rowS (α := Listener) (.slice v224A v224m v224c) 94 r223, rowS (α := Int) (.slice v179A v179m v179c) 3 r178, Own.box r8 (.cells #[.int .i64 r9, .string r10, .string r11, .bool a0.good, r12.v, (.slice v179A v179m v179c), .string r13, (.slice v224A v224m v224c), (.slice v296A v296m v296c), (.slice v363A v363m v363c), s.2.2.2, r14.v, r15.v] 32 (0, 0)), Own.box b6 (.cells #[.int .i64 0, .string (⟨#[]⟩ : ByteArray), .string (⟨#[]⟩ : ByteArray), .bool false, .slice none 0 0, .slice none 0 0, .string (⟨#[]⟩ : ByteArray), .slice none 0 0, .slice none 0 0, .slice none 0 0, .slice none 0 0, .slice none 0 0, .slice none 0 0] 32 (0, 0))] ∧ Le H404 H' ∧ OkL 1048576 H' s.2.2.1 ∧ (s.2.2.1.length : Int) ≤ s.2.1) ∧ 0 ≤ s.2.1 ∧ s.2.1 ≤ (a0.rules.l.length : Int) ∧ s.2.1 ≤ 7 ∧ s.1 = ((a0.rules.l.length : Int) - s.2.1).toNat) (fun (s : Nat × Int × (List Rule) × Value) => [(1, Value.pointer (some (⟨b1, 0, none⟩ : Addr))), (2, Value.pointer (some (⟨b6, 0, none⟩ : Addr))), (3, Value.pointer (some (⟨r8, 0, none⟩ : Addr))), (10, Value.int .i64 s.2.1)]) (fun s => s.1) ⟨((a0.rules.l.length : Int) - 0).toNat, 0, ([] : List Rule), (.slice none 0 0)⟩ ⟨⟨_, st, Le.refl _, OkL.nil, (by first|omega|simp<;>omega)⟩, (by first|omega|simp<;>omega), (by first|omega|simp<;>omega), (by first|omega|simp<;>omega), rfl⟩ (.cons rfl (.cons rfl (.cons rfl (.cons rfl (.nil _))))) ?_)
  rintro ⟨N425, r410, r411, v412⟩ W418 ⟨⟨H416, st, l417, k423, g424⟩, g584, g585, g586, g422⟩
  replace g584 : 0 ≤ r410 := g584
  replace g585 : r410 ≤ (a0.rules.l.length : Int) := g585
  replace g586 : r410 ≤ 7 := g586
  replace g422 : N425 = ((a0.rules.l.length : Int) - r410).toNat := g422
  obtain ⟨v412A, v412m, v412c, rfl⟩ := row_form st (.head _)
  replace st : St w _ _ _ [rowS (α := Rule) (.slice v412A v412m v412c) 66 r411, rowS (α := ByteArray) (.slice v363A v363m v363c) 9 r362, rowS (α := Parent) (.slice v296A v296m v296c) 99 r295, rowS (α := Listener) (.slice v224A v224m v224c) 94 r223, rowS (α := Int) (.slice v179A v179m v179c) 3 r178, Own.box r8 (.cells #[.int .i64 r9, .string r10, .string r11, .bool a0.good, r12.v, (.slice v179A v179m v179c), .string r13, (.slice v224A v224m v224c), (.slice v296A v296m v296c), (.slice v363A v363m v363c), (.slice v412A v412m v412c), r14.v, r15.v] 32 (0, 0)), Own.box b6 (.cells #[.int .i64 0, .string (⟨#[]⟩ : ByteArray), .string (⟨#[]⟩ : ByteArray), .bool false, .slice none 0 0, .slice none 0 0, .string (⟨#[]⟩ : ByteArray), .slice none 0 0, .slice none 0 0, .slice none 0 0, .slice none 0 0, .slice none 0 0, .slice none 0 0] 32 (0, 0))] := st
  replace k423 : OkL 1048576 H416 r411 := k423
  replace g424 : (r411.length : Int) ≤ r410 := g424
  show CW _ _ _ _ [(1, Value.pointer (some (⟨b1, 0, none⟩ : Addr))), (2, Value.pointer (some (⟨b6, 0, none⟩ : Addr))), (3, Value.pointer (some (⟨r8, 0, none⟩ : Addr))), (10, Value.int .i64 r410)] _
  refine CW.seq (CW.seq (CW.reg (WL.mv rfl (WL.pv (Pu.fa rfl fo32_8) (WL.pv (Pu.load rfl ty29 (((f5.le (((((l165.trans l215).trans l286).trans l353).trans l405).trans l417)).drop 10).w st.sub) rfl) ?_)))))
  have z426 : a0.rules.l.length ≤ 140737488355329 := (k0p.rules.le ((((((l4.trans l165).trans l215).trans l286).trans l353).trans l405).trans l417)).top
  refine WL.pv (Pu.lens (n := a0.rules.l.length) rfl sl29) (WL.pv (Pu.ilt rfl rfl) (WL.mv rfl ?_))
  refine WL.splitP 154 rfl dT dF (fun h427 => ?_) (fun h427 => ?_)
  ·obtain ⟨n413, rfl⟩ : ∃ k, N425 = k + 1 := ⟨N425 - 1, by omega⟩
   refine WL.mv rfl (WL.pv (Pu.ilt rfl rfl) (WL.pv (Pu.pickT rfl rfl) (WL.nt ?_)))
   refine CW.condP 157 rfl dT dF (fun h428 => ?_) (fun h428 => ?_)
   ·refine CW.skip (QX.thenN ?_)
    refine CW.seq ?_
    refine CW.blk ?_
    refine CW.seq (CW.reg (WL.pv (Pu.fa rfl fo32_8) (WL.pv (Pu.load rfl ty29 (((f5.le (((((l165.trans l215).trans l286).trans l353).trans l405).trans l417)).drop 10).w st.sub) rfl) (WL.mv rfl ?_))))
    have y429 := lg_get (l := a0.rules.l) (i := r410) (by omega) (by omega)
    have k432 : Rule.Ok 140737488355329 H416 (lg a0.rules.l r410) := ((k0p.rules.le ((((((l4.trans l165).trans l215).trans l286).trans l353).trans l405).trans l417)).get _ _ y429).2
    refine WL.idx (s := a0.rules) rfl rfl rfl rfl sl29 (k0p.rules.le ((((((l4.trans l165).trans l215).trans l286).trans l353).trans l405).trans l417)) (by omega) y429 ?_
    intro ad430 f431
    refine WL.pv (Pu.fa rfl fo66_1) (WL.pv (Pu.load rfl ty63 ((f431.drop 1).w st.sub) rfl) ?_)
    refine WL.call rfl rfl en76 rfl rfl st (c76 ((lg a0.rules.l r410).filters) st.sub k432.filters) ?_
    rintro _ W433 H434 st l435 ⟨x436, rfl, k437⟩
    refine WL.pv (Pu.buildL (cs := Rule.c (⟨(Sl.nil : Sl Match), x436, (Sl.nil : Sl Backend)⟩ : Rule)) st66 rfl rfl rfl) ?_
    refine WL.alloco (c := #[.slice none 0 0, .slice none 0 0, .slice none 0 0]) rfl rfl ze66 rfl st ?_
    intro b439 W440 st
    refine WL.store (o := 0) (c' := [.slice none 0 0, x436.v, .slice none 0 0]) rfl rfl rfl rfl ty66 rfl (Enc.one (α := Rule) _) rfl rfl st ?_
    intro W441 st
    refine WL.nt (CW.seq (CW.seq (CW.reg (WL.as rfl (WL.nt ?_)))))
    replace st := st.rownilS (α := Match) 124
    refine (CW.cuts (fun (s : (List Match) × Value) W => (∃ H', St w W H H' [rowS (α := Match) s.2 124 s.1, Own.box b439 (.cells #[s.2, x436.v, .slice none 0 0] 66 (0, 0)), rowS (α := Rule) (.slice v412A v412m v412c) 66 r411, rowS (α := ByteArray) (.slice v363A v363m v363c) 9 r362, rowS (α := Parent) (.slice v296A v296m v296c) 99 r295, rowS (α := Listener) (.slice v224A v224m v224c) 94 r223, rowS (α := Int) (.slice v179A v179m v179c) 3 r178, Own.box r8 (.cells #[.int .i64 r9, .string r10, .string r11, .bool a0.good, r12.v, (.slice v179A v179m v179c), .string r13, (.slice v224A v224m v224c), (.slice v296A v296m v296c), (.slice v363A v363m v363c), (.slice v412A v412m v412c), r14.v, r15.v] 32 (0, 0)), Own.box b6 (.cells #[.int .i64 0, .string (⟨#[]⟩ : ByteArray), .string (⟨#[]⟩ : ByteArray), .bool false, .slice none 0 0, .slice none 0 0, .string (⟨#[]⟩ : ByteArray), .slice none 0 0, .slice none 0 0, .slice none 0 0, .slice none 0 0, .slice none 0 0, .slice none 0 0] 32 (0, 0))] ∧ Le H434 H' ∧ OkL 1048576 H' s.1 ∧ (s.1.length : Int) ≤ (5))) (fun (s : (List Match) × Value) => [(1, Value.pointer (some (⟨b1, 0, none⟩ : Addr))), (2, Value.pointer (some (⟨b6, 0, none⟩ : Addr))), (3, Value.pointer (some (⟨r8, 0, none⟩ : Addr))), (10, Value.int .i64 r410), (11, Value.pointer (some (⟨b439, 0, none⟩ : Addr))), (155, Value.int .i64 r410), (156, Value.bool (decide (r410 < 7)))]) ?_ ?_)
    ·refine CW.blk (CW.loop (fun (s : Nat × Int × (List Match) × Value) W => (∃ H', St w W H H' [rowS (α := Match) s.2.2.2 124 s.2.2.1, Own.box b439 (.cells #[s.2.2.2, x436.v, .slice none 0 0] 66 (0, 0)), rowS (α := Rule) (.slice v412A v412m v412c) 66 r411, rowS (α := ByteArray) (.slice v363A v363m v363c) 9 r362, rowS (α := Parent) (.slice v296A v296m v296c) 99 r295, rowS (α := Listener) (.slice v224A v224m v224c) 94 r223, rowS (α := Int) (.slice v179A v179m v179c) 3 r178, Own.box r8 (.cells #[.int .i64 r9, .string r10, .string r11, .bool a0.good, r12.v, (.slice v179A v179m v179c), .string r13, (.slice v224A v224m v224c), (.slice v296A v296m v296c), (.slice v363A v363m v363c), (.slice v412A v412m v412c), r14.v, r15.v] 32 (0, 0)), Own.box b6 (.cells #[.int .i64 0, .string (⟨#[]⟩ : ByteArray), .string (⟨#[]⟩ : ByteArray), .bool false, .slice none 0 0, .slice none 0 0, .string (⟨#[]⟩ : ByteArray), .slice none 0 0, .slice none 0 0, .slice none 0 0, .slice none 0 0, .slice none 0 0, .slice none 0 0] 32 (0, 0))] ∧ Le H434 H' ∧ OkL 1048576 H' s.2.2.1 ∧ (s.2.2.1.length : Int) ≤ s.2.1) ∧ 0 ≤ s.2.1 ∧ s.2.1 ≤ ((((lg a0.rules.l r410).mats).l).length : Int) ∧ s.2.1 ≤ 5 ∧ s.1 = (((((lg a0.rules.l r410).mats).l).length : Int) - s.2.1).toNat) (fun (s : Nat × Int × (List Match) × Value) => [(1, Value.pointer (some (⟨b1, 0, none⟩ : Addr))), (2, Value.pointer (some (⟨b6, 0, none⟩ : Addr))), (3, Value.pointer (some (⟨r8, 0, none⟩ : Addr))), (10, Value.int .i64 r410), (11, Value.pointer (some (⟨b439, 0, none⟩ : Addr))), (155, Value.int .i64 r410), (156, Value.bool (decide (r410 < 7))), (12, Value.int .i64 s.2.1)]) (fun s => s.1) ⟨(((((lg a0.rules.l r410).mats).l).length : Int) - 0).toNat, 0, ([] : List Match), (.slice none 0 0)⟩ ⟨⟨_, st, Le.refl _, OkL.nil, (by first|omega|simp<;>omega)⟩, (by first|omega|simp<;>omega), (by first|omega|simp<;>omega), (by first|omega|simp<;>omega), rfl⟩ (.cons rfl (.cons rfl (.cons rfl (.cons rfl (.cons rfl (.cons rfl (.cons rfl (.cons rfl (.nil _))))))))) ?_)
     rintro ⟨N457, r442, r443, v444⟩ W450 ⟨⟨H448, st, l449, k455, g456⟩, g494, g495, g496, g454⟩
     replace g494 : 0 ≤ r442 := g494
     replace g495 : r442 ≤ ((((lg a0.rules.l r410).mats).l).length : Int) := g495
     replace g496 : r442 ≤ 5 := g496
     replace g454 : N457 = (((((lg a0.rules.l r410).mats).l).length : Int) - r442).toNat := g454
     obtain ⟨v444A, v444m, v444c, rfl⟩ := row_form st (.head _)
     replace st : St w _ _ _ [rowS (α := Match) (.slice v444A v444m v444c) 124 r443, Own.box b439 (.cells #[(.slice v444A v444m v444c), x436.v, .slice none 0 0] 66 (0, 0)), rowS (α := Rule) (.slice v412A v412m v412c) 66 r411, rowS (α := ByteArray) (.slice v363A v363m v363c) 9 r362, rowS (α := Parent) (.slice v296A v296m v296c) 99 r295, rowS (α := Listener) (.slice v224A v224m v224c) 94 r223, rowS (α := Int) (.slice v179A v179m v179c) 3 r178, Own.box r8 (.cells #[.int .i64 r9, .string r10, .string r11, .bool a0.good, r12.v, (.slice v179A v179m v179c), .string r13, (.slice v224A v224m v224c), (.slice v296A v296m v296c), (.slice v363A v363m v363c), (.slice v412A v412m v412c), r14.v, r15.v] 32 (0, 0)), Own.box b6 (.cells #[.int .i64 0, .string (⟨#[]⟩ : ByteArray), .string (⟨#[]⟩ : ByteArray), .bool false, .slice none 0 0, .slice none 0 0, .string (⟨#[]⟩ : ByteArray), .slice none 0 0, .slice none 0 0, .slice none 0 0, .slice none 0 0, .slice none 0 0, .slice none 0 0] 32 (0, 0))] := st
     replace k455 : OkL 1048576 H448 r443 := k455
     replace g456 : (r443.length : Int) ≤ r442 := g456
     show CW _ _ _ _ [(1, Value.pointer (some (⟨b1, 0, none⟩ : Addr))), (2, Value.pointer (some (⟨b6, 0, none⟩ : Addr))), (3, Value.pointer (some (⟨r8, 0, none⟩ : Addr))), (10, Value.int .i64 r410), (11, Value.pointer (some (⟨b439, 0, none⟩ : Addr))), (155, Value.int .i64 r410), (156, Value.bool (decide (r410 < 7))), (12, Value.int .i64 r442)] _
     refine CW.seq (CW.seq (CW.reg (WL.mv rfl (WL.pv (Pu.fa rfl fo32_8) (WL.pv (Pu.load rfl ty29 (((f5.le (((((((l165.trans l215).trans l286).trans l353).trans l405).trans l417).trans l435).trans l449)).drop 10).w st.sub) rfl) (WL.mv rfl ?_))))))
     have y458 := lg_get (l := a0.rules.l) (i := r410) (by omega) (by omega)
     have k461 : Rule.Ok 140737488355329 H448 (lg a0.rules.l r410) := ((k0p.rules.le ((((((((l4.trans l165).trans l215).trans l286).trans l353).trans l405).trans l417).trans l435).trans l449)).get _ _ y458).2
     refine WL.idx (s := a0.rules) rfl rfl rfl rfl sl29 (k0p.rules.le ((((((((l4.trans l165).trans l215).trans l286).trans l353).trans l405).trans l417).trans l435).trans l449)) (by omega) y458 ?_
     intro ad459 f460
     refine WL.pv (Pu.fa rfl fo66_0) (WL.pv (Pu.load rfl ty62 ((f460.drop 0).w st.sub) rfl) ?_)
     have z462 : (((lg a0.rules.l r410).mats).l).length ≤ 140737488355329 := k461.mats.top
     refine WL.pv (Pu.lens (n := (((lg a0.rules.l r410).mats).l).length) rfl sl62) (WL.pv (Pu.ilt rfl rfl) (WL.mv rfl ?_))
     refine WL.splitP 177 rfl dT dF (fun h463 => ?_) (fun h463 => ?_)
     ·obtain ⟨n445, rfl⟩ : ∃ k, N457 = k + 1 := ⟨N457 - 1, by omega⟩
      refine WL.mv rfl (WL.pv (Pu.ilt rfl rfl) (WL.pv (Pu.pickT rfl rfl) (WL.nt ?_)))
      refine CW.condP 180 rfl dT dF (fun h464 => ?_) (fun h464 => ?_)
      ·refine CW.skip (QX.thenN ?_)
       refine CW.seq ?_
       refine CW.blk ?_
       refine CW.regS (C := Cl w H448 [Own.box b439 (.cells #[(.slice v444A v444m v444c), x436.v, .slice none 0 0] 66 (0, 0)), Own.box r8 (.cells #[.int .i64 r9, .string r10, .string r11, .bool a0.good, r12.v, (.slice v179A v179m v179c), .string r13, (.slice v224A v224m v224c), (.slice v296A v296m v296c), (.slice v363A v363m v363c), (.slice v412A v412m v412c), r14.v, r15.v] 32 (0, 0)), Own.box b6 (.cells #[.int .i64 0, .string (⟨#[]⟩ : ByteArray), .string (⟨#[]⟩ : ByteArray), .bool false, .slice none 0 0, .slice none 0 0, .string (⟨#[]⟩ : ByteArray), .slice none 0 0, .slice none 0 0, .slice none 0 0, .slice none 0 0, .slice none 0 0, .slice none 0 0] 32 (0, 0))]) (tail := [15]) (S := Grew w H H448 [rowS (α := Match) (.slice v444A v444m v444c) 124 r443, Own.box b439 (.cells #[(.slice v444A v444m v444c), x436.v, .slice none 0 0] 66 (0, 0)), rowS (α := Rule) (.slice v412A v412m v412c) 66 r411, rowS (α := ByteArray) (.slice v363A v363m v363c) 9 r362, rowS (α := Parent) (.slice v296A v296m v296c) 99 r295, rowS (α := Listener) (.slice v224A v224m v224c) 94 r223, rowS (α := Int) (.slice v179A v179m v179c) 3 r178, Own.box r8 (.cells #[.int .i64 r9, .string r10, .string r11, .bool a0.good, r12.v, (.slice v179A v179m v179c), .string r13, (.slice v224A v224m v224c), (.slice v296A v296m v296c), (.slice v363A v363m v363c), (.slice v412A v412m v412c), r14.v, r15.v] 32 (0, 0)), Own.box b6 (.cells #[.int .i64 0, .string (⟨#[]⟩ : ByteArray), .string (⟨#[]⟩ : ByteArray), .bool false, .slice none 0 0, .slice none 0 0, .string (⟨#[]⟩ : ByteArray), .slice none 0 0, .slice none 0 0, .slice none 0 0, .slice none 0 0, .slice none 0 0, .slice none 0 0] 32 (0, 0))]) mixed (fun W' h1 h2 h3 h4 => grew_start st h1 h2 h3 h4) (n := 16) rfl ?_
       refine WS.pk 0 rfl (good_grew (Le.refl _) ((subC (.tail _ (.head _)) (subC (.tail _ (.tail _ (.tail _ (.tail _ (.tail _ (.tail _ (.tail _ (.head _)))))))) (subC (.tail _ (.tail _ (.tail _ (.tail _ (.tail _ (.tail _ (.tail _ (.tail _ (.head _))))))))) subN))))) (fun W hC => Pu.fa rfl fo66_0) ?_
       refine WS.pk 1 rfl (good_grew (Le.refl _) ((subC (.tail _ (.head _)) (subC (.tail _ (.tail _ (.tail _ (.tail _ (.tail _ (.tail _ (.tail _ (.head _)))))))) (subC (.tail _ (.tail _ (.tail _ (.tail _ (.tail _ (.tail _ (.tail _ (.tail _ (.head _))))))))) subN))))) (fun W hC => Pu.load rfl ty62 (AtW.block (hC.2 _ (.head _)).2) rfl) ?_
       refine WS.pk 2 rfl (good_grew (Le.refl _) ((subC (.tail _ (.head _)) (subC (.tail _ (.tail _ (.tail _ (.tail _ (.tail _ (.tail _ (.tail _ (.head _)))))))) (subC (.tail _ (.tail _ (.tail _ (.tail _ (.tail _ (.tail _ (.tail _ (.tail _ (.head _))))))))) subN))))) (fun W hC => Pu.fa rfl fo32_8) ?_
       refine WS.pk 3 rfl (good_grew (Le.refl _) ((subC (.tail _ (.head _)) (subC (.tail _ (.tail _ (.tail _ (.tail _ (.tail _ (.tail _ (.tail _ (.head _)))))))) (subC (.tail _ (.tail _ (.tail _ (.tail _ (.tail _ (.tail _ (.tail _ (.tail _ (.head _))))))))) subN))))) (fun W hC => Pu.load rfl ty29 (((f5.le (((((((l165.trans l215).trans l286).trans l353).trans l405).trans l417).trans l435).trans l449)).drop 10).w hC.1) rfl) ?_
       refine WS.pk 4 rfl (good_grew (Le.refl _) ((subC (.tail _ (.head _)) (subC (.tail _ (.tail _ (.tail _ (.tail _ (.tail _ (.tail _ (.tail _ (.head _)))))))) (subC (.tail _ (.tail _ (.tail _ (.tail _ (.tail _ (.tail _ (.tail _ (.tail _ (.head _))))))))) subN))))) (fun W hC => Pu.move rfl) ?_
       have y465 := lg_get (l := a0.rules.l) (i := r410) (by omega) (by omega)
       have k468 : Rule.Ok 140737488355329 H448 (lg a0.rules.l r410) := ((k0p.rules.le ((((((((l4.trans l165).trans l215).trans l286).trans l353).trans l405).trans l417).trans l435).trans l449)).get _ _ y465).2
       obtain ⟨ad466, qa469, f467⟩ := ((k0p.rules.le ((((((((l4.trans l165).trans l215).trans l286).trans l353).trans l405).trans l417).trans l435).trans l449)).get _ _ y465).1
       refine WS.pk 5 rfl (good_grew (Le.refl _) ((subC (.tail _ (.head _)) (subC (.tail _ (.tail _ (.tail _ (.tail _ (.tail _ (.tail _ (.tail _ (.head _)))))))) (subC (.tail _ (.tail _ (.tail _ (.tail _ (.tail _ (.tail _ (.tail _ (.tail _ (.head _))))))))) subN))))) (fun W hC => Pu.idx0 rfl rfl sl29 (by first|omega|simp<;>omega) (by first|omega|simp<;>omega) qa469) ?_
       refine WS.pk 6 rfl (good_grew (Le.refl _) ((subC (.tail _ (.head _)) (subC (.tail _ (.tail _ (.tail _ (.tail _ (.tail _ (.tail _ (.tail _ (.head _)))))))) (subC (.tail _ (.tail _ (.tail _ (.tail _ (.tail _ (.tail _ (.tail _ (.tail _ (.head _))))))))) subN))))) (fun W hC => Pu.fa rfl fo66_0) ?_
       refine WS.pk 7 rfl (good_grew (Le.refl _) ((subC (.tail _ (.head _)) (subC (.tail _ (.tail _ (.tail _ (.tail _ (.tail _ (.tail _ (.tail _ (.head _)))))))) (subC (.tail _ (.tail _ (.tail _ (.tail _ (.tail _ (.tail _ (.tail _ (.tail _ (.head _))))))))) subN))))) (fun W hC => Pu.load rfl ty62 ((f467.drop 0).w hC.1) rfl) ?_
       refine WS.pk 8 rfl (good_grew (Le.refl _) ((subC (.tail _ (.head _)) (subC (.tail _ (.tail _ (.tail _ (.tail _ (.tail _ (.tail _ (.tail _ (.head _)))))))) (subC (.tail _ (.tail _ (.tail _ (.tail _ (.tail _ (.tail _ (.tail _ (.tail _ (.head _))))))))) subN))))) (fun W hC => Pu.move rfl) ?_
       have y470 := lg_get (l := ((lg a0.rules.l r410).mats).l) (i := r442) (by omega) (by omega)
       have k473 : Match.Ok 140737488355329 H448 (lg (((lg a0.rules.l r410).mats).l) r442) := (k468.mats.get _ _ y470).2
       obtain ⟨ad471, qa474, f472⟩ := (k468.mats.get _ _ y470).1
       refine WS.pk 9 rfl (good_grew (Le.refl _) ((subC (.tail _ (.head _)) (subC (.tail _ (.tail _ (.tail _ (.tail _ (.tail _ (.tail _ (.tail _ (.head _)))))))) (subC (.tail _ (.tail _ (.tail _ (.tail _ (.tail _ (.tail _ (.tail _ (.tail _ (.head _))))))))) subN))))) (fun W hC => Pu.idx0 rfl rfl sl62 (by first|omega|simp<;>omega) (by first|omega|simp<;>omega) qa474) ?_
       refine WS.pk 10 rfl (good_grew (Le.refl _) ((subC (.tail _ (.head _)) (subC (.tail _ (.tail _ (.tail _ (.tail _ (.tail _ (.tail _ (.tail _ (.head _)))))))) (subC (.tail _ (.tail _ (.tail _ (.tail _ (.tail _ (.tail _ (.tail _ (.tail _ (.head _))))))))) subN))))) (fun W hC => Pu.load (v := Match.v (lg (((lg a0.rules.l r410).mats).l) r442)) rfl ty124 (f472.w hC.1) rfl) ?_
       refine WS.one (i := 11) (by kernel_rfl) ?_
       refine WO.call 11 rfl rfl rfl (fun _ H' l => good_grew ((Le.refl _).trans l) ((subC (.tail _ (.head _)) (subC (.tail _ (.tail _ (.tail _ (.tail _ (.tail _ (.tail _ (.tail _ (.head _)))))))) (subC (.tail _ (.tail _ (.tail _ (.tail _ (.tail _ (.tail _ (.tail _ (.tail _ (.head _))))))))) subN))))) en77 rfl rfl (fun W H' hs' l => c77 (lg (((lg a0.rules.l r410).mats).l) r442) hs' (k473.le l)) ?_
       rintro _ H475 l476 ⟨x477, rfl, k478⟩
       refine WS.one (i := 12) (by kernel_rfl) ?_
       refine WO.lit (M := 1048576) ([x477] : List Match) 12 rfl rfl rfl (fun _ H' l => good_grew (l476.trans l) ((subC (.tail _ (.head _)) (subC (.tail _ (.tail _ (.tail _ (.tail _ (.tail _ (.tail _ (.tail _ (.head _)))))))) (subC (.tail _ (.tail _ (.tail _ (.tail _ (.tail _ (.tail _ (.tail _ (.tail _ (.head _))))))))) subN))))) ap62 rfl rfl rfl rfl rfl rfl rfl rfl rfl (by decide) (OkL.cons k478 OkL.nil) ?_
       intro b480 H481 l482 k483
       refine WS.one (i := 13) (by kernel_rfl) ?_
       refine WO.appS (s2 := (⟨some ⟨b480, 0, none⟩, 1, ([x477] : List Match)⟩ : Sl Match)) 13 rfl rfl rfl (fun _ A m c H' l => good_grew ((l476.trans l482).trans l) ((subC (.tail _ (.head _)) (subC (.tail _ (.tail _ (.tail _ (.tail _ (.tail _ (.tail _ (.tail _ (.head _)))))))) (subC (.tail _ (.tail _ (.tail _ (.tail _ (.tail _ (.tail _ (.tail _ (.tail _ (.head _))))))))) subN))))) ap62 rfl rfl rfl rfl rfl k483 (by first|omega|simp<;>omega) (by first|omega|simp<;>omega) ?_
       intro A484 mm485 n486 H487 l488
       refine WS.pk 14 rfl (good_grew ((l476.trans l482).trans l488) ((subC (.tail _ (.head _)) (subC (.tail _ (.tail _ (.tail _ (.tail _ (.tail _ (.tail _ (.tail _ (.head _)))))))) (subC (.tail _ (.tail _ (.tail _ (.tail _ (.tail _ (.tail _ (.tail _ (.tail _ (.head _))))))))) subN))))) (fun W hC => Pu.fa rfl fo66_0) ?_
       refine WS.one (i := 15) (by kernel_rfl) ?_
       refine WO.front2 ?_
       refine WO.store (o := 0) (c' := [(.slice A484 mm485 n486), x436.v, .slice none 0 0]) 15 rfl rfl (tlT (by kernel_rfl)) rfl rfl rfl ty62 rfl (one1 rfl rfl) rfl rfl ?_
       intro H489 l490
       refine WS.fin (by kernel_rfl) (fun W493 H491 st l492 => ?_)
       refine QX.blkN (QX.thenN ?_)
       refine CW.reg (WL.mv rfl (WL.pv (Pu.iadd rfl rfl (c := r442 + 1) (w64 (by omega) (by omega))) (WL.as rfl ?_)))
       refine WL.nil (QX.round ⟨n445, r442 + 1, r443 ++ ([x477] : List Match), (.slice A484 mm485 n486)⟩ ?_ (Nat.lt_succ_self _) (.cons rfl (.cons rfl (.cons rfl (.cons rfl (.cons rfl (.cons rfl (.cons rfl (.cons rfl (.nil _))))))))))
       replace st := st.front9
       replace st := st.front9
       replace st := st.front9
       replace st := st.front9
       replace st := st.front9
       replace st := st.front9
       replace st := st.front9
       replace st := st.front8
       replace st := st.front9
       exact ⟨⟨_, st, (((((l449.trans l476).trans l482).trans l488).trans l490).trans l492), (OkL.app (k455.le ((((l476.trans l482).trans l488).trans l490).trans l492)) (OkL.cons (k478.le (((l482.trans l488).trans l490).trans l492)) OkL.nil)), (by first|omega|simp<;>omega)⟩, (by first|omega|simp<;>omega), (by first|omega|simp<;>omega), (by first|omega|simp<;>omega), (by first|omega|simp<;>omega)⟩
      ·refine CW.exit (QX.thenE (QX.thenE (QX.hit (QX.meets ⟨r443, (.slice v444A v444m v444c)⟩ ?_ (.cons rfl (.cons rfl (.cons rfl (.cons rfl (.cons rfl (.cons rfl (.cons rfl (.nil _))))))))))))
       exact ⟨_, st, l449, k455, (by first|omega|simp<;>omega)⟩
     ·obtain rfl : N457 = 0 := by omega
      refine WL.of (WL.of (WL.pv (Pu.pickF rfl rfl) (WL.nt ?_)))
      refine CW.condF rfl ?_
      refine CW.exit (QX.thenE (QX.thenE (QX.hit (QX.meets ⟨r443, (.slice v444A v444m v444c)⟩ ?_ (.cons rfl (.cons rfl (.cons rfl (.cons rfl (.cons rfl (.cons rfl (.cons rfl (.nil _))))))))))))
      exact ⟨_, st, l449, k455, (by first|omega|simp<;>omega)⟩
    rintro ⟨r446, v447⟩ W499 ⟨H497, st, l498, k501, g502⟩
    obtain ⟨v447A, v447m, v447c, rfl⟩ := row_form st (.head _)
    replace st : St w _ _ _ [rowS (α := Match) (.slice v447A v447m v447c) 124 r446, Own.box b439 (.cells #[(.slice v447A v447m v447c), x436.v, .slice none 0 0] 66 (0, 0)), rowS (α := Rule) (.slice v412A v412m v412c) 66 r411, rowS (α := ByteArray) (.slice v363A v363m v363c) 9 r362, rowS (α := Parent) (.slice v296A v296m v296c) 99 r295, rowS (α := Listener) (.slice v224A v224m v224c) 94 r223, rowS (α := Int) (.slice v179A v179m v179c) 3 r178, Own.box r8 (.cells #[.int .i64 r9, .string r10, .string r11, .bool a0.good, r12.v, (.slice v179A v179m v179c), .string r13, (.slice v224A v224m v224c), (.slice v296A v296m v296c), (.slice v363A v363m v363c), (.slice v412A v412m v412c), r14.v, r15.v] 32 (0, 0)), Own.box b6 (.cells #[.int .i64 0, .string (⟨#[]⟩ : ByteArray), .string (⟨#[]⟩ : ByteArray), .bool false, .slice none 0 0, .slice none 0 0, .string (⟨#[]⟩ : ByteArray), .slice none 0 0, .slice none 0 0, .slice none 0 0, .slice none 0 0, .slice none 0 0, .slice none 0 0] 32 (0, 0))] := st
    replace k501 : OkL 1048576 H497 r446 := k501
    replace g502 : (r446.length : Int) ≤ (5) := g502
    show QX _ _ _ [(1, Value.pointer (some (⟨b1, 0, none⟩ : Addr))), (2, Value.pointer (some (⟨b6, 0, none⟩ : Addr))), (3, Value.pointer (some (⟨r8, 0, none⟩ : Addr))), (10, Value.int .i64 r410), (11, Value.pointer (some (⟨b439, 0, none⟩ : Addr))), (155, Value.int .i64 r410), (156, Value.bool (decide (r410 < 7)))] _
    refine QX.thenN (CW.seq (CW.seq (CW.reg (WL.as rfl (WL.nt ?_)))))
    replace st := st.rownilS (α := Backend) 68
    refine (CW.cuts (fun (s : (List Backend) × Value) W => (∃ H', St w W H H' [rowS (α := Backend) s.2 68 s.1, rowS (α := Match) (.slice v447A v447m v447c) 124 r446, Own.box b439 (.cells #[(.slice v447A v447m v447c), x436.v, s.2] 66 (0, 0)), rowS (α := Rule) (.slice v412A v412m v412c) 66 r411, rowS (α := ByteArray) (.slice v363A v363m v363c) 9 r362, rowS (α := Parent) (.slice v296A v296m v296c) 99 r295, rowS (α := Listener) (.slice v224A v224m v224c) 94 r223, rowS (α := Int) (.slice v179A v179m v179c) 3 r178, Own.box r8 (.cells #[.int .i64 r9, .string r10, .string r11, .bool a0.good, r12.v, (.slice v179A v179m v179c), .string r13, (.slice v224A v224m v224c), (.slice v296A v296m v296c), (.slice v363A v363m v363c), (.slice v412A v412m v412c), r14.v, r15.v] 32 (0, 0)), Own.box b6 (.cells #[.int .i64 0, .string (⟨#[]⟩ : ByteArray), .string (⟨#[]⟩ : ByteArray), .bool false, .slice none 0 0, .slice none 0 0, .string (⟨#[]⟩ : ByteArray), .slice none 0 0, .slice none 0 0, .slice none 0 0, .slice none 0 0, .slice none 0 0, .slice none 0 0] 32 (0, 0))] ∧ Le H497 H' ∧ OkL 1048576 H' s.1 ∧ (s.1.length : Int) ≤ (5))) (fun (s : (List Backend) × Value) => [(1, Value.pointer (some (⟨b1, 0, none⟩ : Addr))), (2, Value.pointer (some (⟨b6, 0, none⟩ : Addr))), (3, Value.pointer (some (⟨r8, 0, none⟩ : Addr))), (10, Value.int .i64 r410), (11, Value.pointer (some (⟨b439, 0, none⟩ : Addr))), (155, Value.int .i64 r410), (156, Value.bool (decide (r410 < 7)))]) ?_ ?_)
    ·refine CW.blk (CW.loop (fun (s : Nat × Int × (List Backend) × Value) W => (∃ H', St w W H H' [rowS (α := Backend) s.2.2.2 68 s.2.2.1, rowS (α := Match) (.slice v447A v447m v447c) 124 r446, Own.box b439 (.cells #[(.slice v447A v447m v447c), x436.v, s.2.2.2] 66 (0, 0)), rowS (α := Rule) (.slice v412A v412m v412c) 66 r411, rowS (α := ByteArray) (.slice v363A v363m v363c) 9 r362, rowS (α := Parent) (.slice v296A v296m v296c) 99 r295, rowS (α := Listener) (.slice v224A v224m v224c) 94 r223, rowS (α := Int) (.slice v179A v179m v179c) 3 r178, Own.box r8 (.cells #[.int .i64 r9, .string r10, .string r11, .bool a0.good, r12.v, (.slice v179A v179m v179c), .string r13, (.slice v224A v224m v224c), (.slice v296A v296m v296c), (.slice v363A v363m v363c), (.slice v412A v412m v412c), r14.v, r15.v] 32 (0, 0)), Own.box b6 (.cells #[.int .i64 0, .string (⟨#[]⟩ : ByteArray), .string (⟨#[]⟩ : ByteArray), .bool false, .slice none 0 0, .slice none 0 0, .string (⟨#[]⟩ : ByteArray), .slice none 0 0, .slice none 0 0, .slice none 0 0, .slice none 0 0, .slice none 0 0, .slice none 0 0] 32 (0, 0))] ∧ Le H497 H' ∧ OkL 1048576 H' s.2.2.1 ∧ (s.2.2.1.length : Int) ≤ s.2.1) ∧ 0 ≤ s.2.1 ∧ s.2.1 ≤ ((((lg a0.rules.l r410).backends).l).length : Int) ∧ s.2.1 ≤ 5 ∧ s.1 = (((((lg a0.rules.l r410).backends).l).length : Int) - s.2.1).toNat) (fun (s : Nat × Int × (List Backend) × Value) => [(1, Value.pointer (some (⟨b1, 0, none⟩ : Addr))), (2, Value.pointer (some (⟨b6, 0, none⟩ : Addr))), (3, Value.pointer (some (⟨r8, 0, none⟩ : Addr))), (10, Value.int .i64 r410), (11, Value.pointer (some (⟨b439, 0, none⟩ : Addr))), (155, Value.int .i64 r410), (156, Value.bool (decide (r410 < 7))), (13, Value.int .i64 s.2.1)]) (fun s => s.1) ⟨(((((lg a0.rules.l r410).backends).l).length : Int) - 0).toNat, 0, ([] : List Backend), (.slice none 0 0)⟩ ⟨⟨_, st, Le.refl _, OkL.nil, (by first|omega|simp<;>omega)⟩, (by first|omega|simp<;>omega), (by first|omega|simp<;>omega), (by first|omega|simp<;>omega), rfl⟩ (.cons rfl (.cons rfl (.cons rfl (.cons rfl (.cons rfl (.cons rfl (.cons rfl (.cons rfl (.nil _))))))))) ?_)
     rintro ⟨N518, r503, r504, v505⟩ W511 ⟨⟨H509, st, l510, k516, g517⟩, g559, g560, g561, g515⟩
     replace g559 : 0 ≤ r503 := g559
     replace g560 : r503 ≤ ((((lg a0.rules.l r410).backends).l).length : Int) := g560
     replace g561 : r503 ≤ 5 := g561
     replace g515 : N518 = (((((lg a0.rules.l r410).backends).l).length : Int) - r503).toNat := g515
     obtain ⟨v505A, v505m, v505c, rfl⟩ := row_form st (.head _)
     replace st : St w _ _ _ [rowS (α := Backend) (.slice v505A v505m v505c) 68 r504, rowS (α := Match) (.slice v447A v447m v447c) 124 r446, Own.box b439 (.cells #[(.slice v447A v447m v447c), x436.v, (.slice v505A v505m v505c)] 66 (0, 0)), rowS (α := Rule) (.slice v412A v412m v412c) 66 r411, rowS (α := ByteArray) (.slice v363A v363m v363c) 9 r362, rowS (α := Parent) (.slice v296A v296m v296c) 99 r295, rowS (α := Listener) (.slice v224A v224m v224c) 94 r223, rowS (α := Int) (.slice v179A v179m v179c) 3 r178, Own.box r8 (.cells #[.int .i64 r9, .string r10, .string r11, .bool a0.good, r12.v, (.slice v179A v179m v179c), .string r13, (.slice v224A v224m v224c), (.slice v296A v296m v296c), (.slice v363A v363m v363c), (.slice v412A v412m v412c), r14.v, r15.v] 32 (0, 0)), Own.box b6 (.cells #[.int .i64 0, .string (⟨#[]⟩ : ByteArray), .string (⟨#[]⟩ : ByteArray), .bool false, .slice none 0 0, .slice none 0 0, .string (⟨#[]⟩ : ByteArray), .slice none 0 0, .slice none 0 0, .slice none 0 0, .slice none 0 0, .slice none 0 0, .slice none 0 0] 32 (0, 0))] := st
     replace k516 : OkL 1048576 H509 r504 := k516
     replace g517 : (r504.length : Int) ≤ r503 := g517
     show CW _ _ _ _ [(1, Value.pointer (some (⟨b1, 0, none⟩ : Addr))), (2, Value.pointer (some (⟨b6, 0, none⟩ : Addr))), (3, Value.pointer (some (⟨r8, 0, none⟩ : Addr))), (10, Value.int .i64 r410), (11, Value.pointer (some (⟨b439, 0, none⟩ : Addr))), (155, Value.int .i64 r410), (156, Value.bool (decide (r410 < 7))), (13, Value.int .i64 r503)] _
     refine CW.seq (CW.seq (CW.reg (WL.mv rfl (WL.pv (Pu.fa rfl fo32_8) (WL.pv (Pu.load rfl ty29 (((f5.le ((((((((l165.trans l215).trans l286).trans l353).trans l405).trans l417).trans l435).trans l498).trans l510)).drop 10).w st.sub) rfl) (WL.mv rfl ?_))))))
     have y519 := lg_get (l := a0.rules.l) (i := r410) (by omega) (by omega)
     have k522 : Rule.Ok 140737488355329 H509 (lg a0.rules.l r410) := ((k0p.rules.le (((((((((l4.trans l165).trans l215).trans l286).trans l353).trans l405).trans l417).trans l435).trans l498).trans l510)).get _ _ y519).2
     refine WL.idx (s := a0.rules) rfl rfl rfl rfl sl29 (k0p.rules.le (((((((((l4.trans l165).trans l215).trans l286).trans l353).trans l405).trans l417).trans l435).trans l498).trans l510)) (by omega) y519 ?_
     intro ad520 f521
     refine WL.pv (Pu.fa rfl fo66_2) (WL.pv (Pu.load rfl ty64 ((f521.drop 2).w st.sub) rfl) ?_)
     have z523 : (((lg a0.rules.l r410).backends).l).length ≤ 140737488355329 := k522.backends.top
     refine WL.pv (Pu.lens (n := (((lg a0.rules.l r410).backends).l).length) rfl sl64) (WL.pv (Pu.ilt rfl rfl) (WL.mv rfl ?_))
     refine WL.splitP 207 rfl dT dF (fun h524 => ?_) (fun h524 => ?_)
     ·obtain ⟨n506, rfl⟩ : ∃ k, N518 = k + 1 := ⟨N518 - 1, by omega⟩
      refine WL.mv rfl (WL.pv (Pu.ilt rfl rfl) (WL.pv (Pu.pickT rfl rfl) (WL.nt ?_)))
      refine CW.condP 210 rfl dT dF (fun h525 => ?_) (fun h525 => ?_)
      ·refine CW.skip (QX.thenN ?_)
       refine CW.seq ?_
       refine CW.blk ?_
       refine CW.seq (CW.reg (WL.pv (Pu.fa rfl fo32_8) (WL.pv (Pu.load rfl ty29 (((f5.le ((((((((l165.trans l215).trans l286).trans l353).trans l405).trans l417).trans l435).trans l498).trans l510)).drop 10).w st.sub) rfl) (WL.mv rfl ?_))))
       have y526 := lg_get (l := a0.rules.l) (i := r410) (by omega) (by omega)
       have k529 : Rule.Ok 140737488355329 H509 (lg a0.rules.l r410) := ((k0p.rules.le (((((((((l4.trans l165).trans l215).trans l286).trans l353).trans l405).trans l417).trans l435).trans l498).trans l510)).get _ _ y526).2
       refine WL.idx (s := a0.rules) rfl rfl rfl rfl sl29 (k0p.rules.le (((((((((l4.trans l165).trans l215).trans l286).trans l353).trans l405).trans l417).trans l435).trans l498).trans l510)) (by omega) y526 ?_
       intro ad527 f528
       refine WL.pv (Pu.fa rfl fo66_2) (WL.pv (Pu.load rfl ty64 ((f528.drop 2).w st.sub) rfl) (WL.mv rfl ?_))
       have y530 := lg_get (l := ((lg a0.rules.l r410).backends).l) (i := r503) (by omega) (by omega)
       have k533 : Backend.Ok 140737488355329 H509 (lg (((lg a0.rules.l r410).backends).l) r503) := (k529.backends.get _ _ y530).2
       refine WL.idx (s := (lg a0.rules.l r410).backends) rfl rfl rfl rfl sl64 k529.backends (by omega) y530 ?_
       intro ad531 f532
       refine WL.pv (Pu.load (v := Backend.v (lg (((lg a0.rules.l r410).backends).l) r503)) rfl ty68 (f532.w st.sub) rfl) ?_
       refine WL.alloco (c := #[.int .i64 0, .string (⟨#[]⟩ : ByteArray), .string (⟨#[]⟩ : ByteArray), .int .i64 0, .int .i64 0]) rfl rfl ze68 rfl st ?_
       intro b534 W535 st
       refine WL.store (o := 0) (c' := [.int .i64 (((lg (((lg a0.rules.l r410).backends).l) r503).ref).kind), .string (((lg (((lg a0.rules.l r410).backends).l) r503).ref).space), .string (((lg (((lg a0.rules.l r410).backends).l) r503).ref).name), .int .i64 ((lg (((lg a0.rules.l r410).backends).l) r503).port), .int .i64 ((lg (((lg a0.rules.l r410).backends).l) r503).weight)]) rfl rfl rfl rfl ty68 rfl (Enc.one (α := Backend) _) rfl rfl st ?_
       intro W536 st
       obtain ⟨H537, st, l538, f539⟩ := st.keepbox
       refine WL.nt ?_
       refine CW.regS (C := Cl w H537 [Own.box b439 (.cells #[(.slice v447A v447m v447c), x436.v, (.slice v505A v505m v505c)] 66 (0, 0)), Own.box r8 (.cells #[.int .i64 r9, .string r10, .string r11, .bool a0.good, r12.v, (.slice v179A v179m v179c), .string r13, (.slice v224A v224m v224c), (.slice v296A v296m v296c), (.slice v363A v363m v363c), (.slice v412A v412m v412c), r14.v, r15.v] 32 (0, 0)), Own.box b6 (.cells #[.int .i64 0, .string (⟨#[]⟩ : ByteArray), .string (⟨#[]⟩ : ByteArray), .bool false, .slice none 0 0, .slice none 0 0, .string (⟨#[]⟩ : ByteArray), .slice none 0 0, .slice none 0 0, .slice none 0 0, .slice none 0 0, .slice none 0 0, .slice none 0 0] 32 (0, 0))]) (tail := [13]) (S := Grew w H H537 [rowS (α := Backend) (.slice v505A v505m v505c) 68 r504, rowS (α := Match) (.slice v447A v447m v447c) 124 r446, Own.box b439 (.cells #[(.slice v447A v447m v447c), x436.v, (.slice v505A v505m v505c)] 66 (0, 0)), rowS (α := Rule) (.slice v412A v412m v412c) 66 r411, rowS (α := ByteArray) (.slice v363A v363m v363c) 9 r362, rowS (α := Parent) (.slice v296A v296m v296c) 99 r295, rowS (α := Listener) (.slice v224A v224m v224c) 94 r223, rowS (α := Int) (.slice v179A v179m v179c) 3 r178, Own.box r8 (.cells #[.int .i64 r9, .string r10, .string r11, .bool a0.good, r12.v, (.slice v179A v179m v179c), .string r13, (.slice v224A v224m v224c), (.slice v296A v296m v296c), (.slice v363A v363m v363c), (.slice v412A v412m v412c), r14.v, r15.v] 32 (0, 0)), Own.box b6 (.cells #[.int .i64 0, .string (⟨#[]⟩ : ByteArray), .string (⟨#[]⟩ : ByteArray), .bool false, .slice none 0 0, .slice none 0 0, .string (⟨#[]⟩ : ByteArray), .slice none 0 0, .slice none 0 0, .slice none 0 0, .slice none 0 0, .slice none 0 0, .slice none 0 0] 32 (0, 0))]) mixed (fun W' h1 h2 h3 h4 => grew_start st h1 h2 h3 h4) (n := 14) rfl ?_
       refine WS.pk 0 rfl (good_grew (Le.refl _) ((subC (.tail _ (.tail _ (.head _))) (subC (.tail _ (.tail _ (.tail _ (.tail _ (.tail _ (.tail _ (.tail _ (.tail _ (.head _))))))))) (subC (.tail _ (.tail _ (.tail _ (.tail _ (.tail _ (.tail _ (.tail _ (.tail _ (.tail _ (.head _)))))))))) subN))))) (fun W hC => Pu.fa rfl fo66_2) ?_
       refine WS.pk 1 rfl (good_grew (Le.refl _) ((subC (.tail _ (.tail _ (.head _))) (subC (.tail _ (.tail _ (.tail _ (.tail _ (.tail _ (.tail _ (.tail _ (.tail _ (.head _))))))))) (subC (.tail _ (.tail _ (.tail _ (.tail _ (.tail _ (.tail _ (.tail _ (.tail _ (.tail _ (.head _)))))))))) subN))))) (fun W hC => Pu.load rfl ty64 ((AtW.block (hC.2 _ (.head _)).2).drop 2) rfl) ?_
       refine WS.pk 2 rfl (good_grew (Le.refl _) ((subC (.tail _ (.tail _ (.head _))) (subC (.tail _ (.tail _ (.tail _ (.tail _ (.tail _ (.tail _ (.tail _ (.tail _ (.head _))))))))) (subC (.tail _ (.tail _ (.tail _ (.tail _ (.tail _ (.tail _ (.tail _ (.tail _ (.tail _ (.head _)))))))))) subN))))) (fun W hC => Pu.fa rfl fo68_0) ?_
       refine WS.pk 3 rfl (good_grew (Le.refl _) ((subC (.tail _ (.tail _ (.head _))) (subC (.tail _ (.tail _ (.tail _ (.tail _ (.tail _ (.tail _ (.tail _ (.tail _ (.head _))))))))) (subC (.tail _ (.tail _ (.tail _ (.tail _ (.tail _ (.tail _ (.tail _ (.tail _ (.tail _ (.head _)))))))))) subN))))) (fun W hC => Pu.load (v := Ref.v ((lg (((lg a0.rules.l r410).backends).l) r503).ref)) rfl ty23 ((f539.drop 0).w hC.1) rfl) ?_
       refine WS.pk 5 rfl (good_grew (Le.refl _) ((subC (.tail _ (.tail _ (.head _))) (subC (.tail _ (.tail _ (.tail _ (.tail _ (.tail _ (.tail _ (.tail _ (.tail _ (.head _))))))))) (subC (.tail _ (.tail _ (.tail _ (.tail _ (.tail _ (.tail _ (.tail _ (.tail _ (.tail _ (.head _)))))))))) subN))))) (fun W hC => Pu.fa rfl fo68_1) ?_
       refine WS.pk 6 rfl (good_grew (Le.refl _) ((subC (.tail _ (.tail _ (.head _))) (subC (.tail _ (.tail _ (.tail _ (.tail _ (.tail _ (.tail _ (.tail _ (.tail _ (.head _))))))))) (subC (.tail _ (.tail _ (.tail _ (.tail _ (.tail _ (.tail _ (.tail _ (.tail _ (.tail _ (.head _)))))))))) subN))))) (fun W hC => Pu.load rfl ty3 ((f539.drop 3).w hC.1) rfl) ?_
       refine WS.pk 7 rfl (good_grew (Le.refl _) ((subC (.tail _ (.tail _ (.head _))) (subC (.tail _ (.tail _ (.tail _ (.tail _ (.tail _ (.tail _ (.tail _ (.tail _ (.head _))))))))) (subC (.tail _ (.tail _ (.tail _ (.tail _ (.tail _ (.tail _ (.tail _ (.tail _ (.tail _ (.head _)))))))))) subN))))) (fun W hC => Pu.fa rfl fo68_2) ?_
       refine WS.pk 8 rfl (good_grew (Le.refl _) ((subC (.tail _ (.tail _ (.head _))) (subC (.tail _ (.tail _ (.tail _ (.tail _ (.tail _ (.tail _ (.tail _ (.tail _ (.head _))))))))) (subC (.tail _ (.tail _ (.tail _ (.tail _ (.tail _ (.tail _ (.tail _ (.tail _ (.tail _ (.head _)))))))))) subN))))) (fun W hC => Pu.load rfl ty3 ((f539.drop 4).w hC.1) rfl) ?_
       refine WS.one (i := 4) (by kernel_rfl) ?_
       refine WO.call 4 rfl rfl rfl (fun _ H' l => good_grew ((Le.refl _).trans l) ((subC (.tail _ (.tail _ (.head _))) (subC (.tail _ (.tail _ (.tail _ (.tail _ (.tail _ (.tail _ (.tail _ (.tail _ (.head _))))))))) (subC (.tail _ (.tail _ (.tail _ (.tail _ (.tail _ (.tail _ (.tail _ (.tail _ (.tail _ (.head _)))))))))) subN))))) en15 rfl rfl (fun W H' hs' l => c15 ((lg (((lg a0.rules.l r410).backends).l) r503).ref) hs' (k533.ref.le (l538.trans l))) ?_
       rintro _ H540 l541 ⟨x542, rfl, k543⟩
       refine WS.pk 9 rfl (good_grew l541 ((subC (.tail _ (.tail _ (.head _))) (subC (.tail _ (.tail _ (.tail _ (.tail _ (.tail _ (.tail _ (.tail _ (.tail _ (.head _))))))))) (subC (.tail _ (.tail _ (.tail _ (.tail _ (.tail _ (.tail _ (.tail _ (.tail _ (.tail _ (.head _)))))))))) subN))))) (fun W hC => Pu.buildL (cs := Backend.c (⟨x542, (lg (((lg a0.rules.l r410).backends).l) r503).port, (lg (((lg a0.rules.l r410).backends).l) r503).weight⟩ : Backend)) st68 rfl rfl rfl) ?_
       refine WS.one (i := 10) (by kernel_rfl) ?_
       refine WO.lit (M := 1048576) ([(⟨x542, (lg (((lg a0.rules.l r410).backends).l) r503).port, (lg (((lg a0.rules.l r410).backends).l) r503).weight⟩ : Backend)] : List Backend) 10 rfl rfl rfl (fun _ H' l => good_grew (l541.trans l) ((subC (.tail _ (.tail _ (.head _))) (subC (.tail _ (.tail _ (.tail _ (.tail _ (.tail _ (.tail _ (.tail _ (.tail _ (.head _))))))))) (subC (.tail _ (.tail _ (.tail _ (.tail _ (.tail _ (.tail _ (.tail _ (.tail _ (.tail _ (.head _)))))))))) subN))))) ap64 rfl rfl rfl rfl rfl rfl rfl rfl rfl (by decide) (OkL.cons (show Backend.Ok _ _ (⟨x542, (lg (((lg a0.rules.l r410).backends).l) r503).port, (lg (((lg a0.rules.l r410).backends).l) r503).weight⟩ : Backend) from ⟨k543⟩) OkL.nil) ?_
       intro b545 H546 l547 k548
       refine WS.one (i := 11) (by kernel_rfl) ?_
       refine WO.appS (s2 := (⟨some ⟨b545, 0, none⟩, 1, ([(⟨x542, (lg (((lg a0.rules.l r410).backends).l) r503).port, (lg (((lg a0.rules.l r410).backends).l) r503).weight⟩ : Backend)] : List Backend)⟩ : Sl Backend)) 11 rfl rfl rfl (fun _ A m c H' l => good_grew ((l541.trans l547).trans l) ((subC (.tail _ (.tail _ (.head _))) (subC (.tail _ (.tail _ (.tail _ (.tail _ (.tail _ (.tail _ (.tail _ (.tail _ (.head _))))))))) (subC (.tail _ (.tail _ (.tail _ (.tail _ (.tail _ (.tail _ (.tail _ (.tail _ (.tail _ (.head _)))))))))) subN))))) ap64 rfl rfl rfl rfl rfl k548 (by first|omega|simp<;>omega) (by first|omega|simp<;>omega) ?_
       intro A549 mm550 n551 H552 l553
       refine WS.pk 12 rfl (good_grew ((l541.trans l547).trans l553) ((subC (.tail _ (.tail _ (.head _))) (subC (.tail _ (.tail _ (.tail _ (.tail _ (.tail _ (.tail _ (.tail _ (.tail _ (.head _))))))))) (subC (.tail _ (.tail _ (.tail _ (.tail _ (.tail _ (.tail _ (.tail _ (.tail _ (.tail _ (.head _)))))))))) subN))))) (fun W hC => Pu.fa rfl fo66_2) ?_
       refine WS.one (i := 13) (by kernel_rfl) ?_
       refine WO.front3 ?_
       refine WO.store (o := 2) (c' := [(.slice v447A v447m v447c), x436.v, (.slice A549 mm550 n551)]) 13 rfl rfl (tlT (by kernel_rfl)) rfl rfl rfl ty64 rfl (one1 rfl rfl) rfl rfl ?_
       intro H554 l555
       refine WS.fin (by kernel_rfl) (fun W558 H556 st l557 => ?_)
       refine QX.blkN (QX.thenN ?_)
       refine CW.reg (WL.mv rfl (WL.pv (Pu.iadd rfl rfl (c := r503 + 1) (w64 (by omega) (by omega))) (WL.as rfl ?_)))
       refine WL.nil (QX.round ⟨n506, r503 + 1, r504 ++ ([(⟨x542, (lg (((lg a0.rules.l r410).backends).l) r503).port, (lg (((lg a0.rules.l r410).backends).l) r503).weight⟩ : Backend)] : List Backend), (.slice A549 mm550 n551)⟩ ?_ (Nat.lt_succ_self _) (.cons rfl (.cons rfl (.cons rfl (.cons rfl (.cons rfl (.cons rfl (.cons rfl (.cons rfl (.nil _))))))))))
       replace st := st.front10
       replace st := st.front10
       replace st := st.front10
       replace st := st.front10
       replace st := st.front10
       replace st := st.front10
       replace st := st.front10
       replace st := st.front8
       replace st := st.front10
       replace st := st.front10
       exact ⟨⟨_, st, ((((((l510.trans l538).trans l541).trans l547).trans l553).trans l555).trans l557), (OkL.app (k516.le (((((l538.trans l541).trans l547).trans l553).trans l555).trans l557)) (OkL.cons (show Backend.Ok _ _ (⟨x542, (lg (((lg a0.rules.l r410).backends).l) r503).port, (lg (((lg a0.rules.l r410).backends).l) r503).weight⟩ : Backend) from ⟨(k543.le (((l547.trans l553).trans l555).trans l557))⟩) OkL.nil)), (by first|omega|simp<;>omega)⟩, (by first|omega|simp<;>omega), (by first|omega|simp<;>omega), (by first|omega|simp<;>omega), (by first|omega|simp<;>omega)⟩
      ·refine CW.exit (QX.thenE (QX.thenE (QX.hit (QX.meets ⟨r504, (.slice v505A v505m v505c)⟩ ?_ (.cons rfl (.cons rfl (.cons rfl (.cons rfl (.cons rfl (.cons rfl (.cons rfl (.nil _))))))))))))
       exact ⟨_, st, l510, k516, (by first|omega|simp<;>omega)⟩
     ·obtain rfl : N518 = 0 := by omega
      refine WL.of (WL.of (WL.pv (Pu.pickF rfl rfl) (WL.nt ?_)))
      refine CW.condF rfl ?_
      refine CW.exit (QX.thenE (QX.thenE (QX.hit (QX.meets ⟨r504, (.slice v505A v505m v505c)⟩ ?_ (.cons rfl (.cons rfl (.cons rfl (.cons rfl (.cons rfl (.cons rfl (.cons rfl (.nil _))))))))))))
      exact ⟨_, st, l510, k516, (by first|omega|simp<;>omega)⟩
    rintro ⟨r507, v508⟩ W564 ⟨H562, st, l563, k566, g567⟩
    obtain ⟨v508A, v508m, v508c, rfl⟩ := row_form st (.head _)
    replace st : St w _ _ _ [rowS (α := Backend) (.slice v508A v508m v508c) 68 r507, rowS (α := Match) (.slice v447A v447m v447c) 124 r446, Own.box b439 (.cells #[(.slice v447A v447m v447c), x436.v, (.slice v508A v508m v508c)] 66 (0, 0)), rowS (α := Rule) (.slice v412A v412m v412c) 66 r411, rowS (α := ByteArray) (.slice v363A v363m v363c) 9 r362, rowS (α := Parent) (.slice v296A v296m v296c) 99 r295, rowS (α := Listener) (.slice v224A v224m v224c) 94 r223, rowS (α := Int) (.slice v179A v179m v179c) 3 r178, Own.box r8 (.cells #[.int .i64 r9, .string r10, .string r11, .bool a0.good, r12.v, (.slice v179A v179m v179c), .string r13, (.slice v224A v224m v224c), (.slice v296A v296m v296c), (.slice v363A v363m v363c), (.slice v412A v412m v412c), r14.v, r15.v] 32 (0, 0)), Own.box b6 (.cells #[.int .i64 0, .string (⟨#[]⟩ : ByteArray), .string (⟨#[]⟩ : ByteArray), .bool false, .slice none 0 0, .slice none 0 0, .string (⟨#[]⟩ : ByteArray), .slice none 0 0, .slice none 0 0, .slice none 0 0, .slice none 0 0, .slice none 0 0, .slice none 0 0] 32 (0, 0))] := st
    replace k566 : OkL 1048576 H562 r507 := k566
    replace g567 : (r507.length : Int) ≤ (5) := g567
    show QX _ _ _ [(1, Value.pointer (some (⟨b1, 0, none⟩ : Addr))), (2, Value.pointer (some (⟨b6, 0, none⟩ : Addr))), (3, Value.pointer (some (⟨r8, 0, none⟩ : Addr))), (10, Value.int .i64 r410), (11, Value.pointer (some (⟨b439, 0, none⟩ : Addr))), (155, Value.int .i64 r410), (156, Value.bool (decide (r410 < 7)))] _
    refine QX.thenN (CW.reg (WL.pv (Pu.fa rfl fo32_8) (WL.pv (Pu.load rfl ty29 ((AtW.block (st.own _ (.tail _ (.tail _ (.tail _ (.tail _ (.tail _ (.tail _ (.tail _ (.tail _ (.head _)))))))))).1.2).drop 10) rfl) ?_)))
    replace st := st.front2
    obtain ⟨H568, st', l569, rfl, k570⟩ := st.settle (M := 1048576) (k501.le l563) (by first|omega|simp<;>omega)
    have st := st'
    obtain ⟨H571, st', l572, rfl, k573⟩ := st.settle (M := 1048576) (k566.le l569) (by first|omega|simp<;>omega)
    have st := st'
    refine WL.pv (Pu.load (v := Rule.v (⟨(⟨v447A, v447c, r446⟩ : Sl Match), x436, (⟨v508A, v508c, r507⟩ : Sl Backend)⟩ : Rule)) rfl ty66 (AtW.block (st.own _ (.head _)).1.2) rfl) ?_
    refine WL.lit (M := 1048576) ([(⟨(⟨v447A, v447c, r446⟩ : Sl Match), x436, (⟨v508A, v508c, r507⟩ : Sl Backend)⟩ : Rule)] : List Rule) rfl rfl ap29 rfl rfl rfl rfl rfl rfl rfl rfl rfl (by decide) (OkL.cons (show Rule.Ok _ _ (⟨(⟨v447A, v447c, r446⟩ : Sl Match), x436, (⟨v508A, v508c, r507⟩ : Sl Backend)⟩ : Rule) from ⟨(k570.le l572), (k437.le (((l498.trans l563).trans l569).trans l572)), k573⟩) OkL.nil) st ?_
    intro b575 W574 H576 st l577 k578
    replace st := st.front2
    refine WL.appS (s2 := (⟨some ⟨b575, 0, none⟩, 1, ([(⟨(⟨v447A, v447c, r446⟩ : Sl Match), x436, (⟨v508A, v508c, r507⟩ : Sl Backend)⟩ : Rule)] : List Rule)⟩ : Sl Rule)) rfl rfl ap29 rfl rfl rfl rfl rfl k578 (by first|omega|simp<;>omega) (by first|omega|simp<;>omega) st ?_
    intro A579 mm580 n581 W582 st
    refine WL.pv (Pu.fa rfl fo32_8) ?_
    replace st := st.front7
    refine WL.store (o := 10) (c' := [.int .i64 r9, .string r10, .string r11, .bool a0.good, r12.v, (.slice v179A v179m v179c), .string r13, (.slice v224A v224m v224c), (.slice v296A v296m v296c), (.slice v363A v363m v363c), (.slice A579 mm580 n581), r14.v, r15.v]) rfl rfl rfl rfl ty29 rfl (one1 rfl rfl) rfl rfl st ?_
    intro W583 st
    refine WL.nil (QX.blkN (QX.thenN ?_))
    refine CW.reg (WL.mv rfl (WL.pv (Pu.iadd rfl rfl (c := r410 + 1) (w64 (by omega) (by omega))) (WL.as rfl ?_)))
    refine WL.nil (QX.round ⟨n413, r410 + 1, r411 ++ ([(⟨(⟨v447A, v447c, r446⟩ : Sl Match), x436, (⟨v508A, v508c, r507⟩ : Sl Backend)⟩ : Rule)] : List Rule), (.slice A579 mm580 n581)⟩ ?_ (Nat.lt_succ_self _) (.cons rfl (.cons rfl (.cons rfl (.cons rfl (.nil _))))))
    replace st := st.front3
    replace st := st.forget
    replace st := st.front7
    replace st := st.front2
    replace st := st.front7
    replace st := st.front7
    replace st := st.front7
    replace st := st.front7
    replace st := st.front7
    exact ⟨⟨_, st, ((((((l417.trans l435).trans l498).trans l563).trans l569).trans l572).trans l577), (OkL.app (k423.le (((((l435.trans l498).trans l563).trans l569).trans l572).trans l577)) (OkL.cons (show Rule.Ok _ _ (⟨(⟨v447A, v447c, r446⟩ : Sl Match), x436, (⟨v508A, v508c, r507⟩ : Sl Backend)⟩ : Rule) from ⟨(k570.le (l572.trans l577)), (k437.le ((((l498.trans l563).trans l569).trans l572).trans l577)), (k573.le l577)⟩) OkL.nil)), (by first|omega|simp<;>omega)⟩, (by first|omega|simp<;>omega), (by first|omega|simp<;>omega), (by first|omega|simp<;>omega), (by first|omega|simp<;>omega)⟩
   ·refine CW.exit (QX.thenE (QX.thenE (QX.hit (QX.meets ⟨r411, (.slice v412A v412m v412c)⟩ ?_ (.cons rfl (.cons rfl (.nil _)))))))
    exact ⟨_, st, l417, k423, (by first|omega|simp<;>omega)⟩
  ·obtain rfl : N425 = 0 := by omega
   refine WL.of (WL.of (WL.pv (Pu.pickF rfl rfl) (WL.nt ?_)))
   refine CW.condF rfl ?_
   refine CW.exit (QX.thenE (QX.thenE (QX.hit (QX.meets ⟨r411, (.slice v412A v412m v412c)⟩ ?_ (.cons rfl (.cons rfl (.nil _)))))))
   exact ⟨_, st, l417, k423, (by first|omega|simp<;>omega)⟩
 rintro ⟨r414, v415⟩ W589 ⟨H587, st, l588, k591, g592⟩
 obtain ⟨v415A, v415m, v415c, rfl⟩ := row_form st (.head _)
 replace st : St w _ _ _ [rowS (α := Rule) (.slice v415A v415m v415c) 66 r414, rowS (α := ByteArray) (.slice v363A v363m v363c) 9 r362, rowS (α := Parent) (.slice v296A v296m v296c) 99 r295, rowS (α := Listener) (.slice v224A v224m v224c) 94 r223, rowS (α := Int) (.slice v179A v179m v179c) 3 r178, Own.box r8 (.cells #[.int .i64 r9, .string r10, .string r11, .bool a0.good, r12.v, (.slice v179A v179m v179c), .string r13, (.slice v224A v224m v224c), (.slice v296A v296m v296c), (.slice v363A v363m v363c), (.slice v415A v415m v415c), r14.v, r15.v] 32 (0, 0)), Own.box b6 (.cells #[.int .i64 0, .string (⟨#[]⟩ : ByteArray), .string (⟨#[]⟩ : ByteArray), .bool false, .slice none 0 0, .slice none 0 0, .string (⟨#[]⟩ : ByteArray), .slice none 0 0, .slice none 0 0, .slice none 0 0, .slice none 0 0, .slice none 0 0, .slice none 0 0] 32 (0, 0))] := st
 replace k591 : OkL 1048576 H587 r414 := k591
 replace g592 : (r414.length : Int) ≤ (7) := g592
 show QX _ _ _ [(2, Value.pointer (some (⟨b6, 0, none⟩ : Addr))), (3, Value.pointer (some (⟨r8, 0, none⟩ : Addr)))] _
 refine QX.thenN (CW.seq (CW.reg ?_))
 replace st := st.front5
 obtain ⟨H593, st', l594, rfl, k595⟩ := st.settle (M := 1048576) OkL.int (by first|omega|simp<;>omega)
 have st := st'
 replace st := st.front4
 obtain ⟨H596, st', l597, rfl, k598⟩ := st.settle (M := 1048576) (k289.le (((l353.trans l405).trans l588).trans l594)) (by first|omega|simp<;>omega)
 have st := st'
 replace st := st.front3
 obtain ⟨H599, st', l600, rfl, k601⟩ := st.settle (M := 1048576) (k356.le (((l405.trans l588).trans l594).trans l597)) (by first|omega|simp<;>omega)
 have st := st'
 replace st := st.front2
 obtain ⟨H602, st', l603, rfl, k604⟩ := st.settle (M := 1048576) (k408.le (((l588.trans l594).trans l597).trans l600)) (by first|omega|simp<;>omega)
 have st := st'
 obtain ⟨H605, st', l606, rfl, k607⟩ := st.settle (M := 1048576) (k591.le (((l594.trans l597).trans l600).trans l603)) (by first|omega|simp<;>omega)
 have st := st'
 refine WL.pv (Pu.load (v := Object.v (⟨(⟨r9, r10, r11⟩ : Ref), a0.good, r12, (⟨v179A, v179c, r178⟩ : Sl Int), r13, (⟨v224A, v224c, r223⟩ : Sl Listener), (⟨v296A, v296c, r295⟩ : Sl Parent), (⟨v363A, v363c, r362⟩ : Sl ByteArray), (⟨v415A, v415c, r414⟩ : Sl Rule), r14, r15⟩ : Object)) rfl ty32 (AtW.block (st.own _ (.head _)).1.2) rfl) ?_
 replace st := st.front2
 refine WL.store (o := 0) (c' := [.int .i64 r9, .string r10, .string r11, .bool a0.good, r12.v, (⟨v179A, v179c, r178⟩ : Sl Int).v, .string r13, (⟨v224A, v224c, r223⟩ : Sl Listener).v, (⟨v296A, v296c, r295⟩ : Sl Parent).v, (⟨v363A, v363c, r362⟩ : Sl ByteArray).v, (⟨v415A, v415c, r414⟩ : Sl Rule).v, r14.v, r15.v]) rfl rfl rfl rfl ty32 rfl (Enc.one (α := Object) _) rfl rfl st ?_
 intro W608 st
 refine WL.nt ?_
 refine CW.ret (fun a ha => finR Tryz.results14 st (.cell (v := Object.v (⟨(⟨r9, r10, r11⟩ : Ref), a0.good, r12, (⟨v179A, v179c, r178⟩ : Sl Int), r13, (⟨v224A, v224c, r223⟩ : Sl Listener), (⟨v296A, v296c, r295⟩ : Sl Parent), (⟨v363A, v363c, r362⟩ : Sl ByteArray), (⟨v415A, v415c, r414⟩ : Sl Rule), r14, r15⟩ : Object)) rfl ty32 (AtW.block (st.own _ (.head _)).1.2) rfl .nil) ?_ ha)
 exact ⟨(⟨(⟨r9, r10, r11⟩ : Ref), a0.good, r12, (⟨v179A, v179c, r178⟩ : Sl Int), r13, (⟨v224A, v224c, r223⟩ : Sl Listener), (⟨v296A, v296c, r295⟩ : Sl Parent), (⟨v363A, v363c, r362⟩ : Sl ByteArray), (⟨v415A, v415c, r414⟩ : Sl Rule), r14, r15⟩ : Object), rfl, ⟨⟨k168, k169⟩, (k170.le (((((((((l215.trans l286).trans l353).trans l405).trans l588).trans l594).trans l597).trans l600).trans l603).trans l606)), (k595.le (((l597.trans l600).trans l603).trans l606)), k171, (k598.le ((l600.trans l603).trans l606)), (k601.le (l603.trans l606)), (k604.le l606), k607, (k172.le (((((((((l215.trans l286).trans l353).trans l405).trans l588).trans l594).trans l597).trans l600).trans l603).trans l606)), (k173.le (((((((((l215.trans l286).trans l353).trans l405).trans l588).trans l594).trans l597).trans l600).trans l603).trans l606))⟩⟩
end Go.Proofs.TB
