import Derived.Test.YtmfnlloabaoagaaGreatDoorTL
import Derived.Test.YtmfnlloabaoagaaGreatDoorTT
import Derived.Test.YtmfnlloabaoagaaGreatDoorGH
import Derived.Test.YtmfnlloabaoagaaGreatDoorProg
import Derived.KernelRfl
set_option linter.unusedVariables false
set_option maxRecDepth 100000
namespace Go.Proofs.TB
open Go.RowKit
theorem ty43 : tyOf Tryz.prog 43 = some (false, 1) := by kernel_rfl
theorem ty45 : tyOf Tryz.prog 45 = some (true, 6) := by kernel_rfl
theorem fo45_0 : foOf Tryz.prog 45 0 = some 0 := by kernel_rfl
theorem fo45_1 : foOf Tryz.prog 45 1 = some 1 := by kernel_rfl
theorem fo45_2 : foOf Tryz.prog 45 2 = some 2 := by kernel_rfl
theorem fo45_3 : foOf Tryz.prog 45 3 = some 3 := by kernel_rfl
theorem en20 : En Tryz.prog 20 := En.of Tryz.func20 (by kernel_rfl) rfl
theorem en32 : En Tryz.prog 32 := En.of Tryz.func32 (by kernel_rfl) rfl
theorem ze45 : zeOf Tryz.prog 45 = some (.agg #[.slice none 0 0, .int .i64 0, .string ⟨#[]⟩, .int .i64 0, .string ⟨#[]⟩, .string ⟨#[]⟩]) := by kernel_rfl
theorem st45 : stOf Tryz.prog 45 = some ([(0, 1), (1, 1), (2, 1), (3, 3)], .agg #[.slice none 0 0, .int .i64 0, .string ⟨#[]⟩, .int .i64 0, .string ⟨#[]⟩, .string ⟨#[]⟩]) := by kernel_rfl
/-! toll tolllaw11.Some -/
theorem c32 (a0 : Sl Object) {w : World} {H : PH} (hs : Sub H w) (k0p : Sl.Ok 140737488355329 H a0) : Spec Tryz.prog 32 [a0.v].toArray w H (fun H' v => ∃ (x0 : Sl Object), v = x0.v ∧ Sl.Ok 1048576 H' x0) := by
 refine Spec.enter Tryz.func32 rfl Tryz.ntmps32 rfl ?_
 have st := St.start hs
 refine CW.seq (CW.reg (WL.as rfl (WL.nt (CW.seq (CW.reg (WL.as rfl (WL.nt (CW.seq (CW.seq ?_)))))))))
 refine CW.reg (WL.as rfl (WL.nt ?_))
 replace st := st.rownilS (α := Object) 32
 refine (CW.cuts (fun (s : (List Object) × Value) W => (∃ H', St w W H H' [rowS (α := Object) s.2 32 s.1] ∧ Le H H' ∧ OkL 1048576 H' s.1 ∧ (s.1.length : Int) ≤ (24))) (fun (s : (List Object) × Value) => [(3, s.2)]) ?_ ?_)
 ·refine CW.blk (CW.loop (fun (s : Nat × (List Object) × Int × Value) W => (∃ H', St w W H H' [rowS (α := Object) s.2.2.2 32 s.2.1] ∧ Le H H' ∧ OkL 1048576 H' s.2.1 ∧ (s.2.1.length : Int) ≤ s.2.2.1) ∧ 0 ≤ s.2.2.1 ∧ s.2.2.1 ≤ (a0.l.length : Int) ∧ s.2.2.1 ≤ 24 ∧ s.1 = ((a0.l.length : Int) - s.2.2.1).toNat) (fun (s : Nat × (List Object) × Int × Value) => [(0, a0.v), (3, s.2.2.2), (4, Value.int .i64 s.2.2.1)]) (fun s => s.1) ⟨((a0.l.length : Int) - 0).toNat, ([] : List Object), 0, (.slice none 0 0)⟩ ⟨⟨_, st, Le.refl _, OkL.nil, (by first|omega|simp<;>omega)⟩, (by first|omega|simp<;>omega), (by first|omega|simp<;>omega), (by first|omega|simp<;>omega), rfl⟩ (.cons rfl (.cons rfl (.cons rfl (.nil _)))) ?_)
  rintro ⟨N16, r1, r3, v2⟩ W9 ⟨⟨H7, st, l8, k14, g15⟩, g39, g40, g41, g13⟩
  replace g39 : 0 ≤ r3 := g39
  replace g40 : r3 ≤ (a0.l.length : Int) := g40
  replace g41 : r3 ≤ 24 := g41
  replace g13 : N16 = ((a0.l.length : Int) - r3).toNat := g13
  obtain ⟨v2A, v2m, v2c, rfl⟩ := row_form st (.head _)
  replace st : St w _ _ _ [rowS (α := Object) (.slice v2A v2m v2c) 32 r1] := st
  replace k14 : OkL 1048576 H7 r1 := k14
  replace g15 : (r1.length : Int) ≤ r3 := g15
  show CW _ _ _ _ [(0, a0.v), (3, (.slice v2A v2m v2c)), (4, Value.int .i64 r3)] _
  refine CW.seq (CW.seq (CW.reg (WL.mv rfl (WL.mv rfl ?_))))
  have z17 : a0.l.length ≤ 140737488355329 := (k0p.le l8).top
  refine WL.pv (Pu.lens (n := a0.l.length) rfl sl43) (WL.pv (Pu.ilt rfl rfl) (WL.mv rfl ?_))
  refine WL.splitP 9 rfl dT dF (fun h18 => ?_) (fun h18 => ?_)
  ·obtain ⟨n4, rfl⟩ : ∃ k, N16 = k + 1 := ⟨N16 - 1, by omega⟩
   refine WL.mv rfl (WL.pv (Pu.ilt rfl rfl) (WL.pv (Pu.pickT rfl rfl) (WL.nt ?_)))
   refine CW.condP 12 rfl dT dF (fun h19 => ?_) (fun h19 => ?_)
   ·refine CW.skip (QX.thenN ?_)
    refine CW.seq ?_
    refine CW.blk ?_
    refine CW.reg (WL.mv rfl (WL.mv rfl (WL.mv rfl ?_)))
    have y20 := lg_get (l := a0.l) (i := r3) (by omega) (by omega)
    have k23 : Object.Ok 140737488355329 H7 (lg a0.l r3) := ((k0p.le l8).get _ _ y20).2
    refine WL.idx (s := a0) rfl rfl rfl rfl sl43 (k0p.le l8) (by omega) y20 ?_
    intro ad21 f22
    refine WL.pv (Pu.load (v := Object.v (lg a0.l r3)) rfl ty32 (f22.w st.sub) rfl) ?_
    refine WL.call rfl rfl en14 rfl rfl st (c14 (lg a0.l r3) st.sub k23) ?_
    rintro _ W24 H25 st l26 ⟨x27, rfl, k28⟩
    refine WL.lit (M := 1048576) ([x27] : List Object) rfl rfl ap43 rfl rfl rfl rfl rfl rfl rfl rfl rfl (by decide) (OkL.cons k28 OkL.nil) st ?_
    intro b31 W30 H32 st l33 k34
    refine WL.appS (s2 := (⟨some ⟨b31, 0, none⟩, 1, ([x27] : List Object)⟩ : Sl Object)) rfl rfl ap43 rfl rfl rfl rfl rfl k34 (by first|omega|simp<;>omega) (by first|omega|simp<;>omega) st ?_
    intro A35 mm36 n37 W38 st
    refine WL.as rfl ?_
    refine WL.nil (QX.blkN (QX.thenN ?_))
    refine CW.reg (WL.mv rfl (WL.pv (Pu.iadd rfl rfl (c := r3 + 1) (w64 (by omega) (by omega))) (WL.as rfl ?_)))
    refine WL.nil (QX.round ⟨n4, r1 ++ ([x27] : List Object), r3 + 1, (.slice A35 mm36 n37)⟩ ?_ (Nat.lt_succ_self _) (.cons rfl (.cons rfl (.cons rfl (.nil _)))))
    exact ⟨⟨_, st, ((l8.trans l26).trans l33), (OkL.app (k14.le (l26.trans l33)) (OkL.cons (k28.le l33) OkL.nil)), (by first|omega|simp<;>omega)⟩, (by first|omega|simp<;>omega), (by first|omega|simp<;>omega), (by first|omega|simp<;>omega), (by first|omega|simp<;>omega)⟩
   ·refine CW.exit (QX.thenE (QX.thenE (QX.hit (QX.meets ⟨r1, (.slice v2A v2m v2c)⟩ ?_ (.cons rfl (.nil _))))))
    exact ⟨_, st, l8, k14, (by first|omega|simp<;>omega)⟩
  ·obtain rfl : N16 = 0 := by omega
   refine WL.of (WL.of (WL.pv (Pu.pickF rfl rfl) (WL.nt ?_)))
   refine CW.condF rfl ?_
   refine CW.exit (QX.thenE (QX.thenE (QX.hit (QX.meets ⟨r1, (.slice v2A v2m v2c)⟩ ?_ (.cons rfl (.nil _))))))
   exact ⟨_, st, l8, k14, (by first|omega|simp<;>omega)⟩
 rintro ⟨r5, v6⟩ W44 ⟨H42, st, l43, k46, g47⟩
 obtain ⟨v6A, v6m, v6c, rfl⟩ := row_form st (.head _)
 replace st : St w _ _ _ [rowS (α := Object) (.slice v6A v6m v6c) 32 r5] := st
 replace k46 : OkL 1048576 H42 r5 := k46
 replace g47 : (r5.length : Int) ≤ (24) := g47
 show QX _ _ _ [(3, (.slice v6A v6m v6c))] _
 refine QX.thenN (CW.seq (CW.reg (WL.mv rfl (WL.as rfl (WL.nt ?_)))))
 obtain ⟨H48, st', l49, rfl, k50⟩ := st.settle (M := 1048576) k46 (by first|omega|simp<;>omega)
 have st := st'
 refine CW.ret (finA Tryz.results32 st (.tmp rfl .nil) ?_)
 exact ⟨(⟨v6A, v6c, r5⟩ : Sl Object), rfl, k50⟩
/-! toll tolllaw11.cut -/
theorem c20 (a0 : Ask11) {w : World} {H : PH} (hs : Sub H w) (k0p : Ask11.Ok 140737488355329 H a0) : Spec Tryz.prog 20 [Ask11.v a0].toArray w H (fun H' v => ∃ (x0 : Ask11), v = Ask11.v x0 ∧ Ask11.Ok 1048576 H' x0) := by
 refine Spec.enter Tryz.func20 rfl Tryz.ntmps20 rfl ?_
 have st := St.start hs
 refine CW.seq (CW.reg ?_)
 refine WL.box rfl rfl rfl rfl st ?_
 intro b1 W2 H3 st l4 f5
 refine WL.alloco (c := #[.slice none 0 0, .int .i64 0, .string (⟨#[]⟩ : ByteArray), .int .i64 0, .string (⟨#[]⟩ : ByteArray), .string (⟨#[]⟩ : ByteArray)]) rfl rfl ze45 rfl st ?_
 intro b6 W7 st
 refine WL.nt (CW.seq ?_)
 refine CW.regS (C := Cl w H3 [Own.box b6 (.cells #[.slice none 0 0, .int .i64 0, .string (⟨#[]⟩ : ByteArray), .int .i64 0, .string (⟨#[]⟩ : ByteArray), .string (⟨#[]⟩ : ByteArray)] 45 (0, 0))]) (tail := [12]) (S := Grew w H H3 [Own.box b6 (.cells #[.slice none 0 0, .int .i64 0, .string (⟨#[]⟩ : ByteArray), .int .i64 0, .string (⟨#[]⟩ : ByteArray), .string (⟨#[]⟩ : ByteArray)] 45 (0, 0))]) mixed (fun W' h1 h2 h3 h4 => grew_start st h1 h2 h3 h4) (n := 13) rfl ?_
 refine WS.pk 0 rfl gg (fun W hC => Pu.fa rfl fo45_0) ?_
 refine WS.pk 1 rfl gg (fun W hC => Pu.load rfl ty43 ((f5.drop 0).w hC.1) rfl) ?_
 refine WS.pk 3 rfl gg (fun W hC => Pu.fa rfl fo45_1) ?_
 refine WS.pk 4 rfl gg (fun W hC => Pu.load rfl ty3 ((f5.drop 1).w hC.1) rfl) ?_
 refine WS.pk 5 rfl gg (fun W hC => Pu.fa rfl fo45_2) ?_
 refine WS.pk 6 rfl gg (fun W hC => Pu.load rfl ty9 ((f5.drop 2).w hC.1) rfl) ?_
 refine WS.pk 8 rfl gg (fun W hC => Pu.fa rfl fo45_3) ?_
 refine WS.pk 9 rfl gg (fun W hC => Pu.load (v := Ref.v a0.to) rfl ty23 ((f5.drop 3).w hC.1) rfl) ?_
 refine WS.one (i := 2) (by kernel_rfl) ?_
 refine WO.call 2 rfl rfl rfl (fun _ H' l => good_grew ((Le.refl _).trans l) (fun _ h => h)) en32 rfl rfl (fun W H' hs' l => c32 a0.l hs' (k0p.l.le (l4.trans l))) ?_
 rintro _ H8 l9 ⟨x10, rfl, k11⟩
 refine WS.one (i := 7) (by kernel_rfl) ?_
 refine WO.call 7 rfl rfl rfl (fun _ H' l => good_grew (l9.trans l) (fun _ h => h)) en16 rfl rfl (fun W H' hs' l => c16 a0.space hs' k0p.space) ?_
 rintro _ H13 l14 ⟨x15, rfl, k16⟩
 refine WS.one (i := 10) (by kernel_rfl) ?_
 refine WO.call 10 rfl rfl rfl (fun _ H' l => good_grew ((l9.trans l14).trans l) (fun _ h => h)) en15 rfl rfl (fun W H' hs' l => c15 a0.to hs' (k0p.to.le (((l4.trans l9).trans l14).trans l))) ?_
 rintro _ H18 l19 ⟨x20, rfl, k21⟩
 refine WS.pk 11 rfl (good_grew ((l9.trans l14).trans l19) (fun _ h => h)) (fun W hC => Pu.buildL (cs := Ask11.c (⟨x10, a0.kind, x15, x20⟩ : Ask11)) st45 rfl rfl rfl) ?_
 refine WS.one (i := 12) (by kernel_rfl) ?_
 refine WO.store (o := 0) (c' := [x10.v, .int .i64 a0.kind, .string x15, .int .i64 x20.kind, .string x20.space, .string x20.name]) 12 rfl rfl (tlT (by kernel_rfl)) rfl rfl rfl ty45 rfl (Enc.one (α := Ask11) _) rfl rfl ?_
 intro H23 l24
 refine WS.fin (by kernel_rfl) (fun W27 H25 st l26 => ?_)
 refine QX.thenN ?_
 refine CW.ret (fun a ha => finR Tryz.results20 st (.cell (v := Ask11.v (⟨x10, a0.kind, x15, x20⟩ : Ask11)) rfl ty45 (AtW.block (st.own _ (.head _)).1.2) rfl .nil) ?_ ha)
 exact ⟨(⟨x10, a0.kind, x15, x20⟩ : Ask11), rfl, ⟨(k11.le (((l14.trans l19).trans l24).trans l26)), k16, (k21.le (l24.trans l26))⟩⟩
end Go.Proofs.TB
