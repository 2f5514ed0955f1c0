import Derived.Test.YtmfnlloabaoagaaGreatDoorTL
import Derived.Test.YtmfnlloabaoagaaGreatDoorTT
import Derived.Test.YtmfnlloabaoagaaGreatDoorGI
import Derived.Test.YtmfnlloabaoagaaGreatDoorTP
import Derived.Test.YtmfnlloabaoagaaGreatDoorProg
import Derived.KernelRfl
set_option linter.unusedVariables false
set_option maxRecDepth 100000
namespace Go.Proofs.TB
open Go.RowKit
theorem sl47 : slOf Tryz.prog 47 = some 3 := by kernel_rfl
theorem en4 : En Tryz.prog 4 := En.of Tryz.func4 (by kernel_rfl) rfl
/-! toll tolllaw11.GrantBys -/
def m4_l0 (xx100 : Ask11) : Nat → Int → Int → (Bool ⊕ Int)
 | 0, r17, _ => .inr r17
 | n19 + 1, r17, r18 => if (m17 (lg xx100.l.l r18) xx100.kind xx100.space xx100.to) = true then (if ((m21 xx100.l.l xx100.kind xx100.space xx100.to).length : Int) ≤ r17 then (.inl false) else if lg (m21 xx100.l.l xx100.kind xx100.space xx100.to) r17 = (lg xx100.l.l r18).ref then (if (((lg xx100.l.l r18).ref).kind) = 7 then (if ((lg xx100.l.l r18).ref).space = xx100.to.space then (m4_l0 xx100 n19 (r17 + 1) (r18 + 1)) else .inl false) else .inl false) else .inl false) else m4_l0 xx100 n19 r17 (r18 + 1)
def m4_l1 (xx100 : Ask11) : Nat → (List Object) → Int → (List Object)
 | 0, r81, _ => r81
 | n84 + 1, r81, r83 => m4_l1 xx100 n84 (r81 ++ ([lg xx100.l.l r83] : List Object)) (r83 - 1)
def m4 (a0 : Ask11) (xx100 : Ask11) : Bool :=
 lk2 (m4_l0 xx100 (((xx100.l.l.length : Int) - 0).toNat) 0 0) (fun r20 => lk1 (m4_l1 xx100 ((((xx100.l.l.length : Int) - 1) + 1).toNat) ([] : List Object) ((xx100.l.l.length : Int) - 1)) (fun r85 => if r20 = ((m21 xx100.l.l xx100.kind xx100.space xx100.to).length : Int) then (if ((m22 r85 xx100.kind xx100.space xx100.to) == (m22 xx100.l.l xx100.kind xx100.space xx100.to)) = true then m19 else false) else false))
theorem c4 (a0 : Ask11) {w : World} {H : PH} (hs : Sub H w) (k0p : Ask11.Ok 140737488355329 H a0) : Spec Tryz.prog 4 [Ask11.v a0].toArray w H (fun _ v => ∃ (xx100 : Ask11), v = .bool (m4 a0 xx100)) := by
 refine Spec.enter Tryz.func4 rfl Tryz.ntmps4 rfl ?_
 have st := St.start hs
 refine CW.seq ?_
 refine CW.reg ?_
 refine WL.boxo (c := #[a0.l.v, .int .i64 a0.kind, .string a0.space, .int .i64 a0.to.kind, .string a0.to.space, .string a0.to.name]) rfl rfl rfl rfl st ?_
 intro b1 W2 st
 refine WL.as rfl ?_
 refine WL.nt ?_
 refine CW.seq ?_
 refine CW.reg ?_
 refine WL.pv (Pu.load (v := Ask11.v a0) rfl ty45 (AtW.block (st.own _ (.head _)).1.2) rfl) ?_
 refine WL.call rfl rfl en20 rfl rfl st (c20 a0 st.sub k0p) ?_
 rintro _ W3 H4 st l5 ⟨xx100, rfl, k6⟩
 refine WL.store (o := 0) (c' := [xx100.l.v, .int .i64 xx100.kind, .string xx100.space, .int .i64 xx100.to.kind, .string xx100.to.space, .string xx100.to.name]) rfl rfl rfl rfl ty45 rfl (Enc.one (α := Ask11) _) rfl rfl st ?_
 intro W8 st
 refine WL.nt ?_
 refine CW.seq ?_
 refine CW.reg ?_
 refine WL.pv (Pu.fa rfl fo45_0) ?_
 refine WL.pv (Pu.load rfl ty43 (AtW.block (st.own _ (.head _)).1.2) rfl) ?_
 refine WL.pv (Pu.fa rfl fo45_1) ?_
 refine WL.pv (Pu.load rfl ty3 ((AtW.block (st.own _ (.head _)).1.2).drop 1) rfl) ?_
 refine WL.pv (Pu.fa rfl fo45_2) ?_
 refine WL.pv (Pu.load rfl ty9 ((AtW.block (st.own _ (.head _)).1.2).drop 2) rfl) ?_
 refine WL.pv (Pu.fa rfl fo45_3) ?_
 refine WL.pv (Pu.load (v := Ref.v xx100.to) rfl ty23 ((AtW.block (st.own _ (.head _)).1.2).drop 3) rfl) ?_
 refine WL.call rfl rfl en21 rfl rfl st (c21 xx100.l xx100.kind xx100.space xx100.to st.sub k6.l k6.space k6.to) ?_
 rintro _ W9 H10 st l11 ⟨⟨A15, n16, x12⟩, rfl, k13, e14⟩
 subst e14
 refine WL.as rfl ?_
 refine WL.nt ?_
 refine CW.seq ?_
 refine CW.reg ?_
 refine WL.as rfl ?_
 refine WL.nt ?_
 iterate 2 refine CW.seq ?_
 refine CW.reg ?_
 refine WL.as rfl ?_
 refine WL.nt ?_
 refine (CW.cuts (fun (s : Int) W => (∃ H', St w W H H' [Own.box b1 (.cells #[xx100.l.v, .int .i64 xx100.kind, .string xx100.space, .int .i64 xx100.to.kind, .string xx100.to.space, .string xx100.to.name] 45 (0, 0))] ∧ Le H10 H' ∧ 0 ≤ s ∧ s ≤ ((xx100.l.l.length : Int)) + 0) ∧ m4_l0 xx100 (((xx100.l.l.length : Int) - 0).toNat) 0 0 = .inr s) (fun (s : Int) => [(1, Value.pointer (some (⟨b1, 0, none⟩ : Addr))), (3, (⟨A15, n16, m21 xx100.l.l xx100.kind xx100.space xx100.to⟩ : Sl Ref).v), (4, Value.int .i64 s)]) ?_ ?_)
 ·refine CW.blk (CW.loop (fun (s : Nat × Int × Int) W => (∃ H', St w W H H' [Own.box b1 (.cells #[xx100.l.v, .int .i64 xx100.kind, .string xx100.space, .int .i64 xx100.to.kind, .string xx100.to.space, .string xx100.to.name] 45 (0, 0))] ∧ Le H10 H' ∧ 0 ≤ s.2.1 ∧ s.2.1 ≤ s.2.2 + 0) ∧ 0 ≤ s.2.2 ∧ s.2.2 ≤ (xx100.l.l.length : Int) ∧ s.1 = ((xx100.l.l.length : Int) - s.2.2).toNat ∧ m4_l0 xx100 s.1 s.2.1 s.2.2 = m4_l0 xx100 (((xx100.l.l.length : Int) - 0).toNat) 0 0) (fun (s : Nat × Int × Int) => [(1, Value.pointer (some (⟨b1, 0, none⟩ : Addr))), (3, (⟨A15, n16, m21 xx100.l.l xx100.kind xx100.space xx100.to⟩ : Sl Ref).v), (4, Value.int .i64 s.2.1), (5, Value.int .i64 s.2.2)]) (fun s => s.1) ⟨((xx100.l.l.length : Int) - 0).toNat, 0, 0⟩ ⟨⟨_, st, Le.refl _, (by first|omega|simp<;>omega)⟩, (by first|omega|simp<;>omega), (by first|omega|simp<;>omega), rfl, rfl⟩ (.cons rfl (.cons rfl (.cons rfl (.cons rfl (.nil _))))) ?_)
  rintro ⟨N29, r17, r18⟩ W23 ⟨⟨H21, st, l22, g28⟩, g73, g74, g27, e24⟩
  replace g73 : 0 ≤ r18 := g73
  replace g74 : r18 ≤ (xx100.l.l.length : Int) := g74
  replace g27 : N29 = ((xx100.l.l.length : Int) - r18).toNat := g27
  replace e24 : m4_l0 xx100 N29 r17 r18 = m4_l0 xx100 (((xx100.l.l.length : Int) - 0).toNat) 0 0 := e24
  replace g28 : 0 ≤ r17 ∧ r17 ≤ r18 + 0 := g28
  show CW _ _ _ _ [(1, Value.pointer (some (⟨b1, 0, none⟩ : Addr))), (3, (⟨A15, n16, m21 xx100.l.l xx100.kind xx100.space xx100.to⟩ : Sl Ref).v), (4, Value.int .i64 r17), (5, Value.int .i64 r18)] _
  iterate 2 refine CW.seq ?_
  refine CW.reg ?_
  refine WL.mv rfl ?_
  refine WL.pv (Pu.fa rfl fo45_0) ?_
  refine WL.pv (Pu.load rfl ty43 (AtW.block (st.own _ (.head _)).1.2) rfl) ?_
  have z30 : xx100.l.l.length ≤ 1048576 := (k6.l.le (l11.trans l22)).top
  refine WL.pv (Pu.lens (n := xx100.l.l.length) rfl sl43) ?_
  refine WL.pv (Pu.ilt rfl rfl) ?_
  refine WL.nt ?_
  refine CW.condP 24 rfl dT dF (fun h31 => ?_) (fun h31 => ?_)
  ·obtain ⟨n19, rfl⟩ : ∃ k, N29 = k + 1 := ⟨N29 - 1, by omega⟩
   refine CW.skip (QX.thenN ?_)
   refine CW.seq ?_
   refine CW.blk ?_
   iterate 2 refine CW.seq ?_
   refine CW.regS (C := Cl w H21 [Own.box b1 (.cells #[xx100.l.v, .int .i64 xx100.kind, .string xx100.space, .int .i64 xx100.to.kind, .string xx100.to.space, .string xx100.to.name] 45 (0, 0))]) (tail := []) (S := Grew w H H21 [Own.box b1 (.cells #[xx100.l.v, .int .i64 xx100.kind, .string xx100.space, .int .i64 xx100.to.kind, .string xx100.to.space, .string xx100.to.name] 45 (0, 0))]) mixed (fun W' h1 h2 h3 h4 => grew_start st h1 h2 h3 h4) (n := 13) rfl ?_
   refine WS.pk 0 rfl gg (fun W hC => Pu.fa rfl fo45_0) ?_
   refine WS.pk 1 rfl gg (fun W hC => Pu.load rfl ty43 (AtW.block (hC.2 _ (.head _)).2) rfl) ?_
   refine WS.pk 2 rfl gg (fun W hC => Pu.move rfl) ?_
   have y32 := lg_get (l := xx100.l.l) (i := r18) (by omega) (by omega)
   have k35 : Object.Ok 1048576 H21 (lg xx100.l.l r18) := ((k6.l.le (l11.trans l22)).get _ _ y32).2
   obtain ⟨ad33, qa36, f34⟩ := ((k6.l.le (l11.trans l22)).get _ _ y32).1
   refine WS.pk 3 rfl gg (fun W hC => Pu.idx0 rfl rfl sl43 (by first|omega|simp<;>omega) (by first|omega|simp<;>omega) qa36) ?_
   refine WS.pk 4 rfl gg (fun W hC => Pu.load (v := Object.v (lg xx100.l.l r18)) rfl ty32 (f34.w hC.1) rfl) ?_
   refine WS.pk 5 rfl gg (fun W hC => Pu.fa rfl fo45_1) ?_
   refine WS.pk 6 rfl gg (fun W hC => Pu.load rfl ty3 ((AtW.block (hC.2 _ (.head _)).2).drop 1) rfl) ?_
   refine WS.pk 7 rfl gg (fun W hC => Pu.fa rfl fo45_2) ?_
   refine WS.pk 8 rfl gg (fun W hC => Pu.load rfl ty9 ((AtW.block (hC.2 _ (.head _)).2).drop 2) rfl) ?_
   refine WS.pk 9 rfl gg (fun W hC => Pu.fa rfl fo45_3) ?_
   refine WS.pk 10 rfl gg (fun W hC => Pu.load (v := Ref.v xx100.to) rfl ty23 ((AtW.block (hC.2 _ (.head _)).2).drop 3) rfl) ?_
   refine WS.callv (by kernel_rfl) (.then (.then (.blk (.then (.then (.blk (.then (.then .body)))))))) 11 rfl (by kernel_rfl) (good_grew (Le.refl _) (fun _ h => h)) rfl rfl en17 rfl rfl (fun W hC => ⟨_, c17 (lg xx100.l.l r18) xx100.kind xx100.space xx100.to hC.1 k35 k6.space (k6.to.le (l11.trans l22))⟩) ?_
   refine WS.pk 12 rfl gg (fun W hC => Pu.notb rfl) ?_
   refine WS.fin (by kernel_rfl) (fun W39 H37 st l38 => ?_)
   refine QX.thenN ?_
   refine CW.condP 39 rfl mT mF (fun h40 => ?_) (fun h40 => ?_)
   ·refine CW.exit (QX.thenE (QX.hit (QX.thenN ?_)))
    refine CW.reg ?_
    refine WL.mv rfl ?_
    refine WL.pv (Pu.iadd rfl rfl (c := r18 + 1) (w64 (by omega) (by omega))) ?_
    refine WL.as rfl ?_
    refine WL.nil (QX.round ⟨n19, r17, r18 + 1⟩ ?_ (Nat.lt_succ_self _) (.cons rfl (.cons rfl (.cons rfl (.cons rfl (.nil _))))))
    exact ⟨⟨_, st, (l22.trans l38), (by first|omega|simp<;>omega)⟩, (by first|omega|simp<;>omega), (by first|omega|simp<;>omega), (by first|omega|simp<;>omega), Eq.symm ((Eq.symm e24).trans (if_neg h40))⟩
   ·refine CW.skip (QX.thenN ?_)
    refine CW.seq ?_
    refine CW.reg ?_
    refine WL.pv (Pu.fa rfl fo45_0) ?_
    refine WL.pv (Pu.load rfl ty43 (AtW.block (st.own _ (.head _)).1.2) rfl) ?_
    refine WL.mv rfl ?_
    have y41 := lg_get (l := xx100.l.l) (i := r18) (by omega) (by omega)
    have k44 : Object.Ok 1048576 H37 (lg xx100.l.l r18) := ((k6.l.le ((l11.trans l22).trans l38)).get _ _ y41).2
    refine WL.idx (s := xx100.l) rfl rfl rfl rfl sl43 (k6.l.le ((l11.trans l22).trans l38)) (by omega) y41 ?_
    intro ad42 f43
    refine WL.pv (Pu.fa rfl fo32_0) ?_
    refine WL.pv (Pu.load (v := Ref.v ((lg xx100.l.l r18).ref)) rfl ty23 ((f43.drop 0).w st.sub) rfl) ?_
    refine WL.alloco (c := #[.int .i64 0, .string (⟨#[]⟩ : ByteArray), .string (⟨#[]⟩ : ByteArray)]) rfl rfl ze23 rfl st ?_
    intro b45 W46 st
    refine WL.store (o := 0) (c' := [.int .i64 (((lg xx100.l.l r18).ref).kind), .string (((lg xx100.l.l r18).ref).space), .string (((lg xx100.l.l r18).ref).name)]) rfl rfl rfl rfl ty23 rfl (Enc.one (α := Ref) _) rfl rfl st ?_
    intro W47 st
    obtain ⟨H48, st, l49, f50⟩ := st.keepbox
    refine WL.nt ?_
    iterate 2 refine CW.seq ?_
    refine CW.regS (C := Cl w H48 [Own.box b1 (.cells #[xx100.l.v, .int .i64 xx100.kind, .string xx100.space, .int .i64 xx100.to.kind, .string xx100.to.space, .string xx100.to.name] 45 (0, 0))]) (tail := []) (S := Grew w H H48 [Own.box b1 (.cells #[xx100.l.v, .int .i64 xx100.kind, .string xx100.space, .int .i64 xx100.to.kind, .string xx100.to.space, .string xx100.to.name] 45 (0, 0))]) mixed (fun W' h1 h2 h3 h4 => grew_start st h1 h2 h3 h4) (n := 25) rfl ?_
    refine WS.pk 0 rfl gg (fun W hC => Pu.move rfl) ?_
    refine WS.pk 1 rfl gg (fun W hC => Pu.move rfl) ?_
    have z51 : (m21 xx100.l.l xx100.kind xx100.space xx100.to).length ≤ 1048576 := (k13.le ((l22.trans l38).trans l49)).top
    refine WS.pk 2 rfl gg (fun W hC => Pu.lens (n := (m21 xx100.l.l xx100.kind xx100.space xx100.to).length) rfl sl47) ?_
    refine WS.pk 3 rfl gg (fun W hC => Pu.ige rfl rfl) ?_
    refine WS.pk 4 rfl gg (fun W hC => Pu.move rfl) ?_
    refine WS.split 50 rfl dT dF (fun h52 => ?_) (fun h52 => ?_)
    ·refine WS.ok 5 rfl gg ?_
     refine WS.ok 6 rfl gg ?_
     refine WS.ok 7 rfl gg ?_
     refine WS.ok 8 rfl gg ?_
     refine WS.ok 9 rfl gg ?_
     refine WS.ok 10 rfl gg ?_
     refine WS.pk 11 rfl gg (fun W hC => Pu.pickT rfl rfl) ?_
     refine WS.pk 12 rfl gg (fun W hC => Pu.move rfl) ?_
     refine WS.ok 13 rfl gg ?_
     refine WS.ok 14 rfl gg ?_
     refine WS.ok 15 rfl gg ?_
     refine WS.pk 16 rfl gg (fun W hC => Pu.pickT rfl rfl) ?_
     refine WS.pk 17 rfl gg (fun W hC => Pu.move rfl) ?_
     refine WS.ok 18 rfl gg ?_
     refine WS.ok 19 rfl gg ?_
     refine WS.ok 20 rfl gg ?_
     refine WS.ok 21 rfl gg ?_
     refine WS.ok 22 rfl gg ?_
     refine WS.ok 23 rfl gg ?_
     refine WS.pk 24 rfl gg (fun W hC => Pu.pickT rfl rfl) ?_
     refine WS.fin (by kernel_rfl) (fun W55 H53 st l54 => ?_)
     refine QX.thenN ?_
     refine CW.condT rfl ?_
     refine CW.seq ?_
     refine CW.reg ?_
     refine WL.as rfl ?_
     refine WL.nt ?_
     refine CW.ret (QX.thenR (QX.blkR (QX.thenR (QX.thenR (QX.blkR (QX.thenR (QX.thenR (finA Tryz.results4 st (.tmp rfl .nil) ?_))))))))
     exact ⟨xx100, congrArg (fun z => Value.bool z) (Eq.symm (lk_inl ((Eq.symm e24).trans ((if_pos h40).trans (if_pos h52)))))⟩
    ·refine WS.pk 5 rfl gg (fun W hC => Pu.move rfl) ?_
     refine WS.pk 6 rfl gg (fun W hC => Pu.move rfl) ?_
     have y56 := lg_get (l := m21 xx100.l.l xx100.kind xx100.space xx100.to) (i := r17) (by omega) (by omega)
     have k59 : Ref.Ok 1048576 H48 (lg (m21 xx100.l.l xx100.kind xx100.space xx100.to) r17) := ((k13.le ((l22.trans l38).trans l49)).get _ _ y56).2
     obtain ⟨ad57, qa60, f58⟩ := ((k13.le ((l22.trans l38).trans l49)).get _ _ y56).1
     refine WS.pk 7 rfl gg (fun W hC => Pu.idx0 rfl rfl sl47 (by first|omega|simp<;>omega) (by first|omega|simp<;>omega) qa60) ?_
     refine WS.pk 8 rfl gg (fun W hC => Pu.load (v := Ref.v (lg (m21 xx100.l.l xx100.kind xx100.space xx100.to) r17)) rfl ty23 (f58.w hC.1) rfl) ?_
     refine WS.pk 9 rfl gg (fun W hC => Pu.load (v := Ref.v ((lg xx100.l.l r18).ref)) rfl ty23 (f50.w hC.1) rfl) ?_
     refine WS.pk 10 rfl gg (fun W hC => Pu.bin rfl rfl (eqg23 _ (lg (m21 xx100.l.l xx100.kind xx100.space xx100.to) r17) ((lg xx100.l.l r18).ref)) (ne23 (lg (m21 xx100.l.l xx100.kind xx100.space xx100.to) r17) ((lg xx100.l.l r18).ref))) ?_
     refine WS.pk 11 rfl gg (fun W hC => Pu.pickF rfl rfl) ?_
     refine WS.pk 12 rfl gg (fun W hC => Pu.move rfl) ?_
     refine WS.split 58 rfl nT nF (fun h61 => ?_) (fun h61 => ?_)
     ·refine WS.ok 13 rfl gg ?_
      refine WS.ok 14 rfl gg ?_
      refine WS.ok 15 rfl gg ?_
      refine WS.pk 16 rfl gg (fun W hC => Pu.pickT rfl rfl) ?_
      refine WS.pk 17 rfl gg (fun W hC => Pu.move rfl) ?_
      refine WS.ok 18 rfl gg ?_
      refine WS.ok 19 rfl gg ?_
      refine WS.ok 20 rfl gg ?_
      refine WS.ok 21 rfl gg ?_
      refine WS.ok 22 rfl gg ?_
      refine WS.ok 23 rfl gg ?_
      refine WS.pk 24 rfl gg (fun W hC => Pu.pickT rfl rfl) ?_
      refine WS.fin (by kernel_rfl) (fun W64 H62 st l63 => ?_)
      refine QX.thenN ?_
      refine CW.condT rfl ?_
      refine CW.seq ?_
      refine CW.reg ?_
      refine WL.as rfl ?_
      refine WL.nt ?_
      refine CW.ret (QX.thenR (QX.blkR (QX.thenR (QX.thenR (QX.blkR (QX.thenR (QX.thenR (finA Tryz.results4 st (.tmp rfl .nil) ?_))))))))
      exact ⟨xx100, congrArg (fun z => Value.bool z) (Eq.symm (lk_inl ((Eq.symm e24).trans ((if_pos h40).trans ((if_neg h52).trans (if_neg h61))))))⟩
     ·refine WS.pk 13 rfl gg (fun W hC => Pu.fa rfl fo23_0) ?_
      refine WS.pk 14 rfl gg (fun W hC => Pu.load rfl ty3 ((f50.drop 0).w hC.1) rfl) ?_
      refine WS.pk 15 rfl gg (fun W hC => Pu.ine rfl rfl) ?_
      refine WS.pk 16 rfl gg (fun W hC => Pu.pickF rfl rfl) ?_
      refine WS.pk 17 rfl gg (fun W hC => Pu.move rfl) ?_
      refine WS.split 63 rfl nT nF (fun h65 => ?_) (fun h65 => ?_)
      ·refine WS.ok 18 rfl gg ?_
       refine WS.ok 19 rfl gg ?_
       refine WS.ok 20 rfl gg ?_
       refine WS.ok 21 rfl gg ?_
       refine WS.ok 22 rfl gg ?_
       refine WS.ok 23 rfl gg ?_
       refine WS.pk 24 rfl gg (fun W hC => Pu.pickT rfl rfl) ?_
       refine WS.fin (by kernel_rfl) (fun W68 H66 st l67 => ?_)
       refine QX.thenN ?_
       refine CW.condT rfl ?_
       refine CW.seq ?_
       refine CW.reg ?_
       refine WL.as rfl ?_
       refine WL.nt ?_
       refine CW.ret (QX.thenR (QX.blkR (QX.thenR (QX.thenR (QX.blkR (QX.thenR (QX.thenR (finA Tryz.results4 st (.tmp rfl .nil) ?_))))))))
       exact ⟨xx100, congrArg (fun z => Value.bool z) (Eq.symm (lk_inl ((Eq.symm e24).trans ((if_pos h40).trans ((if_neg h52).trans ((if_pos h61).trans (if_neg h65)))))))⟩
      ·refine WS.pk 18 rfl gg (fun W hC => Pu.fa rfl fo23_1) ?_
       refine WS.pk 19 rfl gg (fun W hC => Pu.load rfl ty9 ((f50.drop 1).w hC.1) rfl) ?_
       refine WS.pk 20 rfl gg (fun W hC => Pu.fa rfl fo45_3) ?_
       refine WS.pk 21 rfl gg (fun W hC => Pu.fa rfl fo23_1) ?_
       refine WS.pk 22 rfl gg (fun W hC => Pu.load rfl ty9 ((AtW.block (hC.2 _ (.head _)).2).drop 4) rfl) ?_
       refine WS.pk 23 rfl gg (fun W hC => Pu.sne rfl rfl) ?_
       refine WS.pk 24 rfl gg (fun W hC => Pu.pickF rfl rfl) ?_
       refine WS.fin (by kernel_rfl) (fun W71 H69 st l70 => ?_)
       refine QX.thenN ?_
       refine CW.condP 70 rfl nT nF (fun h72 => ?_) (fun h72 => ?_)
       ·refine CW.seq ?_
        refine CW.reg ?_
        refine WL.as rfl ?_
        refine WL.nt ?_
        refine CW.ret (QX.thenR (QX.blkR (QX.thenR (QX.thenR (QX.blkR (QX.thenR (QX.thenR (finA Tryz.results4 st (.tmp rfl .nil) ?_))))))))
        exact ⟨xx100, congrArg (fun z => Value.bool z) (Eq.symm (lk_inl ((Eq.symm e24).trans ((if_pos h40).trans ((if_neg h52).trans ((if_pos h61).trans ((if_pos h65).trans (if_neg h72))))))))⟩
       ·refine CW.skip (QX.thenN ?_)
        refine CW.reg ?_
        refine WL.mv rfl ?_
        refine WL.pv (Pu.iadd rfl rfl (c := r17 + 1) (w64 (by omega) (by omega))) ?_
        refine WL.as rfl ?_
        refine WL.nil (QX.blkN (QX.thenN ?_))
        refine CW.reg ?_
        refine WL.mv rfl ?_
        refine WL.pv (Pu.iadd rfl rfl (c := r18 + 1) (w64 (by omega) (by omega))) ?_
        refine WL.as rfl ?_
        refine WL.nil (QX.round ⟨n19, r17 + 1, r18 + 1⟩ ?_ (Nat.lt_succ_self _) (.cons rfl (.cons rfl (.cons rfl (.cons rfl (.nil _))))))
        exact ⟨⟨_, st, (((l22.trans l38).trans l49).trans l70), (by first|omega|simp<;>omega)⟩, (by first|omega|simp<;>omega), (by first|omega|simp<;>omega), (by first|omega|simp<;>omega), Eq.symm ((Eq.symm e24).trans ((if_pos h40).trans ((if_neg h52).trans ((if_pos h61).trans ((if_pos h65).trans (if_pos h72))))))⟩
  ·obtain rfl : N29 = 0 := by omega
   refine CW.exit (QX.thenE (QX.thenE (QX.hit (QX.meets r17 ?_ (.cons rfl (.cons rfl (.cons rfl (.nil _))))))))
   exact ⟨⟨_, st, l22, (by first|omega|simp<;>omega)⟩, Eq.symm e24⟩
 rintro r20 W77 ⟨⟨H75, st, l76, g79⟩, e78⟩
 replace st : St w _ _ _ [Own.box b1 (.cells #[xx100.l.v, .int .i64 xx100.kind, .string xx100.space, .int .i64 xx100.to.kind, .string xx100.to.space, .string xx100.to.name] 45 (0, 0))] := st
 replace g79 : 0 ≤ r20 ∧ r20 ≤ ((xx100.l.l.length : Int)) + 0 := g79
 replace e78 : m4_l0 xx100 (((xx100.l.l.length : Int) - 0).toNat) 0 0 = .inr r20 := e78
 show QX _ _ _ [(1, Value.pointer (some (⟨b1, 0, none⟩ : Addr))), (3, (⟨A15, n16, m21 xx100.l.l xx100.kind xx100.space xx100.to⟩ : Sl Ref).v), (4, Value.int .i64 r20)] _
 refine QX.thenN ?_
 refine CW.seq ?_
 refine CW.reg ?_
 refine WL.as rfl ?_
 refine WL.nt ?_
 iterate 2 refine CW.seq ?_
 refine CW.reg ?_
 refine WL.pv (Pu.fa rfl fo45_0) ?_
 refine WL.pv (Pu.load rfl ty43 (AtW.block (st.own _ (.head _)).1.2) rfl) ?_
 have z80 : xx100.l.l.length ≤ 1048576 := (k6.l.le (l11.trans l76)).top
 refine WL.pv (Pu.lens (n := xx100.l.l.length) rfl sl43) ?_
 refine WL.pv (Pu.isub rfl rfl (c := (xx100.l.l.length : Int) - 1) (w64 (by omega) (by omega))) ?_
 refine WL.as rfl ?_
 refine WL.nt ?_
 replace st := st.rownilS (α := Object) 32
 refine (CW.cuts (fun (s : (List Object) × Value) W => (∃ H', St w W H H' [rowS (α := Object) s.2 32 s.1, Own.box b1 (.cells #[xx100.l.v, .int .i64 xx100.kind, .string xx100.space, .int .i64 xx100.to.kind, .string xx100.to.space, .string xx100.to.name] 45 (0, 0))] ∧ Le H75 H' ∧ OkL 1048576 H' s.1 ∧ (s.1.length : Int) + ((0 - 1)) ≤ ((xx100.l.l.length : Int) - 1)) ∧ m4_l1 xx100 ((((xx100.l.l.length : Int) - 1) + 1).toNat) ([] : List Object) ((xx100.l.l.length : Int) - 1) = s.1) (fun (s : (List Object) × Value) => [(1, Value.pointer (some (⟨b1, 0, none⟩ : Addr))), (3, (⟨A15, n16, m21 xx100.l.l xx100.kind xx100.space xx100.to⟩ : Sl Ref).v), (4, Value.int .i64 r20), (7, s.2)]) ?_ ?_)
 ·refine CW.blk (CW.loop (fun (s : Nat × (List Object) × Int × Value) W => (∃ H', St w W H H' [rowS (α := Object) s.2.2.2 32 s.2.1, Own.box b1 (.cells #[xx100.l.v, .int .i64 xx100.kind, .string xx100.space, .int .i64 xx100.to.kind, .string xx100.to.space, .string xx100.to.name] 45 (0, 0))] ∧ Le H75 H' ∧ OkL 1048576 H' s.2.1 ∧ (s.2.1.length : Int) + s.2.2.1 ≤ ((xx100.l.l.length : Int) - 1)) ∧ s.2.2.1 ≤ ((xx100.l.l.length : Int) - 1) ∧ 0 - 1 ≤ s.2.2.1 ∧ s.1 = (s.2.2.1 + 1).toNat ∧ m4_l1 xx100 s.1 s.2.1 s.2.2.1 = m4_l1 xx100 ((((xx100.l.l.length : Int) - 1) + 1).toNat) ([] : List Object) ((xx100.l.l.length : Int) - 1)) (fun (s : Nat × (List Object) × Int × Value) => [(1, Value.pointer (some (⟨b1, 0, none⟩ : Addr))), (3, (⟨A15, n16, m21 xx100.l.l xx100.kind xx100.space xx100.to⟩ : Sl Ref).v), (4, Value.int .i64 r20), (7, s.2.2.2), (8, Value.int .i64 s.2.2.1)]) (fun s => s.1) ⟨(((xx100.l.l.length : Int) - 1) + 1).toNat, ([] : List Object), (xx100.l.l.length : Int) - 1, (.slice none 0 0)⟩ ⟨⟨_, st, Le.refl _, OkL.nil, (by first|omega|simp<;>omega)⟩, (by first|omega|simp<;>omega), (by first|omega|simp<;>omega), rfl, rfl⟩ (.cons rfl (.cons rfl (.cons rfl (.cons rfl (.cons rfl (.nil _)))))) ?_)
  rintro ⟨N96, r81, r83, v82⟩ W89 ⟨⟨H87, st, l88, k94, g95⟩, g111, g112, g93, e90⟩
  replace g111 : r83 ≤ ((xx100.l.l.length : Int) - 1) := g111
  replace g112 : 0 - 1 ≤ r83 := g112
  replace g93 : N96 = (r83 + 1).toNat := g93
  replace e90 : m4_l1 xx100 N96 r81 r83 = m4_l1 xx100 ((((xx100.l.l.length : Int) - 1) + 1).toNat) ([] : List Object) ((xx100.l.l.length : Int) - 1) := e90
  obtain ⟨v82A, v82m, v82c, rfl⟩ := row_form st (.head _)
  replace st : St w _ _ _ [rowS (α := Object) (.slice v82A v82m v82c) 32 r81, Own.box b1 (.cells #[xx100.l.v, .int .i64 xx100.kind, .string xx100.space, .int .i64 xx100.to.kind, .string xx100.to.space, .string xx100.to.name] 45 (0, 0))] := st
  replace k94 : OkL 1048576 H87 r81 := k94
  replace g95 : (r81.length : Int) + r83 ≤ ((xx100.l.l.length : Int) - 1) := g95
  show CW _ _ _ _ [(1, Value.pointer (some (⟨b1, 0, none⟩ : Addr))), (3, (⟨A15, n16, m21 xx100.l.l xx100.kind xx100.space xx100.to⟩ : Sl Ref).v), (4, Value.int .i64 r20), (7, (.slice v82A v82m v82c)), (8, Value.int .i64 r83)] _
  iterate 2 refine CW.seq ?_
  refine CW.reg ?_
  refine WL.mv rfl ?_
  refine WL.pv (Pu.ige rfl rfl) ?_
  refine WL.nt ?_
  refine CW.condP 78 rfl dT dF (fun h97 => ?_) (fun h97 => ?_)
  ·obtain ⟨n84, rfl⟩ : ∃ k, N96 = k + 1 := ⟨N96 - 1, by omega⟩
   refine CW.skip (QX.thenN ?_)
   refine CW.seq ?_
   refine CW.blk ?_
   refine CW.reg ?_
   refine WL.mv rfl ?_
   refine WL.pv (Pu.fa rfl fo45_0) ?_
   refine WL.pv (Pu.load rfl ty43 (AtW.block (st.own _ (.tail _ (.head _))).1.2) rfl) ?_
   refine WL.mv rfl ?_
   have y98 := lg_get (l := xx100.l.l) (i := r83) (by omega) (by omega)
   have k101 : Object.Ok 1048576 H87 (lg xx100.l.l r83) := ((k6.l.le ((l11.trans l76).trans l88)).get _ _ y98).2
   refine WL.idx (s := xx100.l) rfl rfl rfl rfl sl43 (k6.l.le ((l11.trans l76).trans l88)) (by omega) y98 ?_
   intro ad99 f100
   refine WL.pv (Pu.load (v := Object.v (lg xx100.l.l r83)) rfl ty32 (f100.w st.sub) rfl) ?_
   refine WL.lit (M := 1048576) ([lg xx100.l.l r83] : List Object) rfl rfl ap43 rfl rfl rfl rfl rfl rfl rfl rfl rfl (by decide) (OkL.cons k101 OkL.nil) st ?_
   intro b103 W102 H104 st l105 k106
   refine WL.appS (s2 := (⟨some ⟨b103, 0, none⟩, 1, ([lg xx100.l.l r83] : List Object)⟩ : Sl Object)) rfl rfl ap43 rfl rfl rfl rfl rfl k106 (by first|omega|simp<;>omega) (by first|omega|simp<;>omega) st ?_
   intro A107 mm108 n109 W110 st
   refine WL.as rfl ?_
   refine WL.nil (QX.blkN (QX.thenN ?_))
   refine CW.reg ?_
   refine WL.mv rfl ?_
   refine WL.pv (Pu.isub rfl rfl (c := r83 - 1) (w64 (by omega) (by omega))) ?_
   refine WL.as rfl ?_
   refine WL.nil (QX.round ⟨n84, r81 ++ ([lg xx100.l.l r83] : List Object), r83 - 1, (.slice A107 mm108 n109)⟩ ?_ (Nat.lt_succ_self _) (.cons rfl (.cons rfl (.cons rfl (.cons rfl (.cons rfl (.nil _)))))))
   exact ⟨⟨_, st, (l88.trans l105), (OkL.app (k94.le l105) (OkL.cons (k101.le l105) OkL.nil)), (by first|omega|simp<;>omega)⟩, (by first|omega|simp<;>omega), (by first|omega|simp<;>omega), (by first|omega|simp<;>omega), Eq.symm (Eq.symm e90)⟩
  ·obtain rfl : N96 = 0 := by omega
   refine CW.exit (QX.thenE (QX.thenE (QX.hit (QX.meets ⟨r81, (.slice v82A v82m v82c)⟩ ?_ (.cons rfl (.cons rfl (.cons rfl (.cons rfl (.nil _)))))))))
   exact ⟨⟨_, st, l88, k94, (by first|omega|simp<;>omega)⟩, Eq.symm e90⟩
 rintro ⟨r85, v86⟩ W115 ⟨⟨H113, st, l114, k117, g118⟩, e116⟩
 obtain ⟨v86A, v86m, v86c, rfl⟩ := row_form st (.head _)
 replace st : St w _ _ _ [rowS (α := Object) (.slice v86A v86m v86c) 32 r85, Own.box b1 (.cells #[xx100.l.v, .int .i64 xx100.kind, .string xx100.space, .int .i64 xx100.to.kind, .string xx100.to.space, .string xx100.to.name] 45 (0, 0))] := st
 replace k117 : OkL 1048576 H113 r85 := k117
 replace g118 : (r85.length : Int) + ((0 - 1)) ≤ ((xx100.l.l.length : Int) - 1) := g118
 replace e116 : m4_l1 xx100 ((((xx100.l.l.length : Int) - 1) + 1).toNat) ([] : List Object) ((xx100.l.l.length : Int) - 1) = r85 := e116
 show QX _ _ _ [(1, Value.pointer (some (⟨b1, 0, none⟩ : Addr))), (3, (⟨A15, n16, m21 xx100.l.l xx100.kind xx100.space xx100.to⟩ : Sl Ref).v), (4, Value.int .i64 r20), (7, (.slice v86A v86m v86c))] _
 refine QX.thenN ?_
 refine CW.seq ?_
 obtain ⟨H121, st', l122, rfl, k123⟩ := st.settle (M := 1048576) k117 (by first|omega|simp<;>omega)
 have st := st'
 refine CW.regS (C := Cl w H121 [Own.box b1 (.cells #[xx100.l.v, .int .i64 xx100.kind, .string xx100.space, .int .i64 xx100.to.kind, .string xx100.to.space, .string xx100.to.name] 45 (0, 0))]) (tail := []) (S := Grew w H H121 [Own.box b1 (.cells #[xx100.l.v, .int .i64 xx100.kind, .string xx100.space, .int .i64 xx100.to.kind, .string xx100.to.space, .string xx100.to.name] 45 (0, 0))]) mixed (fun W' h1 h2 h3 h4 => grew_start st h1 h2 h3 h4) (n := 28) rfl ?_
 refine WS.pk 0 rfl gg (fun W hC => Pu.move rfl) ?_
 refine WS.pk 1 rfl gg (fun W hC => Pu.move rfl) ?_
 have z124 : (m21 xx100.l.l xx100.kind xx100.space xx100.to).length ≤ 1048576 := (k13.le ((l76.trans l114).trans l122)).top
 refine WS.pk 2 rfl gg (fun W hC => Pu.lens (n := (m21 xx100.l.l xx100.kind xx100.space xx100.to).length) rfl sl47) ?_
 refine WS.pk 3 rfl gg (fun W hC => Pu.ieq rfl rfl) ?_
 refine WS.pk 4 rfl gg (fun W hC => Pu.move rfl) ?_
 refine WS.split 93 rfl dT dF (fun h125 => ?_) (fun h125 => ?_)
 ·refine WS.pk 5 rfl gg (fun W hC => Pu.move rfl) ?_
  refine WS.pk 6 rfl gg (fun W hC => Pu.fa rfl fo45_1) ?_
  refine WS.pk 7 rfl gg (fun W hC => Pu.load rfl ty3 ((AtW.block (hC.2 _ (.head _)).2).drop 1) rfl) ?_
  refine WS.pk 8 rfl gg (fun W hC => Pu.fa rfl fo45_2) ?_
  refine WS.pk 9 rfl gg (fun W hC => Pu.load rfl ty9 ((AtW.block (hC.2 _ (.head _)).2).drop 2) rfl) ?_
  refine WS.pk 10 rfl gg (fun W hC => Pu.fa rfl fo45_3) ?_
  refine WS.pk 11 rfl gg (fun W hC => Pu.load (v := Ref.v xx100.to) rfl ty23 ((AtW.block (hC.2 _ (.head _)).2).drop 3) rfl) ?_
  refine WS.callv (by kernel_rfl) (.then .body) 12 rfl (by kernel_rfl) (good_grew (Le.refl _) (fun _ h => h)) rfl rfl en22 rfl rfl (fun W hC => ⟨_, c22 (⟨v86A, v86c, r85⟩ : Sl Object) xx100.kind xx100.space xx100.to hC.1 k123 k6.space (k6.to.le (((l11.trans l76).trans l114).trans l122))⟩) ?_
  refine WS.pk 13 rfl gg (fun W hC => Pu.fa rfl fo45_0) ?_
  refine WS.pk 14 rfl gg (fun W hC => Pu.load rfl ty43 (AtW.block (hC.2 _ (.head _)).2) rfl) ?_
  refine WS.pk 15 rfl gg (fun W hC => Pu.fa rfl fo45_1) ?_
  refine WS.pk 16 rfl gg (fun W hC => Pu.load rfl ty3 ((AtW.block (hC.2 _ (.head _)).2).drop 1) rfl) ?_
  refine WS.pk 17 rfl gg (fun W hC => Pu.fa rfl fo45_2) ?_
  refine WS.pk 18 rfl gg (fun W hC => Pu.load rfl ty9 ((AtW.block (hC.2 _ (.head _)).2).drop 2) rfl) ?_
  refine WS.pk 19 rfl gg (fun W hC => Pu.fa rfl fo45_3) ?_
  refine WS.pk 20 rfl gg (fun W hC => Pu.load (v := Ref.v xx100.to) rfl ty23 ((AtW.block (hC.2 _ (.head _)).2).drop 3) rfl) ?_
  refine WS.callv (by kernel_rfl) (.then .body) 21 rfl (by kernel_rfl) (good_grew (Le.refl _) (fun _ h => h)) rfl rfl en22 rfl rfl (fun W hC => ⟨_, c22 xx100.l xx100.kind xx100.space xx100.to hC.1 (k6.l.le (((l11.trans l76).trans l114).trans l122)) k6.space (k6.to.le (((l11.trans l76).trans l114).trans l122))⟩) ?_
  refine WS.pk 22 rfl gg (fun W hC => Pu.beq rfl rfl Tryz.underlying4) ?_
  refine WS.pk 23 rfl gg (fun W hC => Pu.pickT rfl rfl) ?_
  refine WS.pk 24 rfl gg (fun W hC => Pu.move rfl) ?_
  refine WS.split 113 rfl rT rF (fun h126 => ?_) (fun h126 => ?_)
  ·refine WS.callv (by kernel_rfl) (.then .body) 25 rfl (by kernel_rfl) (good_grew (Le.refl _) (fun _ h => h)) rfl rfl en19 rfl rfl (fun W hC => ⟨_, c19  hC.1 ⟩) ?_
   refine WS.pk 26 rfl gg (fun W hC => Pu.pickT rfl rfl) ?_
   refine WS.pk 27 rfl gg (fun W hC => Pu.assign rfl) ?_
   refine WS.fin (by kernel_rfl) (fun W129 H127 st l128 => ?_)
   refine QX.thenN ?_
   refine CW.ret (finA Tryz.results4 st (.tmp rfl .nil) ?_)
   exact ⟨xx100, congrArg (fun z => Value.bool z) (Eq.symm ((lk_inr e78).trans ((lk1_eq e116).trans ((if_pos h125).trans (if_pos h126)))))⟩
  ·refine WS.ok 25 rfl gg ?_
   refine WS.pk 26 rfl gg (fun W hC => Pu.pickF rfl rfl) ?_
   refine WS.pk 27 rfl gg (fun W hC => Pu.assign rfl) ?_
   refine WS.fin (by kernel_rfl) (fun W132 H130 st l131 => ?_)
   refine QX.thenN ?_
   refine CW.ret (finA Tryz.results4 st (.tmp rfl .nil) ?_)
   exact ⟨xx100, congrArg (fun z => Value.bool z) (Eq.symm ((lk_inr e78).trans ((lk1_eq e116).trans ((if_pos h125).trans (if_neg h126)))))⟩
 ·refine WS.ok 5 rfl gg ?_
  refine WS.ok 6 rfl gg ?_
  refine WS.ok 7 rfl gg ?_
  refine WS.ok 8 rfl gg ?_
  refine WS.ok 9 rfl gg ?_
  refine WS.ok 10 rfl gg ?_
  refine WS.ok 11 rfl gg ?_
  refine WS.ok 12 rfl gg ?_
  refine WS.ok 13 rfl gg ?_
  refine WS.ok 14 rfl gg ?_
  refine WS.ok 15 rfl gg ?_
  refine WS.ok 16 rfl gg ?_
  refine WS.ok 17 rfl gg ?_
  refine WS.ok 18 rfl gg ?_
  refine WS.ok 19 rfl gg ?_
  refine WS.ok 20 rfl gg ?_
  refine WS.ok 21 rfl gg ?_
  refine WS.ok 22 rfl gg ?_
  refine WS.pk 23 rfl gg (fun W hC => Pu.pickF rfl rfl) ?_
  refine WS.pk 24 rfl gg (fun W hC => Pu.move rfl) ?_
  refine WS.ok 25 rfl gg ?_
  refine WS.pk 26 rfl gg (fun W hC => Pu.pickF rfl rfl) ?_
  refine WS.pk 27 rfl gg (fun W hC => Pu.assign rfl) ?_
  refine WS.fin (by kernel_rfl) (fun W135 H133 st l134 => ?_)
  refine QX.thenN ?_
  refine CW.ret (finA Tryz.results4 st (.tmp rfl .nil) ?_)
  exact ⟨xx100, congrArg (fun z => Value.bool z) (Eq.symm ((lk_inr e78).trans ((lk1_eq e116).trans (if_neg h125))))⟩
end Go.Proofs.TB
