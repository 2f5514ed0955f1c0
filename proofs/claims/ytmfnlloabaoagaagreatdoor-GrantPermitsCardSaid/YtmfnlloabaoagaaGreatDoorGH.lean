import Derived.Test.YtmfnlloabaoagaaGreatDoorTL
import Derived.Test.YtmfnlloabaoagaaGreatDoorTT
import Derived.Test.YtmfnlloabaoagaaGreatDoorGD
import Derived.Test.YtmfnlloabaoagaaGreatDoorTP
import Derived.Test.YtmfnlloabaoagaaGreatDoorProg
import Derived.KernelRfl
set_option linter.unusedVariables false
set_option maxRecDepth 100000
namespace Go.Proofs.TB
open Go.RowKit
theorem sl43 : slOf Tryz.prog 43 = some 13 := by kernel_rfl
theorem en19 : En Tryz.prog 19 := En.of Tryz.func19 (by kernel_rfl) rfl
theorem en88 : En Tryz.prog 88 := En.of Tryz.func88 (by kernel_rfl) rfl
theorem ap43 : apOf Tryz.prog 43 = some (32, .agg #[.int .i64 0, .string ⟨#[]⟩, .string ⟨#[]⟩, .bool false, .slice none 0 0, .slice none 0 0, .string ⟨#[]⟩, .slice none 0 0, .slice none 0 0, .slice none 0 0, .slice none 0 0, .slice none 0 0, .slice none 0 0], 13, 256) := by kernel_rfl
/-! toll tolllaw11.service -/
def m88 (a0 : ByteArray) (a1 : ByteArray) : Ref :=
 (⟨3, a0, a1⟩ : Ref)
theorem c88 (a0 : ByteArray) (a1 : ByteArray) {w : World} {H : PH} (hs : Sub H w) (k0p : a0.size < 1048576) (k1p : a1.size < 1048576) : Spec Tryz.prog 88 [.string a0, .string a1].toArray w H (fun H' v => ∃ (x0 : Ref), v = Ref.v x0 ∧ Ref.Ok 1048576 H' x0 ∧ x0 = m88 a0 a1) := by
 refine Spec.enter Tryz.func88 rfl Tryz.ntmps88 rfl ?_
 have st := St.start hs
 refine CW.seq (CW.reg ?_)
 refine WL.alloco (c := #[.int .i64 0, .string (⟨#[]⟩ : ByteArray), .string (⟨#[]⟩ : ByteArray)]) rfl rfl ze23 rfl st ?_
 intro b1 W2 st
 refine WL.nt (CW.seq (CW.reg (WL.mv rfl (WL.mv rfl (WL.pv (Pu.buildL (cs := Ref.c (⟨3, a0, a1⟩ : Ref)) st23 rfl rfl rfl) ?_)))))
 refine WL.store (o := 0) (c' := [.int .i64 3, .string a0, .string a1]) rfl rfl rfl rfl ty23 rfl (Enc.one (α := Ref) _) rfl rfl st ?_
 intro W3 st
 refine WL.nt ?_
 refine CW.ret (fun a ha => finR Tryz.results88 st (.cell (v := Ref.v (⟨3, a0, a1⟩ : Ref)) rfl ty23 (AtW.block (st.own _ (.head _)).1.2) rfl .nil) ?_ ha)
 exact ⟨(⟨3, a0, a1⟩ : Ref), rfl, ⟨k0p, k1p⟩, Eq.symm rfl⟩
/-! toll tolllaw11.awake -/
def m19  : Bool :=
 if (m22 ([(⟨(⟨7, (⟨#[97, 112, 112]⟩ : ByteArray), (⟨#[103]⟩ : ByteArray)⟩ : Ref), false, (Sl.nil : Sl Pair), (Sl.nil : Sl Int), (⟨#[]⟩ : ByteArray), (Sl.nil : Sl Listener), (Sl.nil : Sl Parent), (Sl.nil : Sl ByteArray), (Sl.nil : Sl Rule), (⟨none, 0, ([(⟨6, (⟨#[119, 101, 98]⟩ : ByteArray), (⟨#[]⟩ : ByteArray)⟩ : Side)] : List Side)⟩ : Sl Side), (⟨none, 0, ([(⟨3, (⟨#[]⟩ : ByteArray), (⟨#[97, 112, 105]⟩ : ByteArray)⟩ : Side)] : List Side)⟩ : Sl Side)⟩ : Object)] : List Object) 6 (⟨#[119, 101, 98]⟩ : ByteArray) (m88 (⟨#[97, 112, 112]⟩ : ByteArray) (⟨#[97, 112, 105]⟩ : ByteArray))) = true then (if (m22 ([(⟨(⟨7, (⟨#[97, 112, 112]⟩ : ByteArray), (⟨#[103]⟩ : ByteArray)⟩ : Ref), false, (Sl.nil : Sl Pair), (Sl.nil : Sl Int), (⟨#[]⟩ : ByteArray), (Sl.nil : Sl Listener), (Sl.nil : Sl Parent), (Sl.nil : Sl ByteArray), (Sl.nil : Sl Rule), (⟨none, 0, ([(⟨6, (⟨#[119, 101, 98]⟩ : ByteArray), (⟨#[]⟩ : ByteArray)⟩ : Side)] : List Side)⟩ : Sl Side), (⟨none, 0, ([(⟨3, (⟨#[]⟩ : ByteArray), (⟨#[97, 112, 105]⟩ : ByteArray)⟩ : Side)] : List Side)⟩ : Sl Side)⟩ : Object)] : List Object) 6 (⟨#[119, 101, 98]⟩ : ByteArray) (m88 (⟨#[97, 112, 112]⟩ : ByteArray) (⟨#[100, 98]⟩ : ByteArray))) = true then false else !(m22 ([(⟨(⟨7, (⟨#[97, 112, 112]⟩ : ByteArray), (⟨#[103]⟩ : ByteArray)⟩ : Ref), false, (Sl.nil : Sl Pair), (Sl.nil : Sl Int), (⟨#[]⟩ : ByteArray), (Sl.nil : Sl Listener), (Sl.nil : Sl Parent), (Sl.nil : Sl ByteArray), (Sl.nil : Sl Rule), (⟨none, 0, ([(⟨6, (⟨#[119, 101, 98]⟩ : ByteArray), (⟨#[]⟩ : ByteArray)⟩ : Side)] : List Side)⟩ : Sl Side), (⟨none, 0, ([(⟨3, (⟨#[]⟩ : ByteArray), (⟨#[97, 112, 105]⟩ : ByteArray)⟩ : Side)] : List Side)⟩ : Sl Side)⟩ : Object)] : List Object) 6 (⟨#[111, 112, 115]⟩ : ByteArray) (m88 (⟨#[97, 112, 112]⟩ : ByteArray) (⟨#[97, 112, 105]⟩ : ByteArray)))) else false
theorem c19  {w : World} {H : PH} (hs : Sub H w)  : Spec Tryz.prog 19 [].toArray w H (fun _ v => v = .bool (m19)) := by
 refine Spec.enter Tryz.func19 rfl Tryz.ntmps19 rfl ?_
 have st := St.start hs
 refine CW.seq (CW.reg (WL.as rfl (WL.nt (CW.seq (CW.reg (WL.pv (Pu.buildL (cs := Ref.c (⟨7, (⟨#[97, 112, 112]⟩ : ByteArray), (⟨#[103]⟩ : ByteArray)⟩ : Ref)) st23 rfl rfl rfl) (WL.pv (Pu.buildL (cs := Side.c (⟨6, (⟨#[119, 101, 98]⟩ : ByteArray), (⟨#[]⟩ : ByteArray)⟩ : Side)) st41 rfl rfl rfl) ?_)))))))
 refine WL.lit (M := 1048576) ([(⟨6, (⟨#[119, 101, 98]⟩ : ByteArray), (⟨#[]⟩ : ByteArray)⟩ : Side)] : List Side) rfl rfl ap30 rfl rfl rfl rfl rfl rfl rfl rfl rfl (by decide) (OkL.cons (show Side.Ok _ _ (⟨6, (⟨#[119, 101, 98]⟩ : ByteArray), (⟨#[]⟩ : ByteArray)⟩ : Side) from ⟨(by first|omega|simp<;>omega), (by first|omega|simp<;>omega)⟩) OkL.nil) st ?_
 intro b2 W1 H3 st l4 k5
 refine WL.pv (Pu.buildL (cs := Side.c (⟨3, (⟨#[]⟩ : ByteArray), (⟨#[97, 112, 105]⟩ : ByteArray)⟩ : Side)) st41 rfl rfl rfl) ?_
 refine WL.lit (M := 1048576) ([(⟨3, (⟨#[]⟩ : ByteArray), (⟨#[97, 112, 105]⟩ : ByteArray)⟩ : Side)] : List Side) rfl rfl ap30 rfl rfl rfl rfl rfl rfl rfl rfl rfl (by decide) (OkL.cons (show Side.Ok _ _ (⟨3, (⟨#[]⟩ : ByteArray), (⟨#[97, 112, 105]⟩ : ByteArray)⟩ : Side) from ⟨(by first|omega|simp<;>omega), (by first|omega|simp<;>omega)⟩) OkL.nil) st ?_
 intro b7 W6 H8 st l9 k10
 refine WL.pv (Pu.buildL (cs := Object.c (⟨(⟨7, (⟨#[97, 112, 112]⟩ : ByteArray), (⟨#[103]⟩ : ByteArray)⟩ : Ref), false, (Sl.nil : Sl Pair), (Sl.nil : Sl Int), (⟨#[]⟩ : ByteArray), (Sl.nil : Sl Listener), (Sl.nil : Sl Parent), (Sl.nil : Sl ByteArray), (Sl.nil : Sl Rule), (⟨some ⟨b2, 0, none⟩, 1, ([(⟨6, (⟨#[119, 101, 98]⟩ : ByteArray), (⟨#[]⟩ : ByteArray)⟩ : Side)] : List Side)⟩ : Sl Side), (⟨some ⟨b7, 0, none⟩, 1, ([(⟨3, (⟨#[]⟩ : ByteArray), (⟨#[97, 112, 105]⟩ : ByteArray)⟩ : Side)] : List Side)⟩ : Sl Side)⟩ : Object)) st32 rfl rfl rfl) ?_
 refine WL.lit (M := 1048576) ([(⟨(⟨7, (⟨#[97, 112, 112]⟩ : ByteArray), (⟨#[103]⟩ : ByteArray)⟩ : Ref), false, (Sl.nil : Sl Pair), (Sl.nil : Sl Int), (⟨#[]⟩ : ByteArray), (Sl.nil : Sl Listener), (Sl.nil : Sl Parent), (Sl.nil : Sl ByteArray), (Sl.nil : Sl Rule), (⟨some ⟨b2, 0, none⟩, 1, ([(⟨6, (⟨#[119, 101, 98]⟩ : ByteArray), (⟨#[]⟩ : ByteArray)⟩ : Side)] : List Side)⟩ : Sl Side), (⟨some ⟨b7, 0, none⟩, 1, ([(⟨3, (⟨#[]⟩ : ByteArray), (⟨#[97, 112, 105]⟩ : ByteArray)⟩ : Side)] : List Side)⟩ : Sl Side)⟩ : Object)] : List Object) rfl rfl ap43 rfl rfl rfl rfl rfl rfl rfl rfl rfl (by decide) (OkL.cons (show Object.Ok _ _ (⟨(⟨7, (⟨#[97, 112, 112]⟩ : ByteArray), (⟨#[103]⟩ : ByteArray)⟩ : Ref), false, (Sl.nil : Sl Pair), (Sl.nil : Sl Int), (⟨#[]⟩ : ByteArray), (Sl.nil : Sl Listener), (Sl.nil : Sl Parent), (Sl.nil : Sl ByteArray), (Sl.nil : Sl Rule), (⟨some ⟨b2, 0, none⟩, 1, ([(⟨6, (⟨#[119, 101, 98]⟩ : ByteArray), (⟨#[]⟩ : ByteArray)⟩ : Side)] : List Side)⟩ : Sl Side), (⟨some ⟨b7, 0, none⟩, 1, ([(⟨3, (⟨#[]⟩ : ByteArray), (⟨#[97, 112, 105]⟩ : ByteArray)⟩ : Side)] : List Side)⟩ : Sl Side)⟩ : Object) from ⟨⟨(by first|omega|simp<;>omega), (by first|omega|simp<;>omega)⟩, Sl.Ok.nil, Sl.Ok.nil, (by first|omega|simp<;>omega), Sl.Ok.nil, Sl.Ok.nil, Sl.Ok.nil, Sl.Ok.nil, (k5.le l9), k10⟩) OkL.nil) st ?_
 intro b12 W11 H13 st l14 k15
 refine WL.as rfl (WL.nt (CW.seq (CW.reg (WL.mv rfl ?_))))
 refine WL.call rfl rfl en88 rfl rfl st (c88 (⟨#[97, 112, 112]⟩ : ByteArray) (⟨#[97, 112, 105]⟩ : ByteArray) st.sub (by first|omega|simp<;>omega) (by first|omega|simp<;>omega)) ?_
 rintro _ W16 H17 st l18 ⟨x19, rfl, k20, e21⟩
 subst e21
 refine WL.callv (r := .bool (m22 ([(⟨(⟨7, (⟨#[97, 112, 112]⟩ : ByteArray), (⟨#[103]⟩ : ByteArray)⟩ : Ref), false, (Sl.nil : Sl Pair), (Sl.nil : Sl Int), (⟨#[]⟩ : ByteArray), (Sl.nil : Sl Listener), (Sl.nil : Sl Parent), (Sl.nil : Sl ByteArray), (Sl.nil : Sl Rule), (⟨none, 0, ([(⟨6, (⟨#[119, 101, 98]⟩ : ByteArray), (⟨#[]⟩ : ByteArray)⟩ : Side)] : List Side)⟩ : Sl Side), (⟨none, 0, ([(⟨3, (⟨#[]⟩ : ByteArray), (⟨#[97, 112, 105]⟩ : ByteArray)⟩ : Side)] : List Side)⟩ : Sl Side)⟩ : Object)] : List Object) 6 (⟨#[119, 101, 98]⟩ : ByteArray) (m88 (⟨#[97, 112, 112]⟩ : ByteArray) (⟨#[97, 112, 105]⟩ : ByteArray)))) rfl rfl en22 rfl rfl st ((c22 (⟨some ⟨b12, 0, none⟩, 1, ([(⟨(⟨7, (⟨#[97, 112, 112]⟩ : ByteArray), (⟨#[103]⟩ : ByteArray)⟩ : Ref), false, (Sl.nil : Sl Pair), (Sl.nil : Sl Int), (⟨#[]⟩ : ByteArray), (Sl.nil : Sl Listener), (Sl.nil : Sl Parent), (Sl.nil : Sl ByteArray), (Sl.nil : Sl Rule), (⟨some ⟨b2, 0, none⟩, 1, ([(⟨6, (⟨#[119, 101, 98]⟩ : ByteArray), (⟨#[]⟩ : ByteArray)⟩ : Side)] : List Side)⟩ : Sl Side), (⟨some ⟨b7, 0, none⟩, 1, ([(⟨3, (⟨#[]⟩ : ByteArray), (⟨#[97, 112, 105]⟩ : ByteArray)⟩ : Side)] : List Side)⟩ : Sl Side)⟩ : Object)] : List Object)⟩ : Sl Object) 6 (⟨#[119, 101, 98]⟩ : ByteArray) (m88 (⟨#[97, 112, 112]⟩ : ByteArray) (⟨#[97, 112, 105]⟩ : ByteArray)) st.sub (k15.le l18) (by first|omega|simp<;>omega) k20).mono fun _ _ _ h => h.trans (by kernel_rfl)) ?_
 intro W22 st
 refine WL.mv rfl ?_
 refine WL.splitP 12 rfl rT rF (fun h23 => ?_) (fun h23 => ?_)
 ·refine WL.mv rfl ?_
  refine WL.call rfl rfl en88 rfl rfl st (c88 (⟨#[97, 112, 112]⟩ : ByteArray) (⟨#[100, 98]⟩ : ByteArray) st.sub (by first|omega|simp<;>omega) (by first|omega|simp<;>omega)) ?_
  rintro _ W24 H25 st l26 ⟨x27, rfl, k28, e29⟩
  subst e29
  refine WL.callv (r := .bool (m22 ([(⟨(⟨7, (⟨#[97, 112, 112]⟩ : ByteArray), (⟨#[103]⟩ : ByteArray)⟩ : Ref), false, (Sl.nil : Sl Pair), (Sl.nil : Sl Int), (⟨#[]⟩ : ByteArray), (Sl.nil : Sl Listener), (Sl.nil : Sl Parent), (Sl.nil : Sl ByteArray), (Sl.nil : Sl Rule), (⟨none, 0, ([(⟨6, (⟨#[119, 101, 98]⟩ : ByteArray), (⟨#[]⟩ : ByteArray)⟩ : Side)] : List Side)⟩ : Sl Side), (⟨none, 0, ([(⟨3, (⟨#[]⟩ : ByteArray), (⟨#[97, 112, 105]⟩ : ByteArray)⟩ : Side)] : List Side)⟩ : Sl Side)⟩ : Object)] : List Object) 6 (⟨#[119, 101, 98]⟩ : ByteArray) (m88 (⟨#[97, 112, 112]⟩ : ByteArray) (⟨#[100, 98]⟩ : ByteArray)))) rfl rfl en22 rfl rfl st ((c22 (⟨some ⟨b12, 0, none⟩, 1, ([(⟨(⟨7, (⟨#[97, 112, 112]⟩ : ByteArray), (⟨#[103]⟩ : ByteArray)⟩ : Ref), false, (Sl.nil : Sl Pair), (Sl.nil : Sl Int), (⟨#[]⟩ : ByteArray), (Sl.nil : Sl Listener), (Sl.nil : Sl Parent), (Sl.nil : Sl ByteArray), (Sl.nil : Sl Rule), (⟨some ⟨b2, 0, none⟩, 1, ([(⟨6, (⟨#[119, 101, 98]⟩ : ByteArray), (⟨#[]⟩ : ByteArray)⟩ : Side)] : List Side)⟩ : Sl Side), (⟨some ⟨b7, 0, none⟩, 1, ([(⟨3, (⟨#[]⟩ : ByteArray), (⟨#[97, 112, 105]⟩ : ByteArray)⟩ : Side)] : List Side)⟩ : Sl Side)⟩ : Object)] : List Object)⟩ : Sl Object) 6 (⟨#[119, 101, 98]⟩ : ByteArray) (m88 (⟨#[97, 112, 112]⟩ : ByteArray) (⟨#[100, 98]⟩ : ByteArray)) st.sub (k15.le (l18.trans l26)) (by first|omega|simp<;>omega) k28).mono fun _ _ _ h => h.trans (by kernel_rfl)) ?_
  intro W30 st
  refine WL.pv (Pu.notb rfl) (WL.pv (Pu.pickT rfl rfl) (WL.mv rfl ?_))
  refine WL.splitP 18 rfl mT mF (fun h31 => ?_) (fun h31 => ?_)
  ·refine WL.mv rfl ?_
   refine WL.call rfl rfl en88 rfl rfl st (c88 (⟨#[97, 112, 112]⟩ : ByteArray) (⟨#[97, 112, 105]⟩ : ByteArray) st.sub (by first|omega|simp<;>omega) (by first|omega|simp<;>omega)) ?_
   rintro _ W32 H33 st l34 ⟨x35, rfl, k36, e37⟩
   subst e37
   refine WL.callv (r := .bool (m22 ([(⟨(⟨7, (⟨#[97, 112, 112]⟩ : ByteArray), (⟨#[103]⟩ : ByteArray)⟩ : Ref), false, (Sl.nil : Sl Pair), (Sl.nil : Sl Int), (⟨#[]⟩ : ByteArray), (Sl.nil : Sl Listener), (Sl.nil : Sl Parent), (Sl.nil : Sl ByteArray), (Sl.nil : Sl Rule), (⟨none, 0, ([(⟨6, (⟨#[119, 101, 98]⟩ : ByteArray), (⟨#[]⟩ : ByteArray)⟩ : Side)] : List Side)⟩ : Sl Side), (⟨none, 0, ([(⟨3, (⟨#[]⟩ : ByteArray), (⟨#[97, 112, 105]⟩ : ByteArray)⟩ : Side)] : List Side)⟩ : Sl Side)⟩ : Object)] : List Object) 6 (⟨#[111, 112, 115]⟩ : ByteArray) (m88 (⟨#[97, 112, 112]⟩ : ByteArray) (⟨#[97, 112, 105]⟩ : ByteArray)))) rfl rfl en22 rfl rfl st ((c22 (⟨some ⟨b12, 0, none⟩, 1, ([(⟨(⟨7, (⟨#[97, 112, 112]⟩ : ByteArray), (⟨#[103]⟩ : ByteArray)⟩ : Ref), false, (Sl.nil : Sl Pair), (Sl.nil : Sl Int), (⟨#[]⟩ : ByteArray), (Sl.nil : Sl Listener), (Sl.nil : Sl Parent), (Sl.nil : Sl ByteArray), (Sl.nil : Sl Rule), (⟨some ⟨b2, 0, none⟩, 1, ([(⟨6, (⟨#[119, 101, 98]⟩ : ByteArray), (⟨#[]⟩ : ByteArray)⟩ : Side)] : List Side)⟩ : Sl Side), (⟨some ⟨b7, 0, none⟩, 1, ([(⟨3, (⟨#[]⟩ : ByteArray), (⟨#[97, 112, 105]⟩ : ByteArray)⟩ : Side)] : List Side)⟩ : Sl Side)⟩ : Object)] : List Object)⟩ : Sl Object) 6 (⟨#[111, 112, 115]⟩ : ByteArray) (m88 (⟨#[97, 112, 112]⟩ : ByteArray) (⟨#[97, 112, 105]⟩ : ByteArray)) st.sub (k15.le ((l18.trans l26).trans l34)) (by first|omega|simp<;>omega) k36).mono fun _ _ _ h => h.trans (by kernel_rfl)) ?_
   intro W38 st
   refine WL.pv (Pu.notb rfl) (WL.pv (Pu.pickT rfl rfl) (WL.as rfl (WL.nt ?_)))
   refine CW.ret (finA Tryz.results19 st (.tmp rfl .nil) ?_)
   exact vb ((if_pos h23).trans (if_neg h31))
  ·refine WL.of (WL.of (WL.of (WL.of (WL.pv (Pu.pickF rfl rfl) (WL.as rfl (WL.nt ?_))))))
   refine CW.ret (finA Tryz.results19 st (.tmp rfl .nil) ?_)
   exact vb ((if_pos h23).trans (if_pos h31))
 ·refine WL.of (WL.of (WL.of (WL.of (WL.pv (Pu.pickF rfl rfl) (WL.mv rfl (WL.of (WL.of (WL.of (WL.of ?_)))))))))
  refine WL.pv (Pu.pickF rfl rfl) (WL.as rfl (WL.nt ?_))
  refine CW.ret (finA Tryz.results19 st (.tmp rfl .nil) ?_)
  exact vb (if_neg h23)
end Go.Proofs.TB
