import Derived.Test.YtmfnlloabaoagaaGreatDoorTL
import Derived.Test.YtmfnlloabaoagaaGreatDoorTT
import Derived.Test.YtmfnlloabaoagaaGreatDoorGA
import Derived.Test.YtmfnlloabaoagaaGreatDoorProg
import Derived.KernelRfl
set_option linter.unusedVariables false
set_option maxRecDepth 100000
namespace Go.Proofs.TB
open Go.RowKit
theorem en302 : En Tryz.prog 302 := En.of Tryz.func302 (by kernel_rfl) rfl
theorem en319 : En Tryz.prog 319 := En.of Tryz.func319 (by kernel_rfl) rfl
theorem en321 : En Tryz.prog 321 := En.of Tryz.func321 (by kernel_rfl) rfl
theorem ex333 : Ixb Tryz.prog 333 := Ixb.of Tryz.func333 (by kernel_rfl) rfl (by kernel_rfl) (by kernel_rfl)
/-! internal stringslite.IndexByte -/
def m321 (a0 : ByteArray) (a1 : Int) : Int :=
 ixb a0 a1
theorem c321 (a0 : ByteArray) (a1 : Int) {w : World} {H : PH} (hs : Sub H w) (k0p : a0.size < 1048576) : Spec Tryz.prog 321 [.string a0, .int .u8 a1].toArray w H (fun _ v => v = .int .i64 (m321 a0 a1)) := by
 refine Spec.enter Tryz.func321 rfl Tryz.ntmps321 rfl ?_
 have st := St.start hs
 refine CW.seq (CW.reg (WL.as rfl (WL.nt (CW.seq (CW.reg (WL.mv rfl (WL.mv rfl ?_)))))))
 have z1 := ixb_ge a0 a1
 have z2 := ixb_lt a0 a1
 refine WL.pv (Pu.ixb ex333 rfl rfl rfl) (WL.as rfl (WL.nt ?_))
 refine CW.ret (finA Tryz.results321 st (.tmp rfl .nil) ?_)
 exact congrArg (fun z => Value.int .i64 z) (Eq.symm rfl)
/-! internal stringslite.Index -/
def m319 (a0 : ByteArray) (a1 : ByteArray) : Int :=
 if a1 = a0 then 0 else m321 a0 (bt a1 0)
theorem c319 (a0 : ByteArray) (a1 : ByteArray) {w : World} {H : PH} (hs : Sub H w) (k0p : a0.size < 1048576) (k1p : a1.size < 1048576) (hk : a1.size = 1) : Spec Tryz.prog 319 [.string a0, .string a1].toArray w H (fun _ v => v = .int .i64 (m319 a0 a1)) := by
 refine Spec.enter Tryz.func319 rfl Tryz.ntmps319 rfl ?_
 have st := St.start hs
 have hz0 : ¬ ((a1.size : Int) = 0) := by omega
 have hz1 : (a1.size : Int) = 1 := by omega
 refine CW.seq (CW.reg (WL.as rfl (WL.nt (CW.seq (CW.reg (WL.mv rfl ?_))))))
 have z1 := k1p
 refine WL.pv (Pu.lenstr rfl Tryz.underlying9) (WL.as rfl (WL.nt (CW.seq ?_)))
 refine CW.blk ?_
 refine CW.seq (CW.reg (WL.mv rfl (WL.pv (Pu.ieq rfl rfl) (WL.mv rfl ?_))))
 refine WL.kn 19 rfl (kdF hz0) ?_
 refine WL.mv rfl (WL.mv rfl (WL.pv (Pu.seq rfl rfl) (WL.pv (Pu.pickF rfl rfl) (WL.as rfl (WL.nt ?_)))))
 refine CW.condP 16 rfl dT dF (fun h2 => ?_) (fun h2 => ?_)
 ·refine CW.seq (CW.reg (WL.as rfl (WL.nt ?_)))
  refine CW.ret (QX.blkR (QX.thenR (finA Tryz.results319 st (.tmp rfl .nil) ?_)))
  exact congrArg (fun z => Value.int .i64 z) (Eq.symm (if_pos h2))
 ·refine CW.seq (CW.reg (WL.mv rfl (WL.pv (Pu.ieq rfl rfl) (WL.as rfl (WL.nt ?_)))))
  refine CW.kn 24 rfl (kdT hz1) (CW.condT rfl ?_)
  refine CW.seq (CW.reg (WL.mv rfl (WL.mv rfl (WL.pv (Pu.ixs rfl rfl Tryz.underlying9 (by omega) (by omega)) ?_))))
  refine WL.callv rfl rfl en321 rfl rfl st (c321 a0 (bt a1 0) st.sub k0p) ?_
  intro W3 st
  refine WL.as rfl (WL.nt ?_)
  refine CW.ret (QX.blkR (QX.thenR (finA Tryz.results319 st (.tmp rfl .nil) ?_)))
  exact congrArg (fun z => Value.int .i64 z) (Eq.symm (if_neg h2))
/-! strings.Index -/
def m302 (a0 : ByteArray) (a1 : ByteArray) : Int :=
 m319 a0 a1
theorem c302 (a0 : ByteArray) (a1 : ByteArray) {w : World} {H : PH} (hs : Sub H w) (k0p : a0.size < 1048576) (k1p : a1.size < 1048576) (hk : a1.size = 1) : Spec Tryz.prog 302 [.string a0, .string a1].toArray w H (fun _ v => v = .int .i64 (m302 a0 a1)) := by
 refine Spec.enter Tryz.func302 rfl Tryz.ntmps302 rfl ?_
 have st := St.start hs
 refine CW.seq (CW.reg (WL.as rfl (WL.nt (CW.seq (CW.reg (WL.mv rfl (WL.mv rfl ?_)))))))
 refine WL.callv rfl rfl en319 rfl rfl st (c319 a0 a1 st.sub k0p k1p (by first | assumption | omega)) ?_
 intro W1 st
 refine WL.as rfl (WL.nt ?_)
 refine CW.ret (finA Tryz.results302 st (.tmp rfl .nil) ?_)
 exact congrArg (fun z => Value.int .i64 z) (Eq.symm rfl)
end Go.Proofs.TB
