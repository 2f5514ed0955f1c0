import Derived.Test.YtmfnlloabaoagaaGreatDoorTL
import Derived.Test.YtmfnlloabaoagaaGreatDoorTT
import Derived.Test.YtmfnlloabaoagaaGreatDoorGA2
import Derived.Test.YtmfnlloabaoagaaGreatDoorGB
import Derived.Test.YtmfnlloabaoagaaGreatDoorTM
import Derived.Test.YtmfnlloabaoagaaGreatDoorProg
import Derived.KernelRfl
set_option linter.unusedVariables false
set_option maxRecDepth 100000
namespace Go.Proofs.TB
open Go.RowKit
theorem ty126 : tyOf Tryz.prog 126 = some (false, 1) := by kernel_rfl
theorem fo192_0 : foOf Tryz.prog 192 0 = some 0 := by kernel_rfl
theorem en17 : En Tryz.prog 17 := En.of Tryz.func17 (by kernel_rfl) rfl
theorem en78 : En Tryz.prog 78 := En.of Tryz.func78 (by kernel_rfl) rfl
theorem en79 : En Tryz.prog 79 := En.of Tryz.func79 (by kernel_rfl) rfl
theorem en80 : En Tryz.prog 80 := En.of Tryz.func80 (by kernel_rfl) rfl
theorem en81 : En Tryz.prog 81 := En.of Tryz.func81 (by kernel_rfl) rfl
theorem en107 : En Tryz.prog 107 := En.of Tryz.func107 (by kernel_rfl) rfl
theorem en128 : En Tryz.prog 128 := En.of Tryz.func128 (by kernel_rfl) rfl
theorem en136 : En Tryz.prog 136 := En.of Tryz.func136 (by kernel_rfl) rfl
theorem en137 : En Tryz.prog 137 := En.of Tryz.func137 (by kernel_rfl) rfl
theorem en153 : En Tryz.prog 153 := En.of Tryz.func153 (by kernel_rfl) rfl
theorem en176 : En Tryz.prog 176 := En.of Tryz.func176 (by kernel_rfl) rfl
theorem en177 : En Tryz.prog 177 := En.of Tryz.func177 (by kernel_rfl) rfl
theorem en178 : En Tryz.prog 178 := En.of Tryz.func178 (by kernel_rfl) rfl
theorem en179 : En Tryz.prog 179 := En.of Tryz.func179 (by kernel_rfl) rfl
theorem en180 : En Tryz.prog 180 := En.of Tryz.func180 (by kernel_rfl) rfl
theorem en181 : En Tryz.prog 181 := En.of Tryz.func181 (by kernel_rfl) rfl
theorem en182 : En Tryz.prog 182 := En.of Tryz.func182 (by kernel_rfl) rfl
theorem en183 : En Tryz.prog 183 := En.of Tryz.func183 (by kernel_rfl) rfl
theorem en184 : En Tryz.prog 184 := En.of Tryz.func184 (by kernel_rfl) rfl
theorem en205 : En Tryz.prog 205 := En.of Tryz.func205 (by kernel_rfl) rfl
theorem en206 : En Tryz.prog 206 := En.of Tryz.func206 (by kernel_rfl) rfl
theorem en207 : En Tryz.prog 207 := En.of Tryz.func207 (by kernel_rfl) rfl
theorem en228 : En Tryz.prog 228 := En.of Tryz.func228 (by kernel_rfl) rfl
theorem en229 : En Tryz.prog 229 := En.of Tryz.func229 (by kernel_rfl) rfl
theorem en230 : En Tryz.prog 230 := En.of Tryz.func230 (by kernel_rfl) rfl
theorem en231 : En Tryz.prog 231 := En.of Tryz.func231 (by kernel_rfl) rfl
theorem en232 : En Tryz.prog 232 := En.of Tryz.func232 (by kernel_rfl) rfl
theorem en255 : En Tryz.prog 255 := En.of Tryz.func255 (by kernel_rfl) rfl
theorem en270 : En Tryz.prog 270 := En.of Tryz.func270 (by kernel_rfl) rfl
theorem en271 : En Tryz.prog 271 := En.of Tryz.func271 (by kernel_rfl) rfl
theorem ze66 : zeOf Tryz.prog 66 = some (.agg #[.slice none 0 0, .slice none 0 0, .slice none 0 0]) := by kernel_rfl
theorem ze124 : zeOf Tryz.prog 124 = some (.agg #[.int .i64 0, .string ⟨#[]⟩, .string ⟨#[]⟩, .slice none 0 0, .slice none 0 0]) := by kernel_rfl
theorem ze184 : zeOf Tryz.prog 184 = some (.agg #[.int .i64 0, .string ⟨#[]⟩, .slice none 0 0]) := by kernel_rfl
theorem st192 : stOf Tryz.prog 192 = some ([(0, 13)], .agg #[.int .i64 0, .string ⟨#[]⟩, .string ⟨#[]⟩, .bool false, .slice none 0 0, .slice none 0 0, .string ⟨#[]⟩, .slice none 0 0, .slice none 0 0, .slice none 0 0, .slice none 0 0, .slice none 0 0, .slice none 0 0]) := by kernel_rfl
/-! toll object.kind -/
def m153 (a0 : Int) : Bool :=
 if (1 : Int) ≤ a0 then (decide (a0 ≤ 7)) else false
theorem c153 (a0 : Int) {w : World} {H : PH} (hs : Sub H w)  : Spec Tryz.prog 153 [.int .i64 a0].toArray w H (fun _ v => v = .bool (m153 a0)) := by
 refine Spec.enter Tryz.func153 rfl Tryz.ntmps153 rfl ?_
 have st := St.start hs
 refine CW.seq (CW.reg (WL.as rfl (WL.nt (CW.seq (CW.reg (WL.mv rfl (WL.pv (Pu.ige rfl rfl) (WL.mv rfl ?_))))))))
 refine WL.splitP 5 rfl dT dF (fun h1 => ?_) (fun h1 => ?_)
 ·refine WL.mv rfl (WL.pv (Pu.ile rfl rfl) (WL.pv (Pu.pickT rfl rfl) (WL.as rfl (WL.nt ?_))))
  refine CW.ret (finA Tryz.results153 st (.tmp rfl .nil) ?_)
  exact vb (if_pos h1)
 ·refine WL.of (WL.of (WL.pv (Pu.pickF rfl rfl) (WL.as rfl (WL.nt ?_))))
  refine CW.ret (finA Tryz.results153 st (.tmp rfl .nil) ?_)
  exact vb (if_neg h1)
/-! toll object.MayRef -/
def m107 (a0 : Ref) : Bool :=
 if a0.kind = 1 then (if a0.space = (⟨#[]⟩ : ByteArray) then (m151 a0.name) else false) else if a0.kind = 2 then (if a0.space = (⟨#[]⟩ : ByteArray) then (m152 a0.name) else false) else if (m153 a0.kind) = true then (if (m152 a0.space) = true then (m151 a0.name) else false) else false
theorem c107 (a0 : Ref) {w : World} {H : PH} (hs : Sub H w) (k0p : Ref.Ok 1048576 H a0) : Spec Tryz.prog 107 [Ref.v a0].toArray w H (fun _ v => v = .bool (m107 a0)) := by
 refine Spec.enter Tryz.func107 rfl Tryz.ntmps107 rfl ?_
 have st := St.start hs
 refine CW.seq (CW.reg ?_)
 refine WL.box rfl rfl rfl rfl st ?_
 intro b1 W2 H3 st l4 f5
 refine WL.as rfl (WL.nt (CW.seq (CW.seq (CW.reg (WL.pv (Pu.fa rfl fo23_0) (WL.pv (Pu.load rfl ty3 ((f5.drop 0).w st.sub) rfl) (WL.nt ?_)))))))
 refine CW.blk ?_
 refine CW.seq (CW.reg (WL.pv (Pu.ieq rfl rfl) (WL.as rfl (WL.nt ?_))))
 refine CW.condP 5 rfl dT dF (fun h6 => ?_) (fun h6 => ?_)
 ·refine CW.seq (CW.reg (WL.pv (Pu.fa rfl fo23_1) (WL.pv (Pu.load rfl ty9 ((f5.drop 1).w st.sub) rfl) (WL.pv (Pu.seq rfl rfl) (WL.mv rfl ?_)))))
  refine WL.splitP 10 rfl dT dF (fun h7 => ?_) (fun h7 => ?_)
  ·refine WL.pv (Pu.fa rfl fo23_2) (WL.pv (Pu.load rfl ty9 ((f5.drop 2).w st.sub) rfl) ?_)
   refine WL.callv rfl rfl en151 rfl rfl st (c151 a0.name st.sub k0p.name) ?_
   intro W9 st
   refine WL.pv (Pu.pickT rfl rfl) (WL.as rfl (WL.nt ?_))
   refine CW.ret (QX.blkR (QX.thenR (finA Tryz.results107 st (.tmp rfl .nil) ?_)))
   exact vb ((if_pos h6).trans (if_pos h7))
  ·have z8 := size_ne h7
   refine WL.of (WL.of (WL.of (WL.pv (Pu.pickF rfl rfl) (WL.as rfl (WL.nt ?_)))))
   refine CW.ret (QX.blkR (QX.thenR (finA Tryz.results107 st (.tmp rfl .nil) ?_)))
   exact vb ((if_pos h6).trans (if_neg h7))
 ·refine CW.seq (CW.reg (WL.pv (Pu.ieq rfl rfl) (WL.as rfl (WL.nt ?_))))
  refine CW.condP 15 rfl dT dF (fun h10 => ?_) (fun h10 => ?_)
  ·refine CW.seq (CW.reg (WL.pv (Pu.fa rfl fo23_1) (WL.pv (Pu.load rfl ty9 ((f5.drop 1).w st.sub) rfl) (WL.pv (Pu.seq rfl rfl) (WL.mv rfl ?_)))))
   refine WL.splitP 20 rfl dT dF (fun h11 => ?_) (fun h11 => ?_)
   ·refine WL.pv (Pu.fa rfl fo23_2) (WL.pv (Pu.load rfl ty9 ((f5.drop 2).w st.sub) rfl) ?_)
    refine WL.callv rfl rfl en152 rfl rfl st (c152 a0.name st.sub k0p.name) ?_
    intro W13 st
    refine WL.pv (Pu.pickT rfl rfl) (WL.as rfl (WL.nt ?_))
    refine CW.ret (QX.blkR (QX.thenR (finA Tryz.results107 st (.tmp rfl .nil) ?_)))
    exact vb ((if_neg h6).trans ((if_pos h10).trans (if_pos h11)))
   ·have z12 := size_ne h11
    refine WL.of (WL.of (WL.of (WL.pv (Pu.pickF rfl rfl) (WL.as rfl (WL.nt ?_)))))
    refine CW.ret (QX.blkR (QX.thenR (finA Tryz.results107 st (.tmp rfl .nil) ?_)))
    exact vb ((if_neg h6).trans ((if_pos h10).trans (if_neg h11)))
  ·refine CW.skip (QX.blkN (QX.thenN ?_))
   refine CW.seq (CW.reg (WL.pv (Pu.fa rfl fo23_0) (WL.pv (Pu.load rfl ty3 ((f5.drop 0).w st.sub) rfl) ?_)))
   refine WL.callv rfl rfl en153 rfl rfl st (c153 a0.kind st.sub ) ?_
   intro W14 st
   refine WL.mv rfl ?_
   refine WL.splitP 28 rfl rT rF (fun h15 => ?_) (fun h15 => ?_)
   ·refine WL.pv (Pu.fa rfl fo23_1) (WL.pv (Pu.load rfl ty9 ((f5.drop 1).w st.sub) rfl) ?_)
    refine WL.callv rfl rfl en152 rfl rfl st (c152 a0.space st.sub k0p.space) ?_
    intro W16 st
    refine WL.pv (Pu.pickT rfl rfl) (WL.mv rfl ?_)
    refine WL.splitP 33 rfl rT rF (fun h17 => ?_) (fun h17 => ?_)
    ·refine WL.pv (Pu.fa rfl fo23_2) (WL.pv (Pu.load rfl ty9 ((f5.drop 2).w st.sub) rfl) ?_)
     refine WL.callv rfl rfl en151 rfl rfl st (c151 a0.name st.sub k0p.name) ?_
     intro W18 st
     refine WL.pv (Pu.pickT rfl rfl) (WL.as rfl (WL.nt ?_))
     refine CW.ret (finA Tryz.results107 st (.tmp rfl .nil) ?_)
     exact vb ((if_neg h6).trans ((if_neg h10).trans ((if_pos h15).trans (if_pos h17))))
    ·refine WL.of (WL.of (WL.of (WL.pv (Pu.pickF rfl rfl) (WL.as rfl (WL.nt ?_)))))
     refine CW.ret (finA Tryz.results107 st (.tmp rfl .nil) ?_)
     exact vb ((if_neg h6).trans ((if_neg h10).trans ((if_pos h15).trans (if_neg h17))))
   ·refine WL.of (WL.of (WL.of (WL.pv (Pu.pickF rfl rfl) (WL.mv rfl (WL.of (WL.of (WL.of (WL.pv (Pu.pickF rfl rfl) (WL.as rfl ?_)))))))))
    refine WL.nt ?_
    refine CW.ret (finA Tryz.results107 st (.tmp rfl .nil) ?_)
    exact vb ((if_neg h6).trans ((if_neg h10).trans (if_neg h15)))
theorem tells107 {a0 : Ref} (h : m107 a0 = true) : 1 ≤ a0.kind ∧ a0.kind ≤ 7 := by
 unfold m107 at h
 by_cases h1 : a0.kind = 1
 ·omega
 ·rw [if_neg h1] at h
  by_cases h2 : a0.kind = 2
  ·omega
  ·rw [if_neg h2] at h
   by_cases h3 : m153 a0.kind = true
   ·unfold m153 at h3
    by_cases h4 : 1 ≤ a0.kind
    ·rw [if_pos h4] at h3
     simp only [decide_eq_true_eq] at h3
     omega
    ·rw [if_neg h4] at h3; cases h3
   ·rw [if_neg h3] at h; cases h
/-! slices.IndexFunc[[]toll api.Side,toll api.Side] -/
def m137_l0 (a0 : List Side) (p1 : Side → Bool) : Nat → Int → (Int ⊕ Unit)
 | 0, _ => .inr ()
 | n3 + 1, r2 => if (p1 (lg a0 r2)) = true then (.inl r2) else m137_l0 a0 p1 n3 (r2 + 1)
def m137 (a0 : List Side) (p1 : Side → Bool) : Int :=
 lk2 (m137_l0 a0 p1 (((a0.length : Int) - 0).toNat) 0) (fun _ => (-1))
theorem c137 (a0 : Sl Side) (fn1 : Nat) (q1 : List Value) (p1 : Side → Bool) {w : World} {H : PH} (hs : Sub H w) (k0p : Sl.Ok 1048576 H a0) (en1p : En Tryz.prog fn1) (s1p : ∀ (x0 : Side) (w' : World) (H' : PH), Le H H' → Sub H' w' → Side.Ok 1048576 H' x0 → Spec Tryz.prog fn1 (Side.v x0 :: q1).toArray w' H' (fun _ v => v = .bool (p1 x0))) : Spec Tryz.prog 137 [a0.v, .func (.func fn1) #[] q1.toArray].toArray w H (fun _ v => v = .int .i64 (m137 a0.l p1)) := by
 refine Spec.enter Tryz.func137 rfl Tryz.ntmps137 rfl ?_
 have st := St.start hs
 refine CW.seq (CW.reg (WL.as rfl (WL.nt (CW.seq (CW.seq (CW.reg (WL.mv rfl ?_)))))))
 have z1 : a0.l.length ≤ 1048576 := k0p.top
 refine WL.pv (Pu.lens (n := a0.l.length) rfl sl30) (WL.mv rfl (WL.nt ?_))
 refine (CW.cuts (fun (s : Unit) W => (∃ H', St w W H H' [] ∧ Le H H') ∧ m137_l0 a0.l p1 (((a0.l.length : Int) - 0).toNat) 0 = .inr ()) (fun (s : Unit) => []) ?_ ?_)
 ·refine CW.blk (CW.loop (fun (s : Nat × Int) W => (∃ H', St w W H H' [] ∧ Le H H') ∧ 0 ≤ s.2 ∧ s.2 ≤ (a0.l.length : Int) ∧ s.1 = ((a0.l.length : Int) - s.2).toNat ∧ m137_l0 a0.l p1 s.1 s.2 = m137_l0 a0.l p1 (((a0.l.length : Int) - 0).toNat) 0) (fun (s : Nat × Int) => [(0, a0.v), (1, Value.func (.func fn1) #[] q1.toArray), (7, Value.int .i64 (a0.l.length : Int)), (8, Value.int .i64 s.2)]) (fun s => s.1) ⟨((a0.l.length : Int) - 0).toNat, 0⟩ ⟨⟨_, st, Le.refl _⟩, (by first|omega|simp<;>omega), (by first|omega|simp<;>omega), rfl, rfl⟩ (.cons rfl (.cons rfl (.cons rfl (.cons rfl (.nil _))))) ?_)
  rintro ⟨N11, r2⟩ W6 ⟨⟨H4, st, l5⟩, g19, g20, g10, e7⟩
  replace g19 : 0 ≤ r2 := g19
  replace g20 : r2 ≤ (a0.l.length : Int) := g20
  replace g10 : N11 = ((a0.l.length : Int) - r2).toNat := g10
  replace e7 : m137_l0 a0.l p1 N11 r2 = m137_l0 a0.l p1 (((a0.l.length : Int) - 0).toNat) 0 := e7
  show CW _ _ _ _ [(0, a0.v), (1, Value.func (.func fn1) #[] q1.toArray), (7, Value.int .i64 (a0.l.length : Int)), (8, Value.int .i64 r2)] _
  refine CW.seq (CW.reg (WL.pv (Pu.ilt rfl rfl) (WL.nt (CW.seq ?_))))
  refine CW.condP 9 rfl dT dF (fun h12 => ?_) (fun h12 => ?_)
  ·obtain ⟨n3, rfl⟩ : ∃ k, N11 = k + 1 := ⟨N11 - 1, by omega⟩
   refine CW.skip (QX.thenN ?_)
   refine CW.seq ?_
   refine CW.blk ?_
   refine CW.seq (CW.reg (WL.mv rfl (WL.as rfl (WL.nt (CW.seq (CW.reg (WL.mv rfl (WL.mv rfl (WL.mv rfl ?_)))))))))
   have y13 := lg_get (l := a0.l) (i := r2) (by omega) (by omega)
   have k16 : Side.Ok 1048576 H4 (lg a0.l r2) := ((k0p.le l5).get _ _ y13).2
   refine WL.idx (s := a0) rfl rfl rfl rfl sl30 (k0p.le l5) (by omega) y13 ?_
   intro ad14 f15
   refine WL.pv (Pu.load (v := Side.v (lg a0.l r2)) rfl ty41 (f15.w st.sub) rfl) ?_
   refine WL.callv rfl rfl en1p rfl rfl st (s1p (lg a0.l r2) _ _ l5 st.sub k16) ?_
   intro W17 st
   refine WL.nt ?_
   refine CW.condP 16 rfl rT rF (fun h18 => ?_) (fun h18 => ?_)
   ·refine CW.seq (CW.reg (WL.mv rfl (WL.as rfl (WL.nt ?_))))
    refine CW.ret (QX.blkR (QX.thenR (QX.thenR (QX.blkR (QX.thenR (QX.thenR (finA Tryz.results137 st (.tmp rfl .nil) ?_)))))))
    exact congrArg (fun z => Value.int .i64 z) (Eq.symm (lk_inl ((Eq.symm e7).trans (if_pos h18))))
   ·refine CW.skip (QX.blkN (QX.thenN ?_))
    refine CW.reg (WL.pv (Pu.iadd rfl rfl (c := r2 + 1) (w64 (by omega) (by omega))) (WL.mv rfl ?_))
    refine WL.nil (QX.round ⟨n3, r2 + 1⟩ ?_ (Nat.lt_succ_self _) (.cons rfl (.cons rfl (.cons rfl (.cons rfl (.nil _))))))
    exact ⟨⟨_, st, l5⟩, (by first|omega|simp<;>omega), (by first|omega|simp<;>omega), (by first|omega|simp<;>omega), Eq.symm ((Eq.symm e7).trans (if_neg h18))⟩
  ·obtain rfl : N11 = 0 := by omega
   refine CW.exit (QX.thenE (QX.thenE (QX.hit (QX.meets () ?_ (.nil _)))))
   exact ⟨⟨_, st, l5⟩, Eq.symm e7⟩
 rintro _ W23 ⟨⟨H21, st, l22⟩, e24⟩
 show QX _ _ _ [] _
 refine QX.thenN (CW.seq (CW.reg (WL.as rfl (WL.nt ?_))))
 refine CW.ret (finA Tryz.results137 st (.tmp rfl .nil) ?_)
 exact congrArg (fun z => Value.int .i64 z) (Eq.symm (lk_inr e24))
/-! slices.ContainsFunc[[]toll api.Side,toll api.Side] -/
def m81 (a0 : List Side) (p1 : Side → Bool) : Bool :=
 decide ((0 : Int) ≤ m137 a0 p1)
theorem c81 (a0 : Sl Side) (fn1 : Nat) (q1 : List Value) (p1 : Side → Bool) {w : World} {H : PH} (hs : Sub H w) (k0p : Sl.Ok 1048576 H a0) (en1p : En Tryz.prog fn1) (s1p : ∀ (x0 : Side) (w' : World) (H' : PH), Le H H' → Sub H' w' → Side.Ok 1048576 H' x0 → Spec Tryz.prog fn1 (Side.v x0 :: q1).toArray w' H' (fun _ v => v = .bool (p1 x0))) : Spec Tryz.prog 81 [a0.v, .func (.func fn1) #[] q1.toArray].toArray w H (fun _ v => v = .bool (m81 a0.l p1)) := by
 refine Spec.enter Tryz.func81 rfl Tryz.ntmps81 rfl ?_
 have st := St.start hs
 refine CW.seq (CW.reg (WL.as rfl (WL.nt (CW.seq (CW.reg (WL.mv rfl (WL.mv rfl ?_)))))))
 refine WL.callv rfl rfl en137 rfl rfl st (c137 a0 fn1 q1 p1 st.sub k0p en1p (fun x0 w' H' lq2 hs o0 => s1p x0 w' H' ((Le.refl _).trans lq2) hs o0)) ?_
 intro W1 st
 refine WL.pv (Pu.ige rfl rfl) (WL.as rfl (WL.nt ?_))
 refine CW.ret (finA Tryz.results81 st (.tmp rfl .nil) ?_)
 exact congrArg (fun z => Value.bool z) (Eq.symm rfl)
/-! toll object.every[toll api.Side] 1 -/
def m255 (a0 : Side) (p1 : Side → Bool) : Bool :=
 !(p1 a0)
theorem c255 (a0 : Side) (b1p : Addr) (fn1 : Nat) (q1 : List Value) (p1 : Side → Bool) {w : World} {H : PH} (hs : Sub H w) (k0p : Side.Ok 1048576 H a0) (en1p : En Tryz.prog fn1) (s1p : ∀ (x0 : Side) (w' : World) (H' : PH), Le H H' → Sub H' w' → Side.Ok 1048576 H' x0 → Spec Tryz.prog fn1 (Side.v x0 :: q1).toArray w' H' (fun _ v => v = .bool (p1 x0))) (f1p : At H b1p [.func (.func fn1) #[] q1.toArray]) : Spec Tryz.prog 255 [Side.v a0, .pointer (some b1p)].toArray w H (fun _ v => v = .bool (m255 a0 p1)) := by
 refine Spec.enter Tryz.func255 rfl Tryz.ntmps255 rfl ?_
 have st := St.start hs
 refine CW.seq (CW.reg ?_)
 refine WL.box rfl rfl rfl rfl st ?_
 intro b1 W2 H3 st l4 f5
 refine WL.as rfl (WL.nt (CW.seq (CW.reg (WL.pv (Pu.load rfl ty126 ((f1p.le l4).w st.sub) rfl) (WL.pv (Pu.load (v := Side.v a0) rfl ty41 (f5.w st.sub) rfl) ?_)))))
 refine WL.callv rfl rfl en1p rfl rfl st (s1p a0 _ _ l4 st.sub (k0p.le l4)) ?_
 intro W6 st
 refine WL.pv (Pu.notb rfl) (WL.as rfl (WL.nt ?_))
 refine CW.ret (finA Tryz.results255 st (.tmp rfl .nil) ?_)
 exact congrArg (fun z => Value.bool z) (Eq.symm rfl)
/-! toll object.every[toll api.Side] -/
def m207 (a0 : List Side) (a1 : Int) (p2 : Side → Bool) : Bool :=
 if (a0.length : Int) ≤ a1 then (!(m81 a0 (fun x0 => m255 x0 p2))) else false
theorem c207 (a0 : Sl Side) (a1 : Int) (fn2 : Nat) (q2 : List Value) (p2 : Side → Bool) {w : World} {H : PH} (hs : Sub H w) (k0p : Sl.Ok 1048576 H a0) (en2p : En Tryz.prog fn2) (s2p : ∀ (x0 : Side) (w' : World) (H' : PH), Le H H' → Sub H' w' → Side.Ok 1048576 H' x0 → Spec Tryz.prog fn2 (Side.v x0 :: q2).toArray w' H' (fun _ v => v = .bool (p2 x0))) : Spec Tryz.prog 207 [a0.v, .int .i64 a1, .func (.func fn2) #[] q2.toArray].toArray w H (fun _ v => v = .bool (m207 a0.l a1 p2)) := by
 refine Spec.enter Tryz.func207 rfl Tryz.ntmps207 rfl ?_
 have st := St.start hs
 refine CW.seq (CW.reg ?_)
 refine WL.box rfl rfl rfl rfl st ?_
 intro b1 W2 H3 st l4 f5
 refine WL.as rfl (WL.nt (CW.seq (CW.reg (WL.mv rfl ?_))))
 have z6 : a0.l.length ≤ 1048576 := (k0p.le l4).top
 refine WL.pv (Pu.lens (n := a0.l.length) rfl sl30) (WL.mv rfl (WL.pv (Pu.ile rfl rfl) (WL.mv rfl ?_)))
 refine WL.splitP 11 rfl dT dF (fun h7 => ?_) (fun h7 => ?_)
 ·refine WL.mv rfl (WL.pv (Pu.mkf rfl) ?_)
  refine WL.callv rfl rfl en81 rfl rfl st (c81 a0 255 [.pointer (some (⟨b1, 0, none⟩ : Addr))] (fun x0 => m255 x0 p2) st.sub (k0p.le l4) en255 (fun x0 w' H' lq9 hs o0 => c255 x0 (⟨b1, 0, none⟩ : Addr) fn2 q2 p2 hs o0 en2p (fun x0 w' H' lq10 hs o0 => s2p x0 w' H' ((l4.trans lq9).trans lq10) hs o0) (f5.le lq9))) ?_
  intro W8 st
  refine WL.pv (Pu.notb rfl) (WL.pv (Pu.pickT rfl rfl) (WL.as rfl (WL.nt ?_)))
  refine CW.ret (finA Tryz.results207 st (.tmp rfl .nil) ?_)
  exact vb (if_pos h7)
 ·refine WL.of (WL.of (WL.of (WL.of (WL.pv (Pu.pickF rfl rfl) (WL.as rfl (WL.nt ?_))))))
  refine CW.ret (finA Tryz.results207 st (.tmp rfl .nil) ?_)
  exact vb (if_neg h7)
/-! (*toll object.thing).grant 1 -/
def m205 (a0 : Side) : Bool :=
 if (m153 a0.kind) = true then (if (m152 a0.space) = true then (decide (a0.name = (⟨#[]⟩ : ByteArray))) else false) else false
theorem c205 (a0 : Side) {w : World} {H : PH} (hs : Sub H w) (k0p : Side.Ok 1048576 H a0) : Spec Tryz.prog 205 [Side.v a0].toArray w H (fun _ v => v = .bool (m205 a0)) := by
 refine Spec.enter Tryz.func205 rfl Tryz.ntmps205 rfl ?_
 have st := St.start hs
 refine CW.seq (CW.reg ?_)
 refine WL.box rfl rfl rfl rfl st ?_
 intro b1 W2 H3 st l4 f5
 refine WL.as rfl (WL.nt (CW.seq (CW.reg (WL.pv (Pu.fa rfl fo41_0) (WL.pv (Pu.load rfl ty3 ((f5.drop 0).w st.sub) rfl) ?_)))))
 refine WL.callv rfl rfl en153 rfl rfl st (c153 a0.kind st.sub ) ?_
 intro W6 st
 refine WL.mv rfl ?_
 refine WL.splitP 6 rfl rT rF (fun h7 => ?_) (fun h7 => ?_)
 ·refine WL.pv (Pu.fa rfl fo41_1) (WL.pv (Pu.load rfl ty9 ((f5.drop 1).w st.sub) rfl) ?_)
  refine WL.callv rfl rfl en152 rfl rfl st (c152 a0.space st.sub k0p.space) ?_
  intro W8 st
  refine WL.pv (Pu.pickT rfl rfl) (WL.mv rfl ?_)
  refine WL.splitP 11 rfl rT rF (fun h9 => ?_) (fun h9 => ?_)
  ·refine WL.pv (Pu.fa rfl fo41_2) (WL.pv (Pu.load rfl ty9 ((f5.drop 2).w st.sub) rfl) (WL.pv (Pu.seq rfl rfl) (WL.pv (Pu.pickT rfl rfl) (WL.as rfl (WL.nt ?_)))))
   refine CW.ret (finA Tryz.results205 st (.tmp rfl .nil) ?_)
   exact vb ((if_pos h7).trans (if_pos h9))
  ·refine WL.of (WL.of (WL.of (WL.pv (Pu.pickF rfl rfl) (WL.as rfl (WL.nt ?_)))))
   refine CW.ret (finA Tryz.results205 st (.tmp rfl .nil) ?_)
   exact vb ((if_pos h7).trans (if_neg h9))
 ·refine WL.of (WL.of (WL.of (WL.pv (Pu.pickF rfl rfl) (WL.mv rfl (WL.of (WL.of (WL.of (WL.pv (Pu.pickF rfl rfl) (WL.as rfl ?_)))))))))
  refine WL.nt ?_
  refine CW.ret (finA Tryz.results205 st (.tmp rfl .nil) ?_)
  exact vb (if_neg h7)
/-! (*toll object.thing).grant 2 -/
def m206 (a0 : Side) : Bool :=
 if (m153 a0.kind) = true then (if a0.space = (⟨#[]⟩ : ByteArray) then (if a0.name = (⟨#[]⟩ : ByteArray) then true else m151 a0.name) else false) else false
theorem c206 (a0 : Side) {w : World} {H : PH} (hs : Sub H w) (k0p : Side.Ok 1048576 H a0) : Spec Tryz.prog 206 [Side.v a0].toArray w H (fun _ v => v = .bool (m206 a0)) := by
 refine Spec.enter Tryz.func206 rfl Tryz.ntmps206 rfl ?_
 have st := St.start hs
 refine CW.seq (CW.reg ?_)
 refine WL.box rfl rfl rfl rfl st ?_
 intro b1 W2 H3 st l4 f5
 refine WL.as rfl (WL.nt (CW.seq (CW.reg (WL.pv (Pu.fa rfl fo41_0) (WL.pv (Pu.load rfl ty3 ((f5.drop 0).w st.sub) rfl) ?_)))))
 refine WL.callv rfl rfl en153 rfl rfl st (c153 a0.kind st.sub ) ?_
 intro W6 st
 refine WL.mv rfl ?_
 refine WL.splitP 6 rfl rT rF (fun h7 => ?_) (fun h7 => ?_)
 ·refine WL.pv (Pu.fa rfl fo41_1) (WL.pv (Pu.load rfl ty9 ((f5.drop 1).w st.sub) rfl) (WL.pv (Pu.seq rfl rfl) (WL.pv (Pu.pickT rfl rfl) (WL.mv rfl ?_))))
  refine WL.splitP 11 rfl dT dF (fun h8 => ?_) (fun h8 => ?_)
  ·refine WL.pv (Pu.fa rfl fo41_2) (WL.pv (Pu.load rfl ty9 ((f5.drop 2).w st.sub) rfl) (WL.pv (Pu.seq rfl rfl) (WL.mv rfl ?_)))
   refine WL.splitP 15 rfl dT dF (fun h10 => ?_) (fun h10 => ?_)
   ·refine WL.of (WL.of (WL.of (WL.pv (Pu.pickT rfl rfl) (WL.pv (Pu.pickT rfl rfl) (WL.as rfl (WL.nt ?_))))))
    refine CW.ret (finA Tryz.results206 st (.tmp rfl .nil) ?_)
    exact vb ((if_pos h7).trans ((if_pos h8).trans (if_pos h10)))
   ·have z11 := size_ne h10
    refine WL.pv (Pu.fa rfl fo41_2) (WL.pv (Pu.load rfl ty9 ((f5.drop 2).w st.sub) rfl) ?_)
    refine WL.callv rfl rfl en151 rfl rfl st (c151 a0.name st.sub k0p.name) ?_
    intro W12 st
    refine WL.pv (Pu.pickF rfl rfl) (WL.pv (Pu.pickT rfl rfl) (WL.as rfl (WL.nt ?_)))
    refine CW.ret (finA Tryz.results206 st (.tmp rfl .nil) ?_)
    exact vb ((if_pos h7).trans ((if_pos h8).trans (if_neg h10)))
  ·have z9 := size_ne h8
   refine WL.of (WL.of (WL.of (WL.of (WL.of (WL.of (WL.of (WL.of (WL.pv (Pu.pickF rfl rfl) (WL.as rfl ?_)))))))))
   refine WL.nt ?_
   refine CW.ret (finA Tryz.results206 st (.tmp rfl .nil) ?_)
   exact vb ((if_pos h7).trans (if_neg h8))
 ·refine WL.of (WL.of (WL.of (WL.pv (Pu.pickF rfl rfl) (WL.mv rfl (WL.of (WL.of (WL.of (WL.of (WL.of ?_)))))))))
  refine WL.of (WL.of (WL.of (WL.pv (Pu.pickF rfl rfl) (WL.as rfl (WL.nt ?_)))))
  refine CW.ret (finA Tryz.results206 st (.tmp rfl .nil) ?_)
  exact vb (if_neg h7)
/-! (*toll object.thing).grant -/
def m136 (a0 : Thing) : Bool × Thing :=
 if (0 : Int) < (a0.object.frm.l.length : Int) then (if (0 : Int) < (a0.object.to.l.length : Int) then (if (m207 a0.object.frm.l 4 (fun x0 => m205 x0)) = true then ((m207 a0.object.to.l 4 (fun x0 => m206 x0), (⟨(⟨a0.object.ref, a0.object.good, a0.object.labels, a0.object.ports, a0.object.cls, a0.object.listeners, a0.object.parents, a0.object.hosts, a0.object.rules, (Sl.nil : Sl Side), (Sl.nil : Sl Side)⟩ : Object)⟩ : Thing))) else (false, (⟨(⟨a0.object.ref, a0.object.good, a0.object.labels, a0.object.ports, a0.object.cls, a0.object.listeners, a0.object.parents, a0.object.hosts, a0.object.rules, (Sl.nil : Sl Side), (Sl.nil : Sl Side)⟩ : Object)⟩ : Thing))) else (false, (⟨(⟨a0.object.ref, a0.object.good, a0.object.labels, a0.object.ports, a0.object.cls, a0.object.listeners, a0.object.parents, a0.object.hosts, a0.object.rules, (Sl.nil : Sl Side), (Sl.nil : Sl Side)⟩ : Object)⟩ : Thing))) else (false, (⟨(⟨a0.object.ref, a0.object.good, a0.object.labels, a0.object.ports, a0.object.cls, a0.object.listeners, a0.object.parents, a0.object.hosts, a0.object.rules, (Sl.nil : Sl Side), (Sl.nil : Sl Side)⟩ : Object)⟩ : Thing))
theorem c136 (a0 : Thing) {w0 w : World} {H0 H : PH} {L : List Own} {b0p : Nat} (st : St w0 w H0 H (.box b0p (.cells (Thing.c a0).toArray 192 (0, 0)) :: L)) (k0p : Thing.Ok 1048576 H a0) : SpecO Tryz.prog 136 [.pointer (some (⟨b0p, 0, none⟩ : Addr))].toArray w w0 H0 H (.box b0p (.cells (Thing.c (m136 a0).2).toArray 192 (0, 0)) :: L) (fun H' v => v = .bool ((m136 a0).1) ∧ Thing.Ok 1048576 H' ((m136 a0).2)) := by
 refine SpecO.enter Tryz.func136 rfl Tryz.ntmps136 rfl ?_
 replace st : St w0 w H0 H (Own.box b0p (.cells #[.int .i64 a0.object.ref.kind, .string a0.object.ref.space, .string a0.object.ref.name, .bool a0.object.good, a0.object.labels.v, a0.object.ports.v, .string a0.object.cls, a0.object.listeners.v, a0.object.parents.v, a0.object.hosts.v, a0.object.rules.v, a0.object.frm.v, a0.object.to.v] 192 (0, 0)) :: L) := st
 refine CW.seq (CW.reg (WL.as rfl (WL.nt (CW.seq ?_))))
 refine CW.regS (C := Cl w0 H [Own.box b0p (.cells #[.int .i64 a0.object.ref.kind, .string a0.object.ref.space, .string a0.object.ref.name, .bool a0.object.good, a0.object.labels.v, a0.object.ports.v, .string a0.object.cls, a0.object.listeners.v, a0.object.parents.v, a0.object.hosts.v, a0.object.rules.v, a0.object.frm.v, a0.object.to.v] 192 (0, 0))]) (tail := []) (S := Grew w0 H0 H (Own.box b0p (.cells #[.int .i64 a0.object.ref.kind, .string a0.object.ref.space, .string a0.object.ref.name, .bool a0.object.good, a0.object.labels.v, a0.object.ports.v, .string a0.object.cls, a0.object.listeners.v, a0.object.parents.v, a0.object.hosts.v, a0.object.rules.v, a0.object.frm.v, a0.object.to.v] 192 (0, 0)) :: L)) mixed (fun W' h1 h2 h3 h4 => grew_start st h1 h2 h3 h4) (n := 12) rfl ?_
 refine WS.pk 0 rfl (good_grew (Le.refl _) ((subC (.head _) subN))) (fun W hC => Pu.move rfl) ?_
 refine WS.pk 1 rfl (good_grew (Le.refl _) ((subC (.head _) subN))) (fun W hC => Pu.nilc rfl) ?_
 refine WS.pk 2 rfl (good_grew (Le.refl _) ((subC (.head _) subN))) (fun W hC => Pu.fa rfl fo192_0) ?_
 refine WS.pk 3 rfl (good_grew (Le.refl _) ((subC (.head _) subN))) (fun W hC => Pu.fa rfl fo32_9) ?_
 refine WS.pk 4 rfl (good_grew (Le.refl _) ((subC (.head _) subN))) (fun W hC => Pu.load rfl ty30 ((AtW.block (hC.2 _ (.head _)).2).drop 11) rfl) ?_
 refine WS.pk 5 rfl (good_grew (Le.refl _) ((subC (.head _) subN))) (fun W hC => Pu.move rfl) ?_
 refine WS.pk 6 rfl (good_grew (Le.refl _) ((subC (.head _) subN))) (fun W hC => Pu.nilc rfl) ?_
 refine WS.pk 7 rfl (good_grew (Le.refl _) ((subC (.head _) subN))) (fun W hC => Pu.fa rfl fo192_0) ?_
 refine WS.pk 8 rfl (good_grew (Le.refl _) ((subC (.head _) subN))) (fun W hC => Pu.fa rfl fo32_10) ?_
 refine WS.pk 9 rfl (good_grew (Le.refl _) ((subC (.head _) subN))) (fun W hC => Pu.load rfl ty30 ((AtW.block (hC.2 _ (.head _)).2).drop 12) rfl) ?_
 refine WS.pk 10 rfl (good_grew (Le.refl _) ((subC (.head _) subN))) (fun W hC => Pu.assign rfl) ?_
 refine WS.pk 11 rfl (good_grew (Le.refl _) ((subC (.head _) subN))) (fun W hC => Pu.assign rfl) ?_
 refine WS.fin (by kernel_rfl) (fun W3 H1 st l2 => ?_)
 refine QX.thenN (CW.seq (CW.reg (WL.mv rfl (WL.mv rfl (WL.pv (Pu.nilc rfl) (WL.pv (Pu.fa rfl fo192_0) (WL.pv (Pu.fa rfl fo32_9) ?_)))))))
 refine WL.store (o := 11) (c' := [.int .i64 a0.object.ref.kind, .string a0.object.ref.space, .string a0.object.ref.name, .bool a0.object.good, a0.object.labels.v, a0.object.ports.v, .string a0.object.cls, a0.object.listeners.v, a0.object.parents.v, a0.object.hosts.v, a0.object.rules.v, .slice none 0 0, a0.object.to.v]) rfl rfl rfl rfl ty30 rfl (one1 rfl rfl) rfl rfl st ?_
 intro W4 st
 refine WL.pv (Pu.nilc rfl) (WL.pv (Pu.fa rfl fo192_0) (WL.pv (Pu.fa rfl fo32_10) ?_))
 refine WL.store (o := 12) (c' := [.int .i64 a0.object.ref.kind, .string a0.object.ref.space, .string a0.object.ref.name, .bool a0.object.good, a0.object.labels.v, a0.object.ports.v, .string a0.object.cls, a0.object.listeners.v, a0.object.parents.v, a0.object.hosts.v, a0.object.rules.v, .slice none 0 0, .slice none 0 0]) rfl rfl rfl rfl ty30 rfl (one1 rfl rfl) rfl rfl st ?_
 intro W5 st
 refine WL.nt (CW.seq (CW.reg (WL.as rfl (WL.nt (CW.seq (CW.reg (WL.as rfl (WL.nt (CW.seq ?_)))))))))
 refine CW.reg (WL.mv rfl ?_)
 have z6 : a0.object.frm.l.length ≤ 1048576 := (k0p.object.frm.le l2).top
 refine WL.pv (Pu.lens (n := a0.object.frm.l.length) rfl sl30) (WL.pv (Pu.igt rfl rfl) (WL.mv rfl ?_))
 refine WL.splitP 28 rfl dT dF (fun h7 => ?_) (fun h7 => ?_)
 ·refine WL.mv rfl ?_
  have z8 : a0.object.to.l.length ≤ 1048576 := (k0p.object.to.le l2).top
  refine WL.pv (Pu.lens (n := a0.object.to.l.length) rfl sl30) (WL.pv (Pu.igt rfl rfl) (WL.pv (Pu.pickT rfl rfl) (WL.mv rfl ?_)))
  refine WL.splitP 33 rfl dT dF (fun h9 => ?_) (fun h9 => ?_)
  ·refine WL.mv rfl ?_
   refine WL.mv rfl ?_
   refine WL.callv rfl rfl en207 rfl rfl st (c207 a0.object.frm 4 205 [] (fun x0 => m205 x0) st.sub (k0p.object.frm.le l2) en205 (fun x0 w' H' lq11 hs o0 => c205 x0 hs o0)) ?_
   intro W10 st
   refine WL.pv (Pu.pickT rfl rfl) (WL.mv rfl ?_)
   refine WL.splitP 38 rfl rT rF (fun h12 => ?_) (fun h12 => ?_)
   ·refine WL.mv rfl ?_
    refine WL.mv rfl ?_
    refine WL.callv rfl rfl en207 rfl rfl st (c207 a0.object.to 4 206 [] (fun x0 => m206 x0) st.sub (k0p.object.to.le l2) en206 (fun x0 w' H' lq14 hs o0 => c206 x0 hs o0)) ?_
    intro W13 st
    refine WL.pv (Pu.pickT rfl rfl) (WL.as rfl (WL.nt ?_))
    refine CW.ret (fun a ha => finO Tryz.results136 st (.tmp rfl .nil) (congrArg (fun z : Bool × Thing => Own.box b0p (.cells (Thing.c z.2).toArray 192 (0, 0)) :: L) (Eq.symm (show m136 a0 = (m207 a0.object.to.l 4 (fun x0 => m206 x0), (⟨(⟨a0.object.ref, a0.object.good, a0.object.labels, a0.object.ports, a0.object.cls, a0.object.listeners, a0.object.parents, a0.object.hosts, a0.object.rules, (Sl.nil : Sl Side), (Sl.nil : Sl Side)⟩ : Object)⟩ : Thing)) from (if_pos h7).trans ((if_pos h9).trans (if_pos h12))))) l2 ?_ ha)
    exact ⟨congrArg (fun z : Bool × Thing => Value.bool z.1) (Eq.symm (show m136 a0 = (m207 a0.object.to.l 4 (fun x0 => m206 x0), (⟨(⟨a0.object.ref, a0.object.good, a0.object.labels, a0.object.ports, a0.object.cls, a0.object.listeners, a0.object.parents, a0.object.hosts, a0.object.rules, (Sl.nil : Sl Side), (Sl.nil : Sl Side)⟩ : Object)⟩ : Thing)) from (if_pos h7).trans ((if_pos h9).trans (if_pos h12)))), (congrArg (fun z : Bool × Thing => Thing.Ok 1048576 H1 z.2) (Eq.symm (show m136 a0 = (m207 a0.object.to.l 4 (fun x0 => m206 x0), (⟨(⟨a0.object.ref, a0.object.good, a0.object.labels, a0.object.ports, a0.object.cls, a0.object.listeners, a0.object.parents, a0.object.hosts, a0.object.rules, (Sl.nil : Sl Side), (Sl.nil : Sl Side)⟩ : Object)⟩ : Thing)) from (if_pos h7).trans ((if_pos h9).trans (if_pos h12))))).mp (show Thing.Ok 1048576 H1 (⟨(⟨a0.object.ref, a0.object.good, a0.object.labels, a0.object.ports, a0.object.cls, a0.object.listeners, a0.object.parents, a0.object.hosts, a0.object.rules, (Sl.nil : Sl Side), (Sl.nil : Sl Side)⟩ : Object)⟩ : Thing) from ⟨⟨(k0p.object.ref.le l2), (k0p.object.labels.le l2), (k0p.object.ports.le l2), k0p.object.cls, (k0p.object.listeners.le l2), (k0p.object.parents.le l2), (k0p.object.hosts.le l2), (k0p.object.rules.le l2), Sl.Ok.nil, Sl.Ok.nil⟩⟩)⟩
   ·refine WL.of (WL.of (WL.of (WL.pv (Pu.pickF rfl rfl) (WL.as rfl (WL.nt ?_)))))
    refine CW.ret (fun a ha => finO Tryz.results136 st (.tmp rfl .nil) (congrArg (fun z : Bool × Thing => Own.box b0p (.cells (Thing.c z.2).toArray 192 (0, 0)) :: L) (Eq.symm (show m136 a0 = (false, (⟨(⟨a0.object.ref, a0.object.good, a0.object.labels, a0.object.ports, a0.object.cls, a0.object.listeners, a0.object.parents, a0.object.hosts, a0.object.rules, (Sl.nil : Sl Side), (Sl.nil : Sl Side)⟩ : Object)⟩ : Thing)) from (if_pos h7).trans ((if_pos h9).trans (if_neg h12))))) l2 ?_ ha)
    exact ⟨congrArg (fun z : Bool × Thing => Value.bool z.1) (Eq.symm (show m136 a0 = (false, (⟨(⟨a0.object.ref, a0.object.good, a0.object.labels, a0.object.ports, a0.object.cls, a0.object.listeners, a0.object.parents, a0.object.hosts, a0.object.rules, (Sl.nil : Sl Side), (Sl.nil : Sl Side)⟩ : Object)⟩ : Thing)) from (if_pos h7).trans ((if_pos h9).trans (if_neg h12)))), (congrArg (fun z : Bool × Thing => Thing.Ok 1048576 H1 z.2) (Eq.symm (show m136 a0 = (false, (⟨(⟨a0.object.ref, a0.object.good, a0.object.labels, a0.object.ports, a0.object.cls, a0.object.listeners, a0.object.parents, a0.object.hosts, a0.object.rules, (Sl.nil : Sl Side), (Sl.nil : Sl Side)⟩ : Object)⟩ : Thing)) from (if_pos h7).trans ((if_pos h9).trans (if_neg h12))))).mp (show Thing.Ok 1048576 H1 (⟨(⟨a0.object.ref, a0.object.good, a0.object.labels, a0.object.ports, a0.object.cls, a0.object.listeners, a0.object.parents, a0.object.hosts, a0.object.rules, (Sl.nil : Sl Side), (Sl.nil : Sl Side)⟩ : Object)⟩ : Thing) from ⟨⟨(k0p.object.ref.le l2), (k0p.object.labels.le l2), (k0p.object.ports.le l2), k0p.object.cls, (k0p.object.listeners.le l2), (k0p.object.parents.le l2), (k0p.object.hosts.le l2), (k0p.object.rules.le l2), Sl.Ok.nil, Sl.Ok.nil⟩⟩)⟩
  ·refine WL.of (WL.of (WL.of (WL.pv (Pu.pickF rfl rfl) (WL.mv rfl (WL.of (WL.of (WL.of (WL.pv (Pu.pickF rfl rfl) (WL.as rfl ?_)))))))))
   refine WL.nt ?_
   refine CW.ret (fun a ha => finO Tryz.results136 st (.tmp rfl .nil) (congrArg (fun z : Bool × Thing => Own.box b0p (.cells (Thing.c z.2).toArray 192 (0, 0)) :: L) (Eq.symm (show m136 a0 = (false, (⟨(⟨a0.object.ref, a0.object.good, a0.object.labels, a0.object.ports, a0.object.cls, a0.object.listeners, a0.object.parents, a0.object.hosts, a0.object.rules, (Sl.nil : Sl Side), (Sl.nil : Sl Side)⟩ : Object)⟩ : Thing)) from (if_pos h7).trans (if_neg h9)))) l2 ?_ ha)
   exact ⟨congrArg (fun z : Bool × Thing => Value.bool z.1) (Eq.symm (show m136 a0 = (false, (⟨(⟨a0.object.ref, a0.object.good, a0.object.labels, a0.object.ports, a0.object.cls, a0.object.listeners, a0.object.parents, a0.object.hosts, a0.object.rules, (Sl.nil : Sl Side), (Sl.nil : Sl Side)⟩ : Object)⟩ : Thing)) from (if_pos h7).trans (if_neg h9))), (congrArg (fun z : Bool × Thing => Thing.Ok 1048576 H1 z.2) (Eq.symm (show m136 a0 = (false, (⟨(⟨a0.object.ref, a0.object.good, a0.object.labels, a0.object.ports, a0.object.cls, a0.object.listeners, a0.object.parents, a0.object.hosts, a0.object.rules, (Sl.nil : Sl Side), (Sl.nil : Sl Side)⟩ : Object)⟩ : Thing)) from (if_pos h7).trans (if_neg h9)))).mp (show Thing.Ok 1048576 H1 (⟨(⟨a0.object.ref, a0.object.good, a0.object.labels, a0.object.ports, a0.object.cls, a0.object.listeners, a0.object.parents, a0.object.hosts, a0.object.rules, (Sl.nil : Sl Side), (Sl.nil : Sl Side)⟩ : Object)⟩ : Thing) from ⟨⟨(k0p.object.ref.le l2), (k0p.object.labels.le l2), (k0p.object.ports.le l2), k0p.object.cls, (k0p.object.listeners.le l2), (k0p.object.parents.le l2), (k0p.object.hosts.le l2), (k0p.object.rules.le l2), Sl.Ok.nil, Sl.Ok.nil⟩⟩)⟩
 ·refine WL.of (WL.of (WL.of (WL.pv (Pu.pickF rfl rfl) (WL.mv rfl (WL.of (WL.of (WL.of (WL.pv (Pu.pickF rfl rfl) (WL.mv rfl ?_)))))))))
  refine WL.of (WL.of (WL.of (WL.pv (Pu.pickF rfl rfl) (WL.as rfl (WL.nt ?_)))))
  refine CW.ret (fun a ha => finO Tryz.results136 st (.tmp rfl .nil) (congrArg (fun z : Bool × Thing => Own.box b0p (.cells (Thing.c z.2).toArray 192 (0, 0)) :: L) (Eq.symm (show m136 a0 = (false, (⟨(⟨a0.object.ref, a0.object.good, a0.object.labels, a0.object.ports, a0.object.cls, a0.object.listeners, a0.object.parents, a0.object.hosts, a0.object.rules, (Sl.nil : Sl Side), (Sl.nil : Sl Side)⟩ : Object)⟩ : Thing)) from if_neg h7))) l2 ?_ ha)
  exact ⟨congrArg (fun z : Bool × Thing => Value.bool z.1) (Eq.symm (show m136 a0 = (false, (⟨(⟨a0.object.ref, a0.object.good, a0.object.labels, a0.object.ports, a0.object.cls, a0.object.listeners, a0.object.parents, a0.object.hosts, a0.object.rules, (Sl.nil : Sl Side), (Sl.nil : Sl Side)⟩ : Object)⟩ : Thing)) from if_neg h7)), (congrArg (fun z : Bool × Thing => Thing.Ok 1048576 H1 z.2) (Eq.symm (show m136 a0 = (false, (⟨(⟨a0.object.ref, a0.object.good, a0.object.labels, a0.object.ports, a0.object.cls, a0.object.listeners, a0.object.parents, a0.object.hosts, a0.object.rules, (Sl.nil : Sl Side), (Sl.nil : Sl Side)⟩ : Object)⟩ : Thing)) from if_neg h7))).mp (show Thing.Ok 1048576 H1 (⟨(⟨a0.object.ref, a0.object.good, a0.object.labels, a0.object.ports, a0.object.cls, a0.object.listeners, a0.object.parents, a0.object.hosts, a0.object.rules, (Sl.nil : Sl Side), (Sl.nil : Sl Side)⟩ : Object)⟩ : Thing) from ⟨⟨(k0p.object.ref.le l2), (k0p.object.labels.le l2), (k0p.object.ports.le l2), k0p.object.cls, (k0p.object.listeners.le l2), (k0p.object.parents.le l2), (k0p.object.hosts.le l2), (k0p.object.rules.le l2), Sl.Ok.nil, Sl.Ok.nil⟩⟩)⟩
/-! slices.Equal[[]toll api.Pair,toll api.Pair] -/
def m176_l0 (a0 : List Pair) (a1 : List Pair) : Nat → Int → (Bool ⊕ Unit)
 | 0, _ => .inr ()
 | n6 + 1, r5 => if lg a0 r5 = lg a1 r5 then (m176_l0 a0 a1 n6 (r5 + 1)) else .inl false
def m176 (a0 : List Pair) (a1 : List Pair) : Bool :=
 if (a0.length : Int) = (a1.length : Int) then (lk2 (m176_l0 a0 a1 (((a0.length : Int) - 0).toNat) 0) (fun _ => true)) else false
theorem c176 (a0 : Sl Pair) (a1 : Sl Pair) {w : World} {H : PH} (hs : Sub H w) (k0p : Sl.Ok 1048576 H a0) (k1p : Sl.Ok 1048576 H a1) : Spec Tryz.prog 176 [a0.v, a1.v].toArray w H (fun _ v => v = .bool (m176 a0.l a1.l)) := by
 refine Spec.enter Tryz.func176 rfl Tryz.ntmps176 rfl ?_
 have st := St.start hs
 refine CW.seq (CW.reg (WL.as rfl (WL.nt (CW.seq (CW.seq (CW.reg (WL.mv rfl ?_)))))))
 have z1 : a0.l.length ≤ 1048576 := k0p.top
 refine WL.pv (Pu.lens (n := a0.l.length) rfl sl24) (WL.mv rfl ?_)
 have z2 : a1.l.length ≤ 1048576 := k1p.top
 refine WL.pv (Pu.lens (n := a1.l.length) rfl sl24) (WL.pv (Pu.ine rfl rfl) (WL.nt ?_))
 refine CW.condP 10 rfl nT nF (fun h3 => ?_) (fun h3 => ?_)
 ·refine CW.seq (CW.reg (WL.as rfl (WL.nt ?_)))
  refine CW.ret (QX.thenR (finA Tryz.results176 st (.tmp rfl .nil) ?_))
  exact vb (if_neg h3)
 ·refine CW.skip (QX.thenN ?_)
  refine CW.seq (CW.seq (CW.reg (WL.mv rfl ?_)))
  have z4 : a0.l.length ≤ 1048576 := k0p.top
  refine WL.pv (Pu.lens (n := a0.l.length) rfl sl24) (WL.mv rfl (WL.nt ?_))
  refine (CW.cuts (fun (s : Unit) W => (∃ H', St w W H H' [] ∧ Le H H') ∧ m176_l0 a0.l a1.l (((a0.l.length : Int) - 0).toNat) 0 = .inr ()) (fun (s : Unit) => []) ?_ ?_)
  ·refine CW.blk (CW.loop (fun (s : Nat × Int) W => (∃ H', St w W H H' [] ∧ Le H H') ∧ 0 ≤ s.2 ∧ s.2 ≤ (a0.l.length : Int) ∧ s.1 = ((a0.l.length : Int) - s.2).toNat ∧ m176_l0 a0.l a1.l s.1 s.2 = m176_l0 a0.l a1.l (((a0.l.length : Int) - 0).toNat) 0) (fun (s : Nat × Int) => [(0, a0.v), (1, a1.v), (12, Value.int .i64 (a0.l.length : Int)), (13, Value.int .i64 s.2)]) (fun s => s.1) ⟨((a0.l.length : Int) - 0).toNat, 0⟩ ⟨⟨_, st, Le.refl _⟩, (by first|omega|simp<;>omega), (by first|omega|simp<;>omega), rfl, rfl⟩ (.cons rfl (.cons rfl (.cons rfl (.cons rfl (.nil _))))) ?_)
   rintro ⟨N14, r5⟩ W9 ⟨⟨H7, st, l8⟩, g30, g31, g13, e10⟩
   replace g30 : 0 ≤ r5 := g30
   replace g31 : r5 ≤ (a0.l.length : Int) := g31
   replace g13 : N14 = ((a0.l.length : Int) - r5).toNat := g13
   replace e10 : m176_l0 a0.l a1.l N14 r5 = m176_l0 a0.l a1.l (((a0.l.length : Int) - 0).toNat) 0 := e10
   show CW _ _ _ _ [(0, a0.v), (1, a1.v), (12, Value.int .i64 (a0.l.length : Int)), (13, Value.int .i64 r5)] _
   refine CW.seq (CW.reg (WL.pv (Pu.ilt rfl rfl) (WL.nt (CW.seq ?_))))
   refine CW.condP 14 rfl dT dF (fun h15 => ?_) (fun h15 => ?_)
   ·obtain ⟨n6, rfl⟩ : ∃ k, N14 = k + 1 := ⟨N14 - 1, by omega⟩
    refine CW.skip (QX.thenN ?_)
    refine CW.seq ?_
    refine CW.blk ?_
    refine CW.seq (CW.reg (WL.mv rfl (WL.as rfl (WL.nt (CW.seq ?_)))))
    refine CW.regS (C := Cl w H7 []) (tail := []) (S := Grew w H H7 []) mixed (fun W' h1 h2 h3 h4 => grew_start st h1 h2 h3 h4) (n := 9) rfl ?_
    refine WS.pk 0 rfl gg (fun W hC => Pu.move rfl) ?_
    refine WS.pk 1 rfl gg (fun W hC => Pu.move rfl) ?_
    have y16 := lg_get (l := a0.l) (i := r5) (by omega) (by omega)
    have k19 : Pair.Ok 1048576 H7 (lg a0.l r5) := ((k0p.le l8).get _ _ y16).2
    obtain ⟨ad17, qa20, f18⟩ := ((k0p.le l8).get _ _ y16).1
    refine WS.pk 2 rfl gg (fun W hC => Pu.idx0 rfl rfl sl24 (by first|omega|simp<;>omega) (by first|omega|simp<;>omega) qa20) ?_
    refine WS.pk 3 rfl gg (fun W hC => Pu.load (v := Pair.v (lg a0.l r5)) rfl ty182 (f18.w hC.1) rfl) ?_
    refine WS.pk 4 rfl gg (fun W hC => Pu.move rfl) ?_
    refine WS.pk 5 rfl gg (fun W hC => Pu.move rfl) ?_
    have y21 := lg_get (l := a1.l) (i := r5) (by omega) (by omega)
    have k24 : Pair.Ok 1048576 H7 (lg a1.l r5) := ((k1p.le l8).get _ _ y21).2
    obtain ⟨ad22, qa25, f23⟩ := ((k1p.le l8).get _ _ y21).1
    refine WS.pk 6 rfl gg (fun W hC => Pu.idx0 rfl rfl sl24 (by first|omega|simp<;>omega) (by first|omega|simp<;>omega) qa25) ?_
    refine WS.pk 7 rfl gg (fun W hC => Pu.load (v := Pair.v (lg a1.l r5)) rfl ty182 (f23.w hC.1) rfl) ?_
    refine WS.pk 8 rfl gg (fun W hC => Pu.bin rfl rfl (eqg182 _ (lg a0.l r5) (lg a1.l r5)) (ne182 (lg a0.l r5) (lg a1.l r5))) ?_
    refine WS.fin (by kernel_rfl) (fun W28 H26 st l27 => ?_)
    refine QX.thenN ?_
    refine CW.condP 24 rfl nT nF (fun h29 => ?_) (fun h29 => ?_)
    ·refine CW.seq (CW.reg (WL.as rfl (WL.nt ?_)))
     refine CW.ret (QX.blkR (QX.thenR (QX.thenR (QX.blkR (QX.thenR (QX.thenR (finA Tryz.results176 st (.tmp rfl .nil) ?_)))))))
     exact vb ((if_pos h3).trans (lk_inl ((Eq.symm e10).trans (if_neg h29))))
    ·refine CW.skip (QX.blkN (QX.thenN ?_))
     refine CW.reg (WL.pv (Pu.iadd rfl rfl (c := r5 + 1) (w64 (by omega) (by omega))) (WL.mv rfl ?_))
     refine WL.nil (QX.round ⟨n6, r5 + 1⟩ ?_ (Nat.lt_succ_self _) (.cons rfl (.cons rfl (.cons rfl (.cons rfl (.nil _))))))
     exact ⟨⟨_, st, (l8.trans l27)⟩, (by first|omega|simp<;>omega), (by first|omega|simp<;>omega), (by first|omega|simp<;>omega), Eq.symm ((Eq.symm e10).trans (if_pos h29))⟩
   ·obtain rfl : N14 = 0 := by omega
    refine CW.exit (QX.thenE (QX.thenE (QX.hit (QX.meets () ?_ (.nil _)))))
    exact ⟨⟨_, st, l8⟩, Eq.symm e10⟩
  rintro _ W34 ⟨⟨H32, st, l33⟩, e35⟩
  show QX _ _ _ [] _
  refine QX.thenN (CW.seq (CW.reg (WL.as rfl (WL.nt ?_))))
  refine CW.ret (finA Tryz.results176 st (.tmp rfl .nil) ?_)
  exact vb ((if_pos h3).trans (lk_inr e35))
/-! slices.Equal[[]int,int] -/
def m177_l0 (a0 : List Int) (a1 : List Int) : Nat → Int → (Bool ⊕ Unit)
 | 0, _ => .inr ()
 | n6 + 1, r5 => if (lg a0 r5) = lg a1 r5 then (m177_l0 a0 a1 n6 (r5 + 1)) else .inl false
def m177 (a0 : List Int) (a1 : List Int) : Bool :=
 if (a0.length : Int) = (a1.length : Int) then (lk2 (m177_l0 a0 a1 (((a0.length : Int) - 0).toNat) 0) (fun _ => true)) else false
theorem c177 (a0 : Sl Int) (a1 : Sl Int) {w : World} {H : PH} (hs : Sub H w) (k0p : Sl.Ok 1048576 H a0) (k1p : Sl.Ok 1048576 H a1) : Spec Tryz.prog 177 [a0.v, a1.v].toArray w H (fun _ v => v = .bool (m177 a0.l a1.l)) := by
 refine Spec.enter Tryz.func177 rfl Tryz.ntmps177 rfl ?_
 have st := St.start hs
 refine CW.seq (CW.reg (WL.as rfl (WL.nt (CW.seq (CW.seq (CW.reg (WL.mv rfl ?_)))))))
 have z1 : a0.l.length ≤ 1048576 := k0p.top
 refine WL.pv (Pu.lens (n := a0.l.length) rfl sl25) (WL.mv rfl ?_)
 have z2 : a1.l.length ≤ 1048576 := k1p.top
 refine WL.pv (Pu.lens (n := a1.l.length) rfl sl25) (WL.pv (Pu.ine rfl rfl) (WL.nt ?_))
 refine CW.condP 10 rfl nT nF (fun h3 => ?_) (fun h3 => ?_)
 ·refine CW.seq (CW.reg (WL.as rfl (WL.nt ?_)))
  refine CW.ret (QX.thenR (finA Tryz.results177 st (.tmp rfl .nil) ?_))
  exact vb (if_neg h3)
 ·refine CW.skip (QX.thenN ?_)
  refine CW.seq (CW.seq (CW.reg (WL.mv rfl ?_)))
  have z4 : a0.l.length ≤ 1048576 := k0p.top
  refine WL.pv (Pu.lens (n := a0.l.length) rfl sl25) (WL.mv rfl (WL.nt ?_))
  refine (CW.cuts (fun (s : Unit) W => (∃ H', St w W H H' [] ∧ Le H H') ∧ m177_l0 a0.l a1.l (((a0.l.length : Int) - 0).toNat) 0 = .inr ()) (fun (s : Unit) => []) ?_ ?_)
  ·refine CW.blk (CW.loop (fun (s : Nat × Int) W => (∃ H', St w W H H' [] ∧ Le H H') ∧ 0 ≤ s.2 ∧ s.2 ≤ (a0.l.length : Int) ∧ s.1 = ((a0.l.length : Int) - s.2).toNat ∧ m177_l0 a0.l a1.l s.1 s.2 = m177_l0 a0.l a1.l (((a0.l.length : Int) - 0).toNat) 0) (fun (s : Nat × Int) => [(0, a0.v), (1, a1.v), (12, Value.int .i64 (a0.l.length : Int)), (13, Value.int .i64 s.2)]) (fun s => s.1) ⟨((a0.l.length : Int) - 0).toNat, 0⟩ ⟨⟨_, st, Le.refl _⟩, (by first|omega|simp<;>omega), (by first|omega|simp<;>omega), rfl, rfl⟩ (.cons rfl (.cons rfl (.cons rfl (.cons rfl (.nil _))))) ?_)
   rintro ⟨N14, r5⟩ W9 ⟨⟨H7, st, l8⟩, g30, g31, g13, e10⟩
   replace g30 : 0 ≤ r5 := g30
   replace g31 : r5 ≤ (a0.l.length : Int) := g31
   replace g13 : N14 = ((a0.l.length : Int) - r5).toNat := g13
   replace e10 : m177_l0 a0.l a1.l N14 r5 = m177_l0 a0.l a1.l (((a0.l.length : Int) - 0).toNat) 0 := e10
   show CW _ _ _ _ [(0, a0.v), (1, a1.v), (12, Value.int .i64 (a0.l.length : Int)), (13, Value.int .i64 r5)] _
   refine CW.seq (CW.reg (WL.pv (Pu.ilt rfl rfl) (WL.nt (CW.seq ?_))))
   refine CW.condP 14 rfl dT dF (fun h15 => ?_) (fun h15 => ?_)
   ·obtain ⟨n6, rfl⟩ : ∃ k, N14 = k + 1 := ⟨N14 - 1, by omega⟩
    refine CW.skip (QX.thenN ?_)
    refine CW.seq ?_
    refine CW.blk ?_
    refine CW.seq (CW.reg (WL.mv rfl (WL.as rfl (WL.nt (CW.seq ?_)))))
    refine CW.regS (C := Cl w H7 []) (tail := []) (S := Grew w H H7 []) mixed (fun W' h1 h2 h3 h4 => grew_start st h1 h2 h3 h4) (n := 9) rfl ?_
    refine WS.pk 0 rfl gg (fun W hC => Pu.move rfl) ?_
    refine WS.pk 1 rfl gg (fun W hC => Pu.move rfl) ?_
    have y16 := lg_get (l := a0.l) (i := r5) (by omega) (by omega)
    obtain ⟨ad17, qa20, f18⟩ := ((k0p.le l8).get _ _ y16).1
    refine WS.pk 2 rfl gg (fun W hC => Pu.idx0 rfl rfl sl25 (by first|omega|simp<;>omega) (by first|omega|simp<;>omega) qa20) ?_
    refine WS.pk 3 rfl gg (fun W hC => Pu.load rfl ty3 (f18.w hC.1) rfl) ?_
    refine WS.pk 4 rfl gg (fun W hC => Pu.move rfl) ?_
    refine WS.pk 5 rfl gg (fun W hC => Pu.move rfl) ?_
    have y21 := lg_get (l := a1.l) (i := r5) (by omega) (by omega)
    obtain ⟨ad22, qa25, f23⟩ := ((k1p.le l8).get _ _ y21).1
    refine WS.pk 6 rfl gg (fun W hC => Pu.idx0 rfl rfl sl25 (by first|omega|simp<;>omega) (by first|omega|simp<;>omega) qa25) ?_
    refine WS.pk 7 rfl gg (fun W hC => Pu.load rfl ty3 (f23.w hC.1) rfl) ?_
    refine WS.pk 8 rfl gg (fun W hC => Pu.ine rfl rfl) ?_
    refine WS.fin (by kernel_rfl) (fun W28 H26 st l27 => ?_)
    refine QX.thenN ?_
    refine CW.condP 24 rfl nT nF (fun h29 => ?_) (fun h29 => ?_)
    ·refine CW.seq (CW.reg (WL.as rfl (WL.nt ?_)))
     refine CW.ret (QX.blkR (QX.thenR (QX.thenR (QX.blkR (QX.thenR (QX.thenR (finA Tryz.results177 st (.tmp rfl .nil) ?_)))))))
     exact vb ((if_pos h3).trans (lk_inl ((Eq.symm e10).trans (if_neg h29))))
    ·refine CW.skip (QX.blkN (QX.thenN ?_))
     refine CW.reg (WL.pv (Pu.iadd rfl rfl (c := r5 + 1) (w64 (by omega) (by omega))) (WL.mv rfl ?_))
     refine WL.nil (QX.round ⟨n6, r5 + 1⟩ ?_ (Nat.lt_succ_self _) (.cons rfl (.cons rfl (.cons rfl (.cons rfl (.nil _))))))
     exact ⟨⟨_, st, (l8.trans l27)⟩, (by first|omega|simp<;>omega), (by first|omega|simp<;>omega), (by first|omega|simp<;>omega), Eq.symm ((Eq.symm e10).trans (if_pos h29))⟩
   ·obtain rfl : N14 = 0 := by omega
    refine CW.exit (QX.thenE (QX.thenE (QX.hit (QX.meets () ?_ (.nil _)))))
    exact ⟨⟨_, st, l8⟩, Eq.symm e10⟩
  rintro _ W34 ⟨⟨H32, st, l33⟩, e35⟩
  show QX _ _ _ [] _
  refine QX.thenN (CW.seq (CW.reg (WL.as rfl (WL.nt ?_))))
  refine CW.ret (finA Tryz.results177 st (.tmp rfl .nil) ?_)
  exact vb ((if_pos h3).trans (lk_inr e35))
/-! slices.Equal[[]string,string] -/
def m178_l0 (a0 : List ByteArray) (a1 : List ByteArray) : Nat → Int → (Bool ⊕ Unit)
 | 0, _ => .inr ()
 | n6 + 1, r5 => if lg a0 r5 = lg a1 r5 then (m178_l0 a0 a1 n6 (r5 + 1)) else .inl false
def m178 (a0 : List ByteArray) (a1 : List ByteArray) : Bool :=
 if (a0.length : Int) = (a1.length : Int) then (lk2 (m178_l0 a0 a1 (((a0.length : Int) - 0).toNat) 0) (fun _ => true)) else false
theorem c178 (a0 : Sl ByteArray) (a1 : Sl ByteArray) {w : World} {H : PH} (hs : Sub H w) (k0p : Sl.Ok 1048576 H a0) (k1p : Sl.Ok 1048576 H a1) : Spec Tryz.prog 178 [a0.v, a1.v].toArray w H (fun _ v => v = .bool (m178 a0.l a1.l)) := by
 refine Spec.enter Tryz.func178 rfl Tryz.ntmps178 rfl ?_
 have st := St.start hs
 refine CW.seq (CW.reg (WL.as rfl (WL.nt (CW.seq (CW.seq (CW.reg (WL.mv rfl ?_)))))))
 have z1 : a0.l.length ≤ 1048576 := k0p.top
 refine WL.pv (Pu.lens (n := a0.l.length) rfl sl28) (WL.mv rfl ?_)
 have z2 : a1.l.length ≤ 1048576 := k1p.top
 refine WL.pv (Pu.lens (n := a1.l.length) rfl sl28) (WL.pv (Pu.ine rfl rfl) (WL.nt ?_))
 refine CW.condP 10 rfl nT nF (fun h3 => ?_) (fun h3 => ?_)
 ·refine CW.seq (CW.reg (WL.as rfl (WL.nt ?_)))
  refine CW.ret (QX.thenR (finA Tryz.results178 st (.tmp rfl .nil) ?_))
  exact vb (if_neg h3)
 ·refine CW.skip (QX.thenN ?_)
  refine CW.seq (CW.seq (CW.reg (WL.mv rfl ?_)))
  have z4 : a0.l.length ≤ 1048576 := k0p.top
  refine WL.pv (Pu.lens (n := a0.l.length) rfl sl28) (WL.mv rfl (WL.nt ?_))
  refine (CW.cuts (fun (s : Unit) W => (∃ H', St w W H H' [] ∧ Le H H') ∧ m178_l0 a0.l a1.l (((a0.l.length : Int) - 0).toNat) 0 = .inr ()) (fun (s : Unit) => []) ?_ ?_)
  ·refine CW.blk (CW.loop (fun (s : Nat × Int) W => (∃ H', St w W H H' [] ∧ Le H H') ∧ 0 ≤ s.2 ∧ s.2 ≤ (a0.l.length : Int) ∧ s.1 = ((a0.l.length : Int) - s.2).toNat ∧ m178_l0 a0.l a1.l s.1 s.2 = m178_l0 a0.l a1.l (((a0.l.length : Int) - 0).toNat) 0) (fun (s : Nat × Int) => [(0, a0.v), (1, a1.v), (12, Value.int .i64 (a0.l.length : Int)), (13, Value.int .i64 s.2)]) (fun s => s.1) ⟨((a0.l.length : Int) - 0).toNat, 0⟩ ⟨⟨_, st, Le.refl _⟩, (by first|omega|simp<;>omega), (by first|omega|simp<;>omega), rfl, rfl⟩ (.cons rfl (.cons rfl (.cons rfl (.cons rfl (.nil _))))) ?_)
   rintro ⟨N14, r5⟩ W9 ⟨⟨H7, st, l8⟩, g30, g31, g13, e10⟩
   replace g30 : 0 ≤ r5 := g30
   replace g31 : r5 ≤ (a0.l.length : Int) := g31
   replace g13 : N14 = ((a0.l.length : Int) - r5).toNat := g13
   replace e10 : m178_l0 a0.l a1.l N14 r5 = m178_l0 a0.l a1.l (((a0.l.length : Int) - 0).toNat) 0 := e10
   show CW _ _ _ _ [(0, a0.v), (1, a1.v), (12, Value.int .i64 (a0.l.length : Int)), (13, Value.int .i64 r5)] _
   refine CW.seq (CW.reg (WL.pv (Pu.ilt rfl rfl) (WL.nt (CW.seq ?_))))
   refine CW.condP 14 rfl dT dF (fun h15 => ?_) (fun h15 => ?_)
   ·obtain ⟨n6, rfl⟩ : ∃ k, N14 = k + 1 := ⟨N14 - 1, by omega⟩
    refine CW.skip (QX.thenN ?_)
    refine CW.seq ?_
    refine CW.blk ?_
    refine CW.seq (CW.reg (WL.mv rfl (WL.as rfl (WL.nt (CW.seq ?_)))))
    refine CW.regS (C := Cl w H7 []) (tail := []) (S := Grew w H H7 []) mixed (fun W' h1 h2 h3 h4 => grew_start st h1 h2 h3 h4) (n := 9) rfl ?_
    refine WS.pk 0 rfl gg (fun W hC => Pu.move rfl) ?_
    refine WS.pk 1 rfl gg (fun W hC => Pu.move rfl) ?_
    have y16 := lg_get (l := a0.l) (i := r5) (by omega) (by omega)
    have k19 : (lg a0.l r5).size < 1048576 := ((k0p.le l8).get _ _ y16).2
    obtain ⟨ad17, qa20, f18⟩ := ((k0p.le l8).get _ _ y16).1
    refine WS.pk 2 rfl gg (fun W hC => Pu.idx0 rfl rfl sl28 (by first|omega|simp<;>omega) (by first|omega|simp<;>omega) qa20) ?_
    refine WS.pk 3 rfl gg (fun W hC => Pu.load rfl ty9 (f18.w hC.1) rfl) ?_
    refine WS.pk 4 rfl gg (fun W hC => Pu.move rfl) ?_
    refine WS.pk 5 rfl gg (fun W hC => Pu.move rfl) ?_
    have y21 := lg_get (l := a1.l) (i := r5) (by omega) (by omega)
    have k24 : (lg a1.l r5).size < 1048576 := ((k1p.le l8).get _ _ y21).2
    obtain ⟨ad22, qa25, f23⟩ := ((k1p.le l8).get _ _ y21).1
    refine WS.pk 6 rfl gg (fun W hC => Pu.idx0 rfl rfl sl28 (by first|omega|simp<;>omega) (by first|omega|simp<;>omega) qa25) ?_
    refine WS.pk 7 rfl gg (fun W hC => Pu.load rfl ty9 (f23.w hC.1) rfl) ?_
    refine WS.pk 8 rfl gg (fun W hC => Pu.sne rfl rfl) ?_
    refine WS.fin (by kernel_rfl) (fun W28 H26 st l27 => ?_)
    refine QX.thenN ?_
    refine CW.condP 24 rfl nT nF (fun h29 => ?_) (fun h29 => ?_)
    ·refine CW.seq (CW.reg (WL.as rfl (WL.nt ?_)))
     refine CW.ret (QX.blkR (QX.thenR (QX.thenR (QX.blkR (QX.thenR (QX.thenR (finA Tryz.results178 st (.tmp rfl .nil) ?_)))))))
     exact vb ((if_pos h3).trans (lk_inl ((Eq.symm e10).trans (if_neg h29))))
    ·refine CW.skip (QX.blkN (QX.thenN ?_))
     refine CW.reg (WL.pv (Pu.iadd rfl rfl (c := r5 + 1) (w64 (by omega) (by omega))) (WL.mv rfl ?_))
     refine WL.nil (QX.round ⟨n6, r5 + 1⟩ ?_ (Nat.lt_succ_self _) (.cons rfl (.cons rfl (.cons rfl (.cons rfl (.nil _))))))
     exact ⟨⟨_, st, (l8.trans l27)⟩, (by first|omega|simp<;>omega), (by first|omega|simp<;>omega), (by first|omega|simp<;>omega), Eq.symm ((Eq.symm e10).trans (if_pos h29))⟩
   ·obtain rfl : N14 = 0 := by omega
    refine CW.exit (QX.thenE (QX.thenE (QX.hit (QX.meets () ?_ (.nil _)))))
    exact ⟨⟨_, st, l8⟩, Eq.symm e10⟩
  rintro _ W34 ⟨⟨H32, st, l33⟩, e35⟩
  show QX _ _ _ [] _
  refine QX.thenN (CW.seq (CW.reg (WL.as rfl (WL.nt ?_))))
  refine CW.ret (finA Tryz.results178 st (.tmp rfl .nil) ?_)
  exact vb ((if_pos h3).trans (lk_inr e35))
/-! slices.Equal[[]toll api.Parent,toll api.Parent] -/
def m179_l0 (a0 : List Parent) (a1 : List Parent) : Nat → Int → (Bool ⊕ Unit)
 | 0, _ => .inr ()
 | n6 + 1, r5 => if lg a0 r5 = lg a1 r5 then (m179_l0 a0 a1 n6 (r5 + 1)) else .inl false
def m179 (a0 : List Parent) (a1 : List Parent) : Bool :=
 if (a0.length : Int) = (a1.length : Int) then (lk2 (m179_l0 a0 a1 (((a0.length : Int) - 0).toNat) 0) (fun _ => true)) else false
theorem c179 (a0 : Sl Parent) (a1 : Sl Parent) {w : World} {H : PH} (hs : Sub H w) (k0p : Sl.Ok 1048576 H a0) (k1p : Sl.Ok 1048576 H a1) : Spec Tryz.prog 179 [a0.v, a1.v].toArray w H (fun _ v => v = .bool (m179 a0.l a1.l)) := by
 refine Spec.enter Tryz.func179 rfl Tryz.ntmps179 rfl ?_
 have st := St.start hs
 refine CW.seq (CW.reg (WL.as rfl (WL.nt (CW.seq (CW.seq (CW.reg (WL.mv rfl ?_)))))))
 have z1 : a0.l.length ≤ 1048576 := k0p.top
 refine WL.pv (Pu.lens (n := a0.l.length) rfl sl27) (WL.mv rfl ?_)
 have z2 : a1.l.length ≤ 1048576 := k1p.top
 refine WL.pv (Pu.lens (n := a1.l.length) rfl sl27) (WL.pv (Pu.ine rfl rfl) (WL.nt ?_))
 refine CW.condP 10 rfl nT nF (fun h3 => ?_) (fun h3 => ?_)
 ·refine CW.seq (CW.reg (WL.as rfl (WL.nt ?_)))
  refine CW.ret (QX.thenR (finA Tryz.results179 st (.tmp rfl .nil) ?_))
  exact vb (if_neg h3)
 ·refine CW.skip (QX.thenN ?_)
  refine CW.seq (CW.seq (CW.reg (WL.mv rfl ?_)))
  have z4 : a0.l.length ≤ 1048576 := k0p.top
  refine WL.pv (Pu.lens (n := a0.l.length) rfl sl27) (WL.mv rfl (WL.nt ?_))
  refine (CW.cuts (fun (s : Unit) W => (∃ H', St w W H H' [] ∧ Le H H') ∧ m179_l0 a0.l a1.l (((a0.l.length : Int) - 0).toNat) 0 = .inr ()) (fun (s : Unit) => []) ?_ ?_)
  ·refine CW.blk (CW.loop (fun (s : Nat × Int) W => (∃ H', St w W H H' [] ∧ Le H H') ∧ 0 ≤ s.2 ∧ s.2 ≤ (a0.l.length : Int) ∧ s.1 = ((a0.l.length : Int) - s.2).toNat ∧ m179_l0 a0.l a1.l s.1 s.2 = m179_l0 a0.l a1.l (((a0.l.length : Int) - 0).toNat) 0) (fun (s : Nat × Int) => [(0, a0.v), (1, a1.v), (12, Value.int .i64 (a0.l.length : Int)), (13, Value.int .i64 s.2)]) (fun s => s.1) ⟨((a0.l.length : Int) - 0).toNat, 0⟩ ⟨⟨_, st, Le.refl _⟩, (by first|omega|simp<;>omega), (by first|omega|simp<;>omega), rfl, rfl⟩ (.cons rfl (.cons rfl (.cons rfl (.cons rfl (.nil _))))) ?_)
   rintro ⟨N14, r5⟩ W9 ⟨⟨H7, st, l8⟩, g30, g31, g13, e10⟩
   replace g30 : 0 ≤ r5 := g30
   replace g31 : r5 ≤ (a0.l.length : Int) := g31
   replace g13 : N14 = ((a0.l.length : Int) - r5).toNat := g13
   replace e10 : m179_l0 a0.l a1.l N14 r5 = m179_l0 a0.l a1.l (((a0.l.length : Int) - 0).toNat) 0 := e10
   show CW _ _ _ _ [(0, a0.v), (1, a1.v), (12, Value.int .i64 (a0.l.length : Int)), (13, Value.int .i64 r5)] _
   refine CW.seq (CW.reg (WL.pv (Pu.ilt rfl rfl) (WL.nt (CW.seq ?_))))
   refine CW.condP 14 rfl dT dF (fun h15 => ?_) (fun h15 => ?_)
   ·obtain ⟨n6, rfl⟩ : ∃ k, N14 = k + 1 := ⟨N14 - 1, by omega⟩
    refine CW.skip (QX.thenN ?_)
    refine CW.seq ?_
    refine CW.blk ?_
    refine CW.seq (CW.reg (WL.mv rfl (WL.as rfl (WL.nt (CW.seq ?_)))))
    refine CW.regS (C := Cl w H7 []) (tail := []) (S := Grew w H H7 []) mixed (fun W' h1 h2 h3 h4 => grew_start st h1 h2 h3 h4) (n := 9) rfl ?_
    refine WS.pk 0 rfl gg (fun W hC => Pu.move rfl) ?_
    refine WS.pk 1 rfl gg (fun W hC => Pu.move rfl) ?_
    have y16 := lg_get (l := a0.l) (i := r5) (by omega) (by omega)
    have k19 : Parent.Ok 1048576 H7 (lg a0.l r5) := ((k0p.le l8).get _ _ y16).2
    obtain ⟨ad17, qa20, f18⟩ := ((k0p.le l8).get _ _ y16).1
    refine WS.pk 2 rfl gg (fun W hC => Pu.idx0 rfl rfl sl27 (by first|omega|simp<;>omega) (by first|omega|simp<;>omega) qa20) ?_
    refine WS.pk 3 rfl gg (fun W hC => Pu.load (v := Parent.v (lg a0.l r5)) rfl ty99 (f18.w hC.1) rfl) ?_
    refine WS.pk 4 rfl gg (fun W hC => Pu.move rfl) ?_
    refine WS.pk 5 rfl gg (fun W hC => Pu.move rfl) ?_
    have y21 := lg_get (l := a1.l) (i := r5) (by omega) (by omega)
    have k24 : Parent.Ok 1048576 H7 (lg a1.l r5) := ((k1p.le l8).get _ _ y21).2
    obtain ⟨ad22, qa25, f23⟩ := ((k1p.le l8).get _ _ y21).1
    refine WS.pk 6 rfl gg (fun W hC => Pu.idx0 rfl rfl sl27 (by first|omega|simp<;>omega) (by first|omega|simp<;>omega) qa25) ?_
    refine WS.pk 7 rfl gg (fun W hC => Pu.load (v := Parent.v (lg a1.l r5)) rfl ty99 (f23.w hC.1) rfl) ?_
    refine WS.pk 8 rfl gg (fun W hC => Pu.bin rfl rfl (eqg99 _ (lg a0.l r5) (lg a1.l r5)) (ne99 (lg a0.l r5) (lg a1.l r5))) ?_
    refine WS.fin (by kernel_rfl) (fun W28 H26 st l27 => ?_)
    refine QX.thenN ?_
    refine CW.condP 24 rfl nT nF (fun h29 => ?_) (fun h29 => ?_)
    ·refine CW.seq (CW.reg (WL.as rfl (WL.nt ?_)))
     refine CW.ret (QX.blkR (QX.thenR (QX.thenR (QX.blkR (QX.thenR (QX.thenR (finA Tryz.results179 st (.tmp rfl .nil) ?_)))))))
     exact vb ((if_pos h3).trans (lk_inl ((Eq.symm e10).trans (if_neg h29))))
    ·refine CW.skip (QX.blkN (QX.thenN ?_))
     refine CW.reg (WL.pv (Pu.iadd rfl rfl (c := r5 + 1) (w64 (by omega) (by omega))) (WL.mv rfl ?_))
     refine WL.nil (QX.round ⟨n6, r5 + 1⟩ ?_ (Nat.lt_succ_self _) (.cons rfl (.cons rfl (.cons rfl (.cons rfl (.nil _))))))
     exact ⟨⟨_, st, (l8.trans l27)⟩, (by first|omega|simp<;>omega), (by first|omega|simp<;>omega), (by first|omega|simp<;>omega), Eq.symm ((Eq.symm e10).trans (if_pos h29))⟩
   ·obtain rfl : N14 = 0 := by omega
    refine CW.exit (QX.thenE (QX.thenE (QX.hit (QX.meets () ?_ (.nil _)))))
    exact ⟨⟨_, st, l8⟩, Eq.symm e10⟩
  rintro _ W34 ⟨⟨H32, st, l33⟩, e35⟩
  show QX _ _ _ [] _
  refine QX.thenN (CW.seq (CW.reg (WL.as rfl (WL.nt ?_))))
  refine CW.ret (finA Tryz.results179 st (.tmp rfl .nil) ?_)
  exact vb ((if_pos h3).trans (lk_inr e35))
/-! slices.Equal[[]toll api.Side,toll api.Side] -/
def m180_l0 (a0 : List Side) (a1 : List Side) : Nat → Int → (Bool ⊕ Unit)
 | 0, _ => .inr ()
 | n6 + 1, r5 => if lg a0 r5 = lg a1 r5 then (m180_l0 a0 a1 n6 (r5 + 1)) else .inl false
def m180 (a0 : List Side) (a1 : List Side) : Bool :=
 if (a0.length : Int) = (a1.length : Int) then (lk2 (m180_l0 a0 a1 (((a0.length : Int) - 0).toNat) 0) (fun _ => true)) else false
theorem c180 (a0 : Sl Side) (a1 : Sl Side) {w : World} {H : PH} (hs : Sub H w) (k0p : Sl.Ok 1048576 H a0) (k1p : Sl.Ok 1048576 H a1) : Spec Tryz.prog 180 [a0.v, a1.v].toArray w H (fun _ v => v = .bool (m180 a0.l a1.l)) := by
 refine Spec.enter Tryz.func180 rfl Tryz.ntmps180 rfl ?_
 have st := St.start hs
 refine CW.seq (CW.reg (WL.as rfl (WL.nt (CW.seq (CW.seq (CW.reg (WL.mv rfl ?_)))))))
 have z1 : a0.l.length ≤ 1048576 := k0p.top
 refine WL.pv (Pu.lens (n := a0.l.length) rfl sl30) (WL.mv rfl ?_)
 have z2 : a1.l.length ≤ 1048576 := k1p.top
 refine WL.pv (Pu.lens (n := a1.l.length) rfl sl30) (WL.pv (Pu.ine rfl rfl) (WL.nt ?_))
 refine CW.condP 10 rfl nT nF (fun h3 => ?_) (fun h3 => ?_)
 ·refine CW.seq (CW.reg (WL.as rfl (WL.nt ?_)))
  refine CW.ret (QX.thenR (finA Tryz.results180 st (.tmp rfl .nil) ?_))
  exact vb (if_neg h3)
 ·refine CW.skip (QX.thenN ?_)
  refine CW.seq (CW.seq (CW.reg (WL.mv rfl ?_)))
  have z4 : a0.l.length ≤ 1048576 := k0p.top
  refine WL.pv (Pu.lens (n := a0.l.length) rfl sl30) (WL.mv rfl (WL.nt ?_))
  refine (CW.cuts (fun (s : Unit) W => (∃ H', St w W H H' [] ∧ Le H H') ∧ m180_l0 a0.l a1.l (((a0.l.length : Int) - 0).toNat) 0 = .inr ()) (fun (s : Unit) => []) ?_ ?_)
  ·refine CW.blk (CW.loop (fun (s : Nat × Int) W => (∃ H', St w W H H' [] ∧ Le H H') ∧ 0 ≤ s.2 ∧ s.2 ≤ (a0.l.length : Int) ∧ s.1 = ((a0.l.length : Int) - s.2).toNat ∧ m180_l0 a0.l a1.l s.1 s.2 = m180_l0 a0.l a1.l (((a0.l.length : Int) - 0).toNat) 0) (fun (s : Nat × Int) => [(0, a0.v), (1, a1.v), (12, Value.int .i64 (a0.l.length : Int)), (13, Value.int .i64 s.2)]) (fun s => s.1) ⟨((a0.l.length : Int) - 0).toNat, 0⟩ ⟨⟨_, st, Le.refl _⟩, (by first|omega|simp<;>omega), (by first|omega|simp<;>omega), rfl, rfl⟩ (.cons rfl (.cons rfl (.cons rfl (.cons rfl (.nil _))))) ?_)
   rintro ⟨N14, r5⟩ W9 ⟨⟨H7, st, l8⟩, g30, g31, g13, e10⟩
   replace g30 : 0 ≤ r5 := g30
   replace g31 : r5 ≤ (a0.l.length : Int) := g31
   replace g13 : N14 = ((a0.l.length : Int) - r5).toNat := g13
   replace e10 : m180_l0 a0.l a1.l N14 r5 = m180_l0 a0.l a1.l (((a0.l.length : Int) - 0).toNat) 0 := e10
   show CW _ _ _ _ [(0, a0.v), (1, a1.v), (12, Value.int .i64 (a0.l.length : Int)), (13, Value.int .i64 r5)] _
   refine CW.seq (CW.reg (WL.pv (Pu.ilt rfl rfl) (WL.nt (CW.seq ?_))))
   refine CW.condP 14 rfl dT dF (fun h15 => ?_) (fun h15 => ?_)
   ·obtain ⟨n6, rfl⟩ : ∃ k, N14 = k + 1 := ⟨N14 - 1, by omega⟩
    refine CW.skip (QX.thenN ?_)
    refine CW.seq ?_
    refine CW.blk ?_
    refine CW.seq (CW.reg (WL.mv rfl (WL.as rfl (WL.nt (CW.seq ?_)))))
    refine CW.regS (C := Cl w H7 []) (tail := []) (S := Grew w H H7 []) mixed (fun W' h1 h2 h3 h4 => grew_start st h1 h2 h3 h4) (n := 9) rfl ?_
    refine WS.pk 0 rfl gg (fun W hC => Pu.move rfl) ?_
    refine WS.pk 1 rfl gg (fun W hC => Pu.move rfl) ?_
    have y16 := lg_get (l := a0.l) (i := r5) (by omega) (by omega)
    have k19 : Side.Ok 1048576 H7 (lg a0.l r5) := ((k0p.le l8).get _ _ y16).2
    obtain ⟨ad17, qa20, f18⟩ := ((k0p.le l8).get _ _ y16).1
    refine WS.pk 2 rfl gg (fun W hC => Pu.idx0 rfl rfl sl30 (by first|omega|simp<;>omega) (by first|omega|simp<;>omega) qa20) ?_
    refine WS.pk 3 rfl gg (fun W hC => Pu.load (v := Side.v (lg a0.l r5)) rfl ty41 (f18.w hC.1) rfl) ?_
    refine WS.pk 4 rfl gg (fun W hC => Pu.move rfl) ?_
    refine WS.pk 5 rfl gg (fun W hC => Pu.move rfl) ?_
    have y21 := lg_get (l := a1.l) (i := r5) (by omega) (by omega)
    have k24 : Side.Ok 1048576 H7 (lg a1.l r5) := ((k1p.le l8).get _ _ y21).2
    obtain ⟨ad22, qa25, f23⟩ := ((k1p.le l8).get _ _ y21).1
    refine WS.pk 6 rfl gg (fun W hC => Pu.idx0 rfl rfl sl30 (by first|omega|simp<;>omega) (by first|omega|simp<;>omega) qa25) ?_
    refine WS.pk 7 rfl gg (fun W hC => Pu.load (v := Side.v (lg a1.l r5)) rfl ty41 (f23.w hC.1) rfl) ?_
    refine WS.pk 8 rfl gg (fun W hC => Pu.bin rfl rfl (eqg41 _ (lg a0.l r5) (lg a1.l r5)) (ne41 (lg a0.l r5) (lg a1.l r5))) ?_
    refine WS.fin (by kernel_rfl) (fun W28 H26 st l27 => ?_)
    refine QX.thenN ?_
    refine CW.condP 24 rfl nT nF (fun h29 => ?_) (fun h29 => ?_)
    ·refine CW.seq (CW.reg (WL.as rfl (WL.nt ?_)))
     refine CW.ret (QX.blkR (QX.thenR (QX.thenR (QX.blkR (QX.thenR (QX.thenR (finA Tryz.results180 st (.tmp rfl .nil) ?_)))))))
     exact vb ((if_pos h3).trans (lk_inl ((Eq.symm e10).trans (if_neg h29))))
    ·refine CW.skip (QX.blkN (QX.thenN ?_))
     refine CW.reg (WL.pv (Pu.iadd rfl rfl (c := r5 + 1) (w64 (by omega) (by omega))) (WL.mv rfl ?_))
     refine WL.nil (QX.round ⟨n6, r5 + 1⟩ ?_ (Nat.lt_succ_self _) (.cons rfl (.cons rfl (.cons rfl (.cons rfl (.nil _))))))
     exact ⟨⟨_, st, (l8.trans l27)⟩, (by first|omega|simp<;>omega), (by first|omega|simp<;>omega), (by first|omega|simp<;>omega), Eq.symm ((Eq.symm e10).trans (if_pos h29))⟩
   ·obtain rfl : N14 = 0 := by omega
    refine CW.exit (QX.thenE (QX.thenE (QX.hit (QX.meets () ?_ (.nil _)))))
    exact ⟨⟨_, st, l8⟩, Eq.symm e10⟩
  rintro _ W34 ⟨⟨H32, st, l33⟩, e35⟩
  show QX _ _ _ [] _
  refine QX.thenN (CW.seq (CW.reg (WL.as rfl (WL.nt ?_))))
  refine CW.ret (finA Tryz.results180 st (.tmp rfl .nil) ?_)
  exact vb ((if_pos h3).trans (lk_inr e35))
/-! slices.EqualFunc[[]toll api.Listener,[]toll api.Listener,toll api.Listener,toll api.Listener] -/
def m181_l0 (a0 : List Listener) (a1 : List Listener) (p2 : Listener → Listener → Bool) : Nat → Int → (Bool ⊕ Unit)
 | 0, _ => .inr ()
 | n6 + 1, r5 => if (p2 (lg a0 r5) (lg a1 r5)) = true then (m181_l0 a0 a1 p2 n6 (r5 + 1)) else .inl false
def m181 (a0 : List Listener) (a1 : List Listener) (p2 : Listener → Listener → Bool) : Bool :=
 if (a0.length : Int) = (a1.length : Int) then (lk2 (m181_l0 a0 a1 p2 (((a0.length : Int) - 0).toNat) 0) (fun _ => true)) else false
theorem c181 (a0 : Sl Listener) (a1 : Sl Listener) (fn2 : Nat) (q2 : List Value) (p2 : Listener → Listener → Bool) {w : World} {H : PH} (hs : Sub H w) (k0p : Sl.Ok 1048576 H a0) (k1p : Sl.Ok 1048576 H a1) (en2p : En Tryz.prog fn2) (s2p : ∀ (x0 : Listener) (x1 : Listener) (w' : World) (H' : PH), Le H H' → Sub H' w' → Listener.Ok 1048576 H' x0 → Listener.Ok 1048576 H' x1 → Spec Tryz.prog fn2 (Listener.v x0 :: Listener.v x1 :: q2).toArray w' H' (fun _ v => v = .bool (p2 x0 x1))) : Spec Tryz.prog 181 [a0.v, a1.v, .func (.func fn2) #[] q2.toArray].toArray w H (fun _ v => v = .bool (m181 a0.l a1.l p2)) := by
 refine Spec.enter Tryz.func181 rfl Tryz.ntmps181 rfl ?_
 have st := St.start hs
 refine CW.seq (CW.reg (WL.as rfl (WL.nt (CW.seq (CW.seq (CW.reg (WL.mv rfl ?_)))))))
 have z1 : a0.l.length ≤ 1048576 := k0p.top
 refine WL.pv (Pu.lens (n := a0.l.length) rfl sl26) (WL.mv rfl ?_)
 have z2 : a1.l.length ≤ 1048576 := k1p.top
 refine WL.pv (Pu.lens (n := a1.l.length) rfl sl26) (WL.pv (Pu.ine rfl rfl) (WL.nt ?_))
 refine CW.condP 14 rfl nT nF (fun h3 => ?_) (fun h3 => ?_)
 ·refine CW.seq (CW.reg (WL.as rfl (WL.nt ?_)))
  refine CW.ret (QX.thenR (finA Tryz.results181 st (.tmp rfl .nil) ?_))
  exact vb (if_neg h3)
 ·refine CW.skip (QX.thenN ?_)
  refine CW.seq (CW.seq (CW.reg (WL.mv rfl ?_)))
  have z4 : a0.l.length ≤ 1048576 := k0p.top
  refine WL.pv (Pu.lens (n := a0.l.length) rfl sl26) (WL.mv rfl (WL.nt ?_))
  refine (CW.cuts (fun (s : Unit) W => (∃ H', St w W H H' [] ∧ Le H H') ∧ m181_l0 a0.l a1.l p2 (((a0.l.length : Int) - 0).toNat) 0 = .inr ()) (fun (s : Unit) => []) ?_ ?_)
  ·refine CW.blk (CW.loop (fun (s : Nat × Int) W => (∃ H', St w W H H' [] ∧ Le H H') ∧ 0 ≤ s.2 ∧ s.2 ≤ (a0.l.length : Int) ∧ s.1 = ((a0.l.length : Int) - s.2).toNat ∧ m181_l0 a0.l a1.l p2 s.1 s.2 = m181_l0 a0.l a1.l p2 (((a0.l.length : Int) - 0).toNat) 0) (fun (s : Nat × Int) => [(1, a1.v), (2, Value.func (.func fn2) #[] q2.toArray), (15, a0.v), (16, Value.int .i64 (a0.l.length : Int)), (17, Value.int .i64 s.2)]) (fun s => s.1) ⟨((a0.l.length : Int) - 0).toNat, 0⟩ ⟨⟨_, st, Le.refl _⟩, (by first|omega|simp<;>omega), (by first|omega|simp<;>omega), rfl, rfl⟩ (.cons rfl (.cons rfl (.cons rfl (.cons rfl (.cons rfl (.nil _)))))) ?_)
   rintro ⟨N14, r5⟩ W9 ⟨⟨H7, st, l8⟩, g38, g39, g13, e10⟩
   replace g38 : 0 ≤ r5 := g38
   replace g39 : r5 ≤ (a0.l.length : Int) := g39
   replace g13 : N14 = ((a0.l.length : Int) - r5).toNat := g13
   replace e10 : m181_l0 a0.l a1.l p2 N14 r5 = m181_l0 a0.l a1.l p2 (((a0.l.length : Int) - 0).toNat) 0 := e10
   show CW _ _ _ _ [(1, a1.v), (2, Value.func (.func fn2) #[] q2.toArray), (15, a0.v), (16, Value.int .i64 (a0.l.length : Int)), (17, Value.int .i64 r5)] _
   refine CW.seq (CW.reg (WL.pv (Pu.ilt rfl rfl) (WL.nt (CW.seq ?_))))
   refine CW.condP 18 rfl dT dF (fun h15 => ?_) (fun h15 => ?_)
   ·obtain ⟨n6, rfl⟩ : ∃ k, N14 = k + 1 := ⟨N14 - 1, by omega⟩
    refine CW.skip (QX.thenN ?_)
    refine CW.seq ?_
    refine CW.blk ?_
    refine CW.seq (CW.reg (WL.mv rfl ?_))
    have y16 := lg_get (l := a0.l) (i := r5) (by omega) (by omega)
    have k19 : Listener.Ok 1048576 H7 (lg a0.l r5) := ((k0p.le l8).get _ _ y16).2
    refine WL.idx (s := a0) rfl rfl rfl rfl sl26 (k0p.le l8) (by omega) y16 ?_
    intro ad17 f18
    refine WL.pv (Pu.load (v := Listener.v (lg a0.l r5)) rfl ty94 (f18.w st.sub) rfl) ?_
    refine WL.alloco (c := #[.string (⟨#[]⟩ : ByteArray), .int .i64 0, .bool false, .string (⟨#[]⟩ : ByteArray), .int .i64 0, .string (⟨#[]⟩ : ByteArray), .string (⟨#[]⟩ : ByteArray), .int .i64 0, .slice none 0 0]) rfl rfl ze94 rfl st ?_
    intro b20 W21 st
    refine WL.as rfl ?_
    refine WL.store (o := 0) (c' := [.string ((lg a0.l r5).name), .int .i64 ((lg a0.l r5).port), .bool ((lg a0.l r5).tls), .string ((lg a0.l r5).host), .int .i64 (((lg a0.l r5).cert).kind), .string (((lg a0.l r5).cert).space), .string (((lg a0.l r5).cert).name), .int .i64 ((lg a0.l r5).frm), ((lg a0.l r5).needs).v]) rfl rfl rfl rfl ty94 rfl (Enc.one (α := Listener) _) rfl rfl st ?_
    intro W22 st
    obtain ⟨H23, st, l24, f25⟩ := st.keepbox
    refine WL.nt (CW.seq (CW.reg (WL.mv rfl (WL.mv rfl ?_))))
    have y26 := lg_get (l := a1.l) (i := r5) (by omega) (by omega)
    have k29 : Listener.Ok 1048576 H23 (lg a1.l r5) := ((k1p.le (l8.trans l24)).get _ _ y26).2
    refine WL.idx (s := a1) rfl rfl rfl rfl sl26 (k1p.le (l8.trans l24)) (by omega) y26 ?_
    intro ad27 f28
    refine WL.pv (Pu.load (v := Listener.v (lg a1.l r5)) rfl ty94 (f28.w st.sub) rfl) ?_
    refine WL.alloco (c := #[.string (⟨#[]⟩ : ByteArray), .int .i64 0, .bool false, .string (⟨#[]⟩ : ByteArray), .int .i64 0, .string (⟨#[]⟩ : ByteArray), .string (⟨#[]⟩ : ByteArray), .int .i64 0, .slice none 0 0]) rfl rfl ze94 rfl st ?_
    intro b30 W31 st
    refine WL.store (o := 0) (c' := [.string ((lg a1.l r5).name), .int .i64 ((lg a1.l r5).port), .bool ((lg a1.l r5).tls), .string ((lg a1.l r5).host), .int .i64 (((lg a1.l r5).cert).kind), .string (((lg a1.l r5).cert).space), .string (((lg a1.l r5).cert).name), .int .i64 ((lg a1.l r5).frm), ((lg a1.l r5).needs).v]) rfl rfl rfl rfl ty94 rfl (Enc.one (α := Listener) _) rfl rfl st ?_
    intro W32 st
    obtain ⟨H33, st, l34, f35⟩ := st.keepbox
    refine WL.nt (CW.seq (CW.reg (WL.mv rfl (WL.pv (Pu.load (v := Listener.v (lg a0.l r5)) rfl ty94 ((f25.le l34).w st.sub) rfl) (WL.pv (Pu.load (v := Listener.v (lg a1.l r5)) rfl ty94 (f35.w st.sub) rfl) ?_)))))
    refine WL.callv rfl rfl en2p rfl rfl st (s2p (lg a0.l r5) (lg a1.l r5) _ _ ((l8.trans l24).trans l34) st.sub (k19.le (l24.trans l34)) (k29.le l34)) ?_
    intro W36 st
    refine WL.pv (Pu.notb rfl) (WL.nt ?_)
    refine CW.condP 30 rfl mT mF (fun h37 => ?_) (fun h37 => ?_)
    ·refine CW.seq (CW.reg (WL.as rfl (WL.nt ?_)))
     refine CW.ret (QX.blkR (QX.thenR (QX.thenR (QX.blkR (QX.thenR (QX.thenR (finA Tryz.results181 st (.tmp rfl .nil) ?_)))))))
     exact vb ((if_pos h3).trans (lk_inl ((Eq.symm e10).trans (if_neg h37))))
    ·refine CW.skip (QX.blkN (QX.thenN ?_))
     refine CW.reg (WL.pv (Pu.iadd rfl rfl (c := r5 + 1) (w64 (by omega) (by omega))) (WL.mv rfl ?_))
     refine WL.nil (QX.round ⟨n6, r5 + 1⟩ ?_ (Nat.lt_succ_self _) (.cons rfl (.cons rfl (.cons rfl (.cons rfl (.cons rfl (.nil _)))))))
     exact ⟨⟨_, st, ((l8.trans l24).trans l34)⟩, (by first|omega|simp<;>omega), (by first|omega|simp<;>omega), (by first|omega|simp<;>omega), Eq.symm ((Eq.symm e10).trans (if_pos h37))⟩
   ·obtain rfl : N14 = 0 := by omega
    refine CW.exit (QX.thenE (QX.thenE (QX.hit (QX.meets () ?_ (.nil _)))))
    exact ⟨⟨_, st, l8⟩, Eq.symm e10⟩
  rintro _ W42 ⟨⟨H40, st, l41⟩, e43⟩
  show QX _ _ _ [] _
  refine QX.thenN (CW.seq (CW.reg (WL.as rfl (WL.nt ?_))))
  refine CW.ret (finA Tryz.results181 st (.tmp rfl .nil) ?_)
  exact vb ((if_pos h3).trans (lk_inr e43))
/-! slices.EqualFunc[[]toll api.Need,[]toll api.Need,toll api.Need,toll api.Need] -/
def m270_l0 (a0 : List Need) (a1 : List Need) (p2 : Need → Need → Bool) : Nat → Int → (Bool ⊕ Unit)
 | 0, _ => .inr ()
 | n6 + 1, r5 => if (p2 (lg a0 r5) (lg a1 r5)) = true then (m270_l0 a0 a1 p2 n6 (r5 + 1)) else .inl false
def m270 (a0 : List Need) (a1 : List Need) (p2 : Need → Need → Bool) : Bool :=
 if (a0.length : Int) = (a1.length : Int) then (lk2 (m270_l0 a0 a1 p2 (((a0.length : Int) - 0).toNat) 0) (fun _ => true)) else false
theorem c270 (a0 : Sl Need) (a1 : Sl Need) (fn2 : Nat) (q2 : List Value) (p2 : Need → Need → Bool) {w : World} {H : PH} (hs : Sub H w) (k0p : Sl.Ok 1048576 H a0) (k1p : Sl.Ok 1048576 H a1) (en2p : En Tryz.prog fn2) (s2p : ∀ (x0 : Need) (x1 : Need) (w' : World) (H' : PH), Le H H' → Sub H' w' → Need.Ok 1048576 H' x0 → Need.Ok 1048576 H' x1 → Spec Tryz.prog fn2 (Need.v x0 :: Need.v x1 :: q2).toArray w' H' (fun _ v => v = .bool (p2 x0 x1))) : Spec Tryz.prog 270 [a0.v, a1.v, .func (.func fn2) #[] q2.toArray].toArray w H (fun _ v => v = .bool (m270 a0.l a1.l p2)) := by
 refine Spec.enter Tryz.func270 rfl Tryz.ntmps270 rfl ?_
 have st := St.start hs
 refine CW.seq (CW.reg (WL.as rfl (WL.nt (CW.seq (CW.seq (CW.reg (WL.mv rfl ?_)))))))
 have z1 : a0.l.length ≤ 1048576 := k0p.top
 refine WL.pv (Pu.lens (n := a0.l.length) rfl sl92) (WL.mv rfl ?_)
 have z2 : a1.l.length ≤ 1048576 := k1p.top
 refine WL.pv (Pu.lens (n := a1.l.length) rfl sl92) (WL.pv (Pu.ine rfl rfl) (WL.nt ?_))
 refine CW.condP 14 rfl nT nF (fun h3 => ?_) (fun h3 => ?_)
 ·refine CW.seq (CW.reg (WL.as rfl (WL.nt ?_)))
  refine CW.ret (QX.thenR (finA Tryz.results270 st (.tmp rfl .nil) ?_))
  exact vb (if_neg h3)
 ·refine CW.skip (QX.thenN ?_)
  refine CW.seq (CW.seq (CW.reg (WL.mv rfl ?_)))
  have z4 : a0.l.length ≤ 1048576 := k0p.top
  refine WL.pv (Pu.lens (n := a0.l.length) rfl sl92) (WL.mv rfl (WL.nt ?_))
  refine (CW.cuts (fun (s : Unit) W => (∃ H', St w W H H' [] ∧ Le H H') ∧ m270_l0 a0.l a1.l p2 (((a0.l.length : Int) - 0).toNat) 0 = .inr ()) (fun (s : Unit) => []) ?_ ?_)
  ·refine CW.blk (CW.loop (fun (s : Nat × Int) W => (∃ H', St w W H H' [] ∧ Le H H') ∧ 0 ≤ s.2 ∧ s.2 ≤ (a0.l.length : Int) ∧ s.1 = ((a0.l.length : Int) - s.2).toNat ∧ m270_l0 a0.l a1.l p2 s.1 s.2 = m270_l0 a0.l a1.l p2 (((a0.l.length : Int) - 0).toNat) 0) (fun (s : Nat × Int) => [(1, a1.v), (2, Value.func (.func fn2) #[] q2.toArray), (15, a0.v), (16, Value.int .i64 (a0.l.length : Int)), (17, Value.int .i64 s.2)]) (fun s => s.1) ⟨((a0.l.length : Int) - 0).toNat, 0⟩ ⟨⟨_, st, Le.refl _⟩, (by first|omega|simp<;>omega), (by first|omega|simp<;>omega), rfl, rfl⟩ (.cons rfl (.cons rfl (.cons rfl (.cons rfl (.cons rfl (.nil _)))))) ?_)
   rintro ⟨N14, r5⟩ W9 ⟨⟨H7, st, l8⟩, g38, g39, g13, e10⟩
   replace g38 : 0 ≤ r5 := g38
   replace g39 : r5 ≤ (a0.l.length : Int) := g39
   replace g13 : N14 = ((a0.l.length : Int) - r5).toNat := g13
   replace e10 : m270_l0 a0.l a1.l p2 N14 r5 = m270_l0 a0.l a1.l p2 (((a0.l.length : Int) - 0).toNat) 0 := e10
   show CW _ _ _ _ [(1, a1.v), (2, Value.func (.func fn2) #[] q2.toArray), (15, a0.v), (16, Value.int .i64 (a0.l.length : Int)), (17, Value.int .i64 r5)] _
   refine CW.seq (CW.reg (WL.pv (Pu.ilt rfl rfl) (WL.nt (CW.seq ?_))))
   refine CW.condP 18 rfl dT dF (fun h15 => ?_) (fun h15 => ?_)
   ·obtain ⟨n6, rfl⟩ : ∃ k, N14 = k + 1 := ⟨N14 - 1, by omega⟩
    refine CW.skip (QX.thenN ?_)
    refine CW.seq ?_
    refine CW.blk ?_
    refine CW.seq (CW.reg (WL.mv rfl ?_))
    have y16 := lg_get (l := a0.l) (i := r5) (by omega) (by omega)
    have k19 : Need.Ok 1048576 H7 (lg a0.l r5) := ((k0p.le l8).get _ _ y16).2
    refine WL.idx (s := a0) rfl rfl rfl rfl sl92 (k0p.le l8) (by omega) y16 ?_
    intro ad17 f18
    refine WL.pv (Pu.load (v := Need.v (lg a0.l r5)) rfl ty184 (f18.w st.sub) rfl) ?_
    refine WL.alloco (c := #[.int .i64 0, .string (⟨#[]⟩ : ByteArray), .slice none 0 0]) rfl rfl ze184 rfl st ?_
    intro b20 W21 st
    refine WL.as rfl ?_
    refine WL.store (o := 0) (c' := [.int .i64 ((lg a0.l r5).kind), .string ((lg a0.l r5).name), ((lg a0.l r5).vals).v]) rfl rfl rfl rfl ty184 rfl (Enc.one (α := Need) _) rfl rfl st ?_
    intro W22 st
    obtain ⟨H23, st, l24, f25⟩ := st.keepbox
    refine WL.nt (CW.seq (CW.reg (WL.mv rfl (WL.mv rfl ?_))))
    have y26 := lg_get (l := a1.l) (i := r5) (by omega) (by omega)
    have k29 : Need.Ok 1048576 H23 (lg a1.l r5) := ((k1p.le (l8.trans l24)).get _ _ y26).2
    refine WL.idx (s := a1) rfl rfl rfl rfl sl92 (k1p.le (l8.trans l24)) (by omega) y26 ?_
    intro ad27 f28
    refine WL.pv (Pu.load (v := Need.v (lg a1.l r5)) rfl ty184 (f28.w st.sub) rfl) ?_
    refine WL.alloco (c := #[.int .i64 0, .string (⟨#[]⟩ : ByteArray), .slice none 0 0]) rfl rfl ze184 rfl st ?_
    intro b30 W31 st
    refine WL.store (o := 0) (c' := [.int .i64 ((lg a1.l r5).kind), .string ((lg a1.l r5).name), ((lg a1.l r5).vals).v]) rfl rfl rfl rfl ty184 rfl (Enc.one (α := Need) _) rfl rfl st ?_
    intro W32 st
    obtain ⟨H33, st, l34, f35⟩ := st.keepbox
    refine WL.nt (CW.seq (CW.reg (WL.mv rfl (WL.pv (Pu.load (v := Need.v (lg a0.l r5)) rfl ty184 ((f25.le l34).w st.sub) rfl) (WL.pv (Pu.load (v := Need.v (lg a1.l r5)) rfl ty184 (f35.w st.sub) rfl) ?_)))))
    refine WL.callv rfl rfl en2p rfl rfl st (s2p (lg a0.l r5) (lg a1.l r5) _ _ ((l8.trans l24).trans l34) st.sub (k19.le (l24.trans l34)) (k29.le l34)) ?_
    intro W36 st
    refine WL.pv (Pu.notb rfl) (WL.nt ?_)
    refine CW.condP 30 rfl mT mF (fun h37 => ?_) (fun h37 => ?_)
    ·refine CW.seq (CW.reg (WL.as rfl (WL.nt ?_)))
     refine CW.ret (QX.blkR (QX.thenR (QX.thenR (QX.blkR (QX.thenR (QX.thenR (finA Tryz.results270 st (.tmp rfl .nil) ?_)))))))
     exact vb ((if_pos h3).trans (lk_inl ((Eq.symm e10).trans (if_neg h37))))
    ·refine CW.skip (QX.blkN (QX.thenN ?_))
     refine CW.reg (WL.pv (Pu.iadd rfl rfl (c := r5 + 1) (w64 (by omega) (by omega))) (WL.mv rfl ?_))
     refine WL.nil (QX.round ⟨n6, r5 + 1⟩ ?_ (Nat.lt_succ_self _) (.cons rfl (.cons rfl (.cons rfl (.cons rfl (.cons rfl (.nil _)))))))
     exact ⟨⟨_, st, ((l8.trans l24).trans l34)⟩, (by first|omega|simp<;>omega), (by first|omega|simp<;>omega), (by first|omega|simp<;>omega), Eq.symm ((Eq.symm e10).trans (if_pos h37))⟩
   ·obtain rfl : N14 = 0 := by omega
    refine CW.exit (QX.thenE (QX.thenE (QX.hit (QX.meets () ?_ (.nil _)))))
    exact ⟨⟨_, st, l8⟩, Eq.symm e10⟩
  rintro _ W42 ⟨⟨H40, st, l41⟩, e43⟩
  show QX _ _ _ [] _
  refine QX.thenN (CW.seq (CW.reg (WL.as rfl (WL.nt ?_))))
  refine CW.ret (finA Tryz.results270 st (.tmp rfl .nil) ?_)
  exact vb ((if_pos h3).trans (lk_inr e43))
/-! toll label.Same 1 -/
def m271 (a0 : Need) (a1 : Need) : Bool :=
 if a0.kind = a1.kind then (if a0.name = a1.name then (m178 a0.vals.l a1.vals.l) else false) else false
theorem c271 (a0 : Need) (a1 : Need) {w : World} {H : PH} (hs : Sub H w) (k0p : Need.Ok 1048576 H a0) (k1p : Need.Ok 1048576 H a1) : Spec Tryz.prog 271 [Need.v a0, Need.v a1].toArray w H (fun _ v => v = .bool (m271 a0 a1)) := by
 refine Spec.enter Tryz.func271 rfl Tryz.ntmps271 rfl ?_
 have st := St.start hs
 refine CW.seq (CW.reg ?_)
 refine WL.box rfl rfl rfl rfl st ?_
 intro b1 W2 H3 st l4 f5
 refine WL.box rfl rfl rfl rfl st ?_
 intro b6 W7 H8 st l9 f10
 refine WL.as rfl (WL.nt (CW.seq (CW.reg (WL.pv (Pu.fa rfl fo184_0) (WL.pv (Pu.load rfl ty3 (((f5.le l9).drop 0).w st.sub) rfl) (WL.pv (Pu.fa rfl fo184_0) (WL.pv (Pu.load rfl ty3 ((f10.drop 0).w st.sub) rfl) (WL.pv (Pu.ieq rfl rfl) (WL.mv rfl ?_)))))))))
 refine WL.splitP 10 rfl dT dF (fun h11 => ?_) (fun h11 => ?_)
 ·refine WL.pv (Pu.fa rfl fo184_1) (WL.pv (Pu.load rfl ty9 (((f5.le l9).drop 1).w st.sub) rfl) (WL.pv (Pu.fa rfl fo184_1) (WL.pv (Pu.load rfl ty9 ((f10.drop 1).w st.sub) rfl) (WL.pv (Pu.seq rfl rfl) (WL.pv (Pu.pickT rfl rfl) (WL.mv rfl ?_))))))
  refine WL.splitP 17 rfl dT dF (fun h12 => ?_) (fun h12 => ?_)
  ·refine WL.pv (Pu.fa rfl fo184_2) (WL.pv (Pu.load rfl ty28 (((f5.le l9).drop 2).w st.sub) rfl) (WL.pv (Pu.fa rfl fo184_2) (WL.pv (Pu.load rfl ty28 ((f10.drop 2).w st.sub) rfl) ?_)))
   refine WL.callv rfl rfl en178 rfl rfl st (c178 a0.vals a1.vals st.sub (k0p.vals.le (l4.trans l9)) (k1p.vals.le (l4.trans l9))) ?_
   intro W13 st
   refine WL.pv (Pu.pickT rfl rfl) (WL.as rfl (WL.nt ?_))
   refine CW.ret (finA Tryz.results271 st (.tmp rfl .nil) ?_)
   exact vb ((if_pos h11).trans (if_pos h12))
  ·refine WL.of (WL.of (WL.of (WL.of (WL.of (WL.pv (Pu.pickF rfl rfl) (WL.as rfl (WL.nt ?_)))))))
   refine CW.ret (finA Tryz.results271 st (.tmp rfl .nil) ?_)
   exact vb ((if_pos h11).trans (if_neg h12))
 ·refine WL.of (WL.of (WL.of (WL.of (WL.of (WL.pv (Pu.pickF rfl rfl) (WL.mv rfl (WL.of (WL.of (WL.of ?_)))))))))
  refine WL.of (WL.of (WL.pv (Pu.pickF rfl rfl) (WL.as rfl (WL.nt ?_))))
  refine CW.ret (finA Tryz.results271 st (.tmp rfl .nil) ?_)
  exact vb (if_neg h11)
/-! toll label.Same -/
def m228 (a0 : List Need) (a1 : List Need) : Bool :=
 m270 a0 a1 (fun x0 x1 => m271 x0 x1)
theorem c228 (a0 : Sl Need) (a1 : Sl Need) {w : World} {H : PH} (hs : Sub H w) (k0p : Sl.Ok 1048576 H a0) (k1p : Sl.Ok 1048576 H a1) : Spec Tryz.prog 228 [a0.v, a1.v].toArray w H (fun _ v => v = .bool (m228 a0.l a1.l)) := by
 refine Spec.enter Tryz.func228 rfl Tryz.ntmps228 rfl ?_
 have st := St.start hs
 refine CW.seq (CW.reg (WL.as rfl (WL.nt (CW.seq (CW.reg (WL.mv rfl (WL.mv rfl ?_)))))))
 refine WL.callv rfl rfl en270 rfl rfl st (c270 a0 a1 271 [] (fun x0 x1 => m271 x0 x1) st.sub k0p k1p en271 (fun x0 x1 w' H' lq2 hs o0 o1 => c271 x0 x1 hs o0 o1)) ?_
 intro W1 st
 refine WL.as rfl (WL.nt ?_)
 refine CW.ret (finA Tryz.results228 st (.tmp rfl .nil) ?_)
 exact congrArg (fun z => Value.bool z) (Eq.symm rfl)
/-! toll object.sameListener -/
def m182 (a0 : Listener) (a1 : Listener) : Bool :=
 if a0.name = a1.name then (if a0.port = a1.port then (if (a0.tls == a1.tls) = true then (if a0.host = a1.host then (if a0.cert = a1.cert then (if a0.frm = a1.frm then (m228 a0.needs.l a1.needs.l) else false) else false) else false) else false) else false) else false
theorem c182 (a0 : Listener) (a1 : Listener) {w : World} {H : PH} (hs : Sub H w) (k0p : Listener.Ok 1048576 H a0) (k1p : Listener.Ok 1048576 H a1) : Spec Tryz.prog 182 [Listener.v a0, Listener.v a1].toArray w H (fun _ v => v = .bool (m182 a0 a1)) := by
 refine Spec.enter Tryz.func182 rfl Tryz.ntmps182 rfl ?_
 have st := St.start hs
 refine CW.seq (CW.reg ?_)
 refine WL.box rfl rfl rfl rfl st ?_
 intro b1 W2 H3 st l4 f5
 refine WL.box rfl rfl rfl rfl st ?_
 intro b6 W7 H8 st l9 f10
 refine WL.as rfl (WL.nt (CW.seq (CW.reg (WL.pv (Pu.fa rfl fo94_0) (WL.pv (Pu.load rfl ty9 (((f5.le l9).drop 0).w st.sub) rfl) (WL.pv (Pu.fa rfl fo94_0) (WL.pv (Pu.load rfl ty9 ((f10.drop 0).w st.sub) rfl) (WL.pv (Pu.seq rfl rfl) (WL.mv rfl ?_)))))))))
 refine WL.splitP 10 rfl dT dF (fun h11 => ?_) (fun h11 => ?_)
 ·refine WL.pv (Pu.fa rfl fo94_1) (WL.pv (Pu.load rfl ty3 (((f5.le l9).drop 1).w st.sub) rfl) (WL.pv (Pu.fa rfl fo94_1) (WL.pv (Pu.load rfl ty3 ((f10.drop 1).w st.sub) rfl) (WL.pv (Pu.ieq rfl rfl) (WL.pv (Pu.pickT rfl rfl) (WL.mv rfl ?_))))))
  refine WL.splitP 17 rfl dT dF (fun h12 => ?_) (fun h12 => ?_)
  ·refine WL.pv (Pu.fa rfl fo94_2) (WL.pv (Pu.load rfl ty4 (((f5.le l9).drop 2).w st.sub) rfl) (WL.pv (Pu.fa rfl fo94_2) (WL.pv (Pu.load rfl ty4 ((f10.drop 2).w st.sub) rfl) (WL.pv (Pu.beq rfl rfl Tryz.underlying4) (WL.pv (Pu.pickT rfl rfl) (WL.mv rfl ?_))))))
   refine WL.splitP 24 rfl rT rF (fun h13 => ?_) (fun h13 => ?_)
   ·refine WL.pv (Pu.fa rfl fo94_3) (WL.pv (Pu.load rfl ty9 (((f5.le l9).drop 3).w st.sub) rfl) (WL.pv (Pu.fa rfl fo94_3) (WL.pv (Pu.load rfl ty9 ((f10.drop 3).w st.sub) rfl) (WL.pv (Pu.seq rfl rfl) (WL.pv (Pu.pickT rfl rfl) (WL.mv rfl ?_))))))
    refine WL.splitP 31 rfl dT dF (fun h14 => ?_) (fun h14 => ?_)
    ·refine WL.pv (Pu.fa rfl fo94_4) (WL.pv (Pu.load (v := Ref.v a0.cert) rfl ty23 (((f5.le l9).drop 4).w st.sub) rfl) (WL.pv (Pu.fa rfl fo94_4) (WL.pv (Pu.load (v := Ref.v a1.cert) rfl ty23 ((f10.drop 4).w st.sub) rfl) (WL.pv (Pu.bin rfl rfl (eqg23 _ a0.cert a1.cert) (eq23 a0.cert a1.cert)) (WL.pv (Pu.pickT rfl rfl) (WL.mv rfl ?_))))))
     refine WL.splitP 38 rfl dT dF (fun h15 => ?_) (fun h15 => ?_)
     ·refine WL.pv (Pu.fa rfl fo94_5) (WL.pv (Pu.load rfl ty3 (((f5.le l9).drop 7).w st.sub) rfl) (WL.pv (Pu.fa rfl fo94_5) (WL.pv (Pu.load rfl ty3 ((f10.drop 7).w st.sub) rfl) (WL.pv (Pu.ieq rfl rfl) (WL.pv (Pu.pickT rfl rfl) (WL.mv rfl ?_))))))
      refine WL.splitP 45 rfl dT dF (fun h16 => ?_) (fun h16 => ?_)
      ·refine WL.pv (Pu.fa rfl fo94_6) (WL.pv (Pu.load rfl ty92 (((f5.le l9).drop 8).w st.sub) rfl) (WL.pv (Pu.fa rfl fo94_6) (WL.pv (Pu.load rfl ty92 ((f10.drop 8).w st.sub) rfl) ?_)))
       refine WL.callv rfl rfl en228 rfl rfl st (c228 a0.needs a1.needs st.sub (k0p.needs.le (l4.trans l9)) (k1p.needs.le (l4.trans l9))) ?_
       intro W17 st
       refine WL.pv (Pu.pickT rfl rfl) (WL.as rfl (WL.nt ?_))
       refine CW.ret (finA Tryz.results182 st (.tmp rfl .nil) ?_)
       exact vb ((if_pos h11).trans ((if_pos h12).trans ((if_pos h13).trans ((if_pos h14).trans ((if_pos h15).trans (if_pos h16))))))
      ·refine WL.of (WL.of (WL.of (WL.of (WL.of (WL.pv (Pu.pickF rfl rfl) (WL.as rfl (WL.nt ?_)))))))
       refine CW.ret (finA Tryz.results182 st (.tmp rfl .nil) ?_)
       exact vb ((if_pos h11).trans ((if_pos h12).trans ((if_pos h13).trans ((if_pos h14).trans ((if_pos h15).trans (if_neg h16))))))
     ·refine WL.of (WL.of (WL.of (WL.of (WL.of (WL.pv (Pu.pickF rfl rfl) (WL.mv rfl (WL.of (WL.of (WL.of ?_)))))))))
      refine WL.of (WL.of (WL.pv (Pu.pickF rfl rfl) (WL.as rfl (WL.nt ?_))))
      refine CW.ret (finA Tryz.results182 st (.tmp rfl .nil) ?_)
      exact vb ((if_pos h11).trans ((if_pos h12).trans ((if_pos h13).trans ((if_pos h14).trans (if_neg h15)))))
    ·refine WL.of (WL.of (WL.of (WL.of (WL.of (WL.pv (Pu.pickF rfl rfl) (WL.mv rfl (WL.of (WL.of (WL.of ?_)))))))))
     refine WL.of (WL.of (WL.pv (Pu.pickF rfl rfl) (WL.mv rfl (WL.of (WL.of (WL.of (WL.of (WL.of (WL.pv (Pu.pickF rfl rfl) ?_)))))))))
     refine WL.as rfl (WL.nt ?_)
     refine CW.ret (finA Tryz.results182 st (.tmp rfl .nil) ?_)
     exact vb ((if_pos h11).trans ((if_pos h12).trans ((if_pos h13).trans (if_neg h14))))
   ·refine WL.of (WL.of (WL.of (WL.of (WL.of (WL.pv (Pu.pickF rfl rfl) (WL.mv rfl (WL.of (WL.of (WL.of ?_)))))))))
    refine WL.of (WL.of (WL.pv (Pu.pickF rfl rfl) (WL.mv rfl (WL.of (WL.of (WL.of (WL.of (WL.of (WL.pv (Pu.pickF rfl rfl) ?_)))))))))
    refine WL.mv rfl (WL.of (WL.of (WL.of (WL.of (WL.of (WL.pv (Pu.pickF rfl rfl) (WL.as rfl (WL.nt ?_))))))))
    refine CW.ret (finA Tryz.results182 st (.tmp rfl .nil) ?_)
    exact vb ((if_pos h11).trans ((if_pos h12).trans (if_neg h13)))
  ·refine WL.of (WL.of (WL.of (WL.of (WL.of (WL.pv (Pu.pickF rfl rfl) (WL.mv rfl (WL.of (WL.of (WL.of ?_)))))))))
   refine WL.of (WL.of (WL.pv (Pu.pickF rfl rfl) (WL.mv rfl (WL.of (WL.of (WL.of (WL.of (WL.of (WL.pv (Pu.pickF rfl rfl) ?_)))))))))
   refine WL.mv rfl (WL.of (WL.of (WL.of (WL.of (WL.of (WL.pv (Pu.pickF rfl rfl) (WL.mv rfl (WL.of (WL.of ?_)))))))))
   refine WL.of (WL.of (WL.of (WL.pv (Pu.pickF rfl rfl) (WL.as rfl (WL.nt ?_)))))
   refine CW.ret (finA Tryz.results182 st (.tmp rfl .nil) ?_)
   exact vb ((if_pos h11).trans (if_neg h12))
 ·refine WL.of (WL.of (WL.of (WL.of (WL.of (WL.pv (Pu.pickF rfl rfl) (WL.mv rfl (WL.of (WL.of (WL.of ?_)))))))))
  refine WL.of (WL.of (WL.pv (Pu.pickF rfl rfl) (WL.mv rfl (WL.of (WL.of (WL.of (WL.of (WL.of (WL.pv (Pu.pickF rfl rfl) ?_)))))))))
  refine WL.mv rfl (WL.of (WL.of (WL.of (WL.of (WL.of (WL.pv (Pu.pickF rfl rfl) (WL.mv rfl (WL.of (WL.of ?_)))))))))
  refine WL.of (WL.of (WL.of (WL.pv (Pu.pickF rfl rfl) (WL.mv rfl (WL.of (WL.of (WL.of (WL.of (WL.of ?_)))))))))
  refine WL.pv (Pu.pickF rfl rfl) (WL.as rfl (WL.nt ?_))
  refine CW.ret (finA Tryz.results182 st (.tmp rfl .nil) ?_)
  exact vb (if_neg h11)
/-! slices.EqualFunc[[]toll api.Rule,[]toll api.Rule,toll api.Rule,toll api.Rule] -/
def m183_l0 (a0 : List Rule) (a1 : List Rule) (p2 : Rule → Rule → Bool) : Nat → Int → (Bool ⊕ Unit)
 | 0, _ => .inr ()
 | n6 + 1, r5 => if (p2 (lg a0 r5) (lg a1 r5)) = true then (m183_l0 a0 a1 p2 n6 (r5 + 1)) else .inl false
def m183 (a0 : List Rule) (a1 : List Rule) (p2 : Rule → Rule → Bool) : Bool :=
 if (a0.length : Int) = (a1.length : Int) then (lk2 (m183_l0 a0 a1 p2 (((a0.length : Int) - 0).toNat) 0) (fun _ => true)) else false
theorem c183 (a0 : Sl Rule) (a1 : Sl Rule) (fn2 : Nat) (q2 : List Value) (p2 : Rule → Rule → Bool) {w : World} {H : PH} (hs : Sub H w) (k0p : Sl.Ok 1048576 H a0) (k1p : Sl.Ok 1048576 H a1) (en2p : En Tryz.prog fn2) (s2p : ∀ (x0 : Rule) (x1 : Rule) (w' : World) (H' : PH), Le H H' → Sub H' w' → Rule.Ok 1048576 H' x0 → Rule.Ok 1048576 H' x1 → Spec Tryz.prog fn2 (Rule.v x0 :: Rule.v x1 :: q2).toArray w' H' (fun _ v => v = .bool (p2 x0 x1))) : Spec Tryz.prog 183 [a0.v, a1.v, .func (.func fn2) #[] q2.toArray].toArray w H (fun _ v => v = .bool (m183 a0.l a1.l p2)) := by
 refine Spec.enter Tryz.func183 rfl Tryz.ntmps183 rfl ?_
 have st := St.start hs
 refine CW.seq (CW.reg (WL.as rfl (WL.nt (CW.seq (CW.seq (CW.reg (WL.mv rfl ?_)))))))
 have z1 : a0.l.length ≤ 1048576 := k0p.top
 refine WL.pv (Pu.lens (n := a0.l.length) rfl sl29) (WL.mv rfl ?_)
 have z2 : a1.l.length ≤ 1048576 := k1p.top
 refine WL.pv (Pu.lens (n := a1.l.length) rfl sl29) (WL.pv (Pu.ine rfl rfl) (WL.nt ?_))
 refine CW.condP 14 rfl nT nF (fun h3 => ?_) (fun h3 => ?_)
 ·refine CW.seq (CW.reg (WL.as rfl (WL.nt ?_)))
  refine CW.ret (QX.thenR (finA Tryz.results183 st (.tmp rfl .nil) ?_))
  exact vb (if_neg h3)
 ·refine CW.skip (QX.thenN ?_)
  refine CW.seq (CW.seq (CW.reg (WL.mv rfl ?_)))
  have z4 : a0.l.length ≤ 1048576 := k0p.top
  refine WL.pv (Pu.lens (n := a0.l.length) rfl sl29) (WL.mv rfl (WL.nt ?_))
  refine (CW.cuts (fun (s : Unit) W => (∃ H', St w W H H' [] ∧ Le H H') ∧ m183_l0 a0.l a1.l p2 (((a0.l.length : Int) - 0).toNat) 0 = .inr ()) (fun (s : Unit) => []) ?_ ?_)
  ·refine CW.blk (CW.loop (fun (s : Nat × Int) W => (∃ H', St w W H H' [] ∧ Le H H') ∧ 0 ≤ s.2 ∧ s.2 ≤ (a0.l.length : Int) ∧ s.1 = ((a0.l.length : Int) - s.2).toNat ∧ m183_l0 a0.l a1.l p2 s.1 s.2 = m183_l0 a0.l a1.l p2 (((a0.l.length : Int) - 0).toNat) 0) (fun (s : Nat × Int) => [(1, a1.v), (2, Value.func (.func fn2) #[] q2.toArray), (15, a0.v), (16, Value.int .i64 (a0.l.length : Int)), (17, Value.int .i64 s.2)]) (fun s => s.1) ⟨((a0.l.length : Int) - 0).toNat, 0⟩ ⟨⟨_, st, Le.refl _⟩, (by first|omega|simp<;>omega), (by first|omega|simp<;>omega), rfl, rfl⟩ (.cons rfl (.cons rfl (.cons rfl (.cons rfl (.cons rfl (.nil _)))))) ?_)
   rintro ⟨N14, r5⟩ W9 ⟨⟨H7, st, l8⟩, g38, g39, g13, e10⟩
   replace g38 : 0 ≤ r5 := g38
   replace g39 : r5 ≤ (a0.l.length : Int) := g39
   replace g13 : N14 = ((a0.l.length : Int) - r5).toNat := g13
   replace e10 : m183_l0 a0.l a1.l p2 N14 r5 = m183_l0 a0.l a1.l p2 (((a0.l.length : Int) - 0).toNat) 0 := e10
   show CW _ _ _ _ [(1, a1.v), (2, Value.func (.func fn2) #[] q2.toArray), (15, a0.v), (16, Value.int .i64 (a0.l.length : Int)), (17, Value.int .i64 r5)] _
   refine CW.seq (CW.reg (WL.pv (Pu.ilt rfl rfl) (WL.nt (CW.seq ?_))))
   refine CW.condP 18 rfl dT dF (fun h15 => ?_) (fun h15 => ?_)
   ·obtain ⟨n6, rfl⟩ : ∃ k, N14 = k + 1 := ⟨N14 - 1, by omega⟩
    refine CW.skip (QX.thenN ?_)
    refine CW.seq ?_
    refine CW.blk ?_
    refine CW.seq (CW.reg (WL.mv rfl ?_))
    have y16 := lg_get (l := a0.l) (i := r5) (by omega) (by omega)
    have k19 : Rule.Ok 1048576 H7 (lg a0.l r5) := ((k0p.le l8).get _ _ y16).2
    refine WL.idx (s := a0) rfl rfl rfl rfl sl29 (k0p.le l8) (by omega) y16 ?_
    intro ad17 f18
    refine WL.pv (Pu.load (v := Rule.v (lg a0.l r5)) rfl ty66 (f18.w st.sub) rfl) ?_
    refine WL.alloco (c := #[.slice none 0 0, .slice none 0 0, .slice none 0 0]) rfl rfl ze66 rfl st ?_
    intro b20 W21 st
    refine WL.as rfl ?_
    refine WL.store (o := 0) (c' := [((lg a0.l r5).mats).v, ((lg a0.l r5).filters).v, ((lg a0.l r5).backends).v]) rfl rfl rfl rfl ty66 rfl (Enc.one (α := Rule) _) rfl rfl st ?_
    intro W22 st
    obtain ⟨H23, st, l24, f25⟩ := st.keepbox
    refine WL.nt (CW.seq (CW.reg (WL.mv rfl (WL.mv rfl ?_))))
    have y26 := lg_get (l := a1.l) (i := r5) (by omega) (by omega)
    have k29 : Rule.Ok 1048576 H23 (lg a1.l r5) := ((k1p.le (l8.trans l24)).get _ _ y26).2
    refine WL.idx (s := a1) rfl rfl rfl rfl sl29 (k1p.le (l8.trans l24)) (by omega) y26 ?_
    intro ad27 f28
    refine WL.pv (Pu.load (v := Rule.v (lg a1.l r5)) rfl ty66 (f28.w st.sub) rfl) ?_
    refine WL.alloco (c := #[.slice none 0 0, .slice none 0 0, .slice none 0 0]) rfl rfl ze66 rfl st ?_
    intro b30 W31 st
    refine WL.store (o := 0) (c' := [((lg a1.l r5).mats).v, ((lg a1.l r5).filters).v, ((lg a1.l r5).backends).v]) rfl rfl rfl rfl ty66 rfl (Enc.one (α := Rule) _) rfl rfl st ?_
    intro W32 st
    obtain ⟨H33, st, l34, f35⟩ := st.keepbox
    refine WL.nt (CW.seq (CW.reg (WL.mv rfl (WL.pv (Pu.load (v := Rule.v (lg a0.l r5)) rfl ty66 ((f25.le l34).w st.sub) rfl) (WL.pv (Pu.load (v := Rule.v (lg a1.l r5)) rfl ty66 (f35.w st.sub) rfl) ?_)))))
    refine WL.callv rfl rfl en2p rfl rfl st (s2p (lg a0.l r5) (lg a1.l r5) _ _ ((l8.trans l24).trans l34) st.sub (k19.le (l24.trans l34)) (k29.le l34)) ?_
    intro W36 st
    refine WL.pv (Pu.notb rfl) (WL.nt ?_)
    refine CW.condP 30 rfl mT mF (fun h37 => ?_) (fun h37 => ?_)
    ·refine CW.seq (CW.reg (WL.as rfl (WL.nt ?_)))
     refine CW.ret (QX.blkR (QX.thenR (QX.thenR (QX.blkR (QX.thenR (QX.thenR (finA Tryz.results183 st (.tmp rfl .nil) ?_)))))))
     exact vb ((if_pos h3).trans (lk_inl ((Eq.symm e10).trans (if_neg h37))))
    ·refine CW.skip (QX.blkN (QX.thenN ?_))
     refine CW.reg (WL.pv (Pu.iadd rfl rfl (c := r5 + 1) (w64 (by omega) (by omega))) (WL.mv rfl ?_))
     refine WL.nil (QX.round ⟨n6, r5 + 1⟩ ?_ (Nat.lt_succ_self _) (.cons rfl (.cons rfl (.cons rfl (.cons rfl (.cons rfl (.nil _)))))))
     exact ⟨⟨_, st, ((l8.trans l24).trans l34)⟩, (by first|omega|simp<;>omega), (by first|omega|simp<;>omega), (by first|omega|simp<;>omega), Eq.symm ((Eq.symm e10).trans (if_pos h37))⟩
   ·obtain rfl : N14 = 0 := by omega
    refine CW.exit (QX.thenE (QX.thenE (QX.hit (QX.meets () ?_ (.nil _)))))
    exact ⟨⟨_, st, l8⟩, Eq.symm e10⟩
  rintro _ W42 ⟨⟨H40, st, l41⟩, e43⟩
  show QX _ _ _ [] _
  refine QX.thenN (CW.seq (CW.reg (WL.as rfl (WL.nt ?_))))
  refine CW.ret (finA Tryz.results183 st (.tmp rfl .nil) ?_)
  exact vb ((if_pos h3).trans (lk_inr e43))
/-! slices.EqualFunc[[]toll api.Match,[]toll api.Match,toll api.Match,toll api.Match] -/
def m229_l0 (a0 : List Match) (a1 : List Match) (p2 : Match → Match → Bool) : Nat → Int → (Bool ⊕ Unit)
 | 0, _ => .inr ()
 | n6 + 1, r5 => if (p2 (lg a0 r5) (lg a1 r5)) = true then (m229_l0 a0 a1 p2 n6 (r5 + 1)) else .inl false
def m229 (a0 : List Match) (a1 : List Match) (p2 : Match → Match → Bool) : Bool :=
 if (a0.length : Int) = (a1.length : Int) then (lk2 (m229_l0 a0 a1 p2 (((a0.length : Int) - 0).toNat) 0) (fun _ => true)) else false
theorem c229 (a0 : Sl Match) (a1 : Sl Match) (fn2 : Nat) (q2 : List Value) (p2 : Match → Match → Bool) {w : World} {H : PH} (hs : Sub H w) (k0p : Sl.Ok 1048576 H a0) (k1p : Sl.Ok 1048576 H a1) (en2p : En Tryz.prog fn2) (s2p : ∀ (x0 : Match) (x1 : Match) (w' : World) (H' : PH), Le H H' → Sub H' w' → Match.Ok 1048576 H' x0 → Match.Ok 1048576 H' x1 → Spec Tryz.prog fn2 (Match.v x0 :: Match.v x1 :: q2).toArray w' H' (fun _ v => v = .bool (p2 x0 x1))) : Spec Tryz.prog 229 [a0.v, a1.v, .func (.func fn2) #[] q2.toArray].toArray w H (fun _ v => v = .bool (m229 a0.l a1.l p2)) := by
 refine Spec.enter Tryz.func229 rfl Tryz.ntmps229 rfl ?_
 have st := St.start hs
 refine CW.seq (CW.reg (WL.as rfl (WL.nt (CW.seq (CW.seq (CW.reg (WL.mv rfl ?_)))))))
 have z1 : a0.l.length ≤ 1048576 := k0p.top
 refine WL.pv (Pu.lens (n := a0.l.length) rfl sl62) (WL.mv rfl ?_)
 have z2 : a1.l.length ≤ 1048576 := k1p.top
 refine WL.pv (Pu.lens (n := a1.l.length) rfl sl62) (WL.pv (Pu.ine rfl rfl) (WL.nt ?_))
 refine CW.condP 14 rfl nT nF (fun h3 => ?_) (fun h3 => ?_)
 ·refine CW.seq (CW.reg (WL.as rfl (WL.nt ?_)))
  refine CW.ret (QX.thenR (finA Tryz.results229 st (.tmp rfl .nil) ?_))
  exact vb (if_neg h3)
 ·refine CW.skip (QX.thenN ?_)
  refine CW.seq (CW.seq (CW.reg (WL.mv rfl ?_)))
  have z4 : a0.l.length ≤ 1048576 := k0p.top
  refine WL.pv (Pu.lens (n := a0.l.length) rfl sl62) (WL.mv rfl (WL.nt ?_))
  refine (CW.cuts (fun (s : Unit) W => (∃ H', St w W H H' [] ∧ Le H H') ∧ m229_l0 a0.l a1.l p2 (((a0.l.length : Int) - 0).toNat) 0 = .inr ()) (fun (s : Unit) => []) ?_ ?_)
  ·refine CW.blk (CW.loop (fun (s : Nat × Int) W => (∃ H', St w W H H' [] ∧ Le H H') ∧ 0 ≤ s.2 ∧ s.2 ≤ (a0.l.length : Int) ∧ s.1 = ((a0.l.length : Int) - s.2).toNat ∧ m229_l0 a0.l a1.l p2 s.1 s.2 = m229_l0 a0.l a1.l p2 (((a0.l.length : Int) - 0).toNat) 0) (fun (s : Nat × Int) => [(1, a1.v), (2, Value.func (.func fn2) #[] q2.toArray), (15, a0.v), (16, Value.int .i64 (a0.l.length : Int)), (17, Value.int .i64 s.2)]) (fun s => s.1) ⟨((a0.l.length : Int) - 0).toNat, 0⟩ ⟨⟨_, st, Le.refl _⟩, (by first|omega|simp<;>omega), (by first|omega|simp<;>omega), rfl, rfl⟩ (.cons rfl (.cons rfl (.cons rfl (.cons rfl (.cons rfl (.nil _)))))) ?_)
   rintro ⟨N14, r5⟩ W9 ⟨⟨H7, st, l8⟩, g38, g39, g13, e10⟩
   replace g38 : 0 ≤ r5 := g38
   replace g39 : r5 ≤ (a0.l.length : Int) := g39
   replace g13 : N14 = ((a0.l.length : Int) - r5).toNat := g13
   replace e10 : m229_l0 a0.l a1.l p2 N14 r5 = m229_l0 a0.l a1.l p2 (((a0.l.length : Int) - 0).toNat) 0 := e10
   show CW _ _ _ _ [(1, a1.v), (2, Value.func (.func fn2) #[] q2.toArray), (15, a0.v), (16, Value.int .i64 (a0.l.length : Int)), (17, Value.int .i64 r5)] _
   refine CW.seq (CW.reg (WL.pv (Pu.ilt rfl rfl) (WL.nt (CW.seq ?_))))
   refine CW.condP 18 rfl dT dF (fun h15 => ?_) (fun h15 => ?_)
   ·obtain ⟨n6, rfl⟩ : ∃ k, N14 = k + 1 := ⟨N14 - 1, by omega⟩
    refine CW.skip (QX.thenN ?_)
    refine CW.seq ?_
    refine CW.blk ?_
    refine CW.seq (CW.reg (WL.mv rfl ?_))
    have y16 := lg_get (l := a0.l) (i := r5) (by omega) (by omega)
    have k19 : Match.Ok 1048576 H7 (lg a0.l r5) := ((k0p.le l8).get _ _ y16).2
    refine WL.idx (s := a0) rfl rfl rfl rfl sl62 (k0p.le l8) (by omega) y16 ?_
    intro ad17 f18
    refine WL.pv (Pu.load (v := Match.v (lg a0.l r5)) rfl ty124 (f18.w st.sub) rfl) ?_
    refine WL.alloco (c := #[.int .i64 0, .string (⟨#[]⟩ : ByteArray), .string (⟨#[]⟩ : ByteArray), .slice none 0 0, .slice none 0 0]) rfl rfl ze124 rfl st ?_
    intro b20 W21 st
    refine WL.as rfl ?_
    refine WL.store (o := 0) (c' := [.int .i64 (((lg a0.l r5).path).kind), .string (((lg a0.l r5).path).val), .string ((lg a0.l r5).method), ((lg a0.l r5).head).v, ((lg a0.l r5).query).v]) rfl rfl rfl rfl ty124 rfl (Enc.one (α := Match) _) rfl rfl st ?_
    intro W22 st
    obtain ⟨H23, st, l24, f25⟩ := st.keepbox
    refine WL.nt (CW.seq (CW.reg (WL.mv rfl (WL.mv rfl ?_))))
    have y26 := lg_get (l := a1.l) (i := r5) (by omega) (by omega)
    have k29 : Match.Ok 1048576 H23 (lg a1.l r5) := ((k1p.le (l8.trans l24)).get _ _ y26).2
    refine WL.idx (s := a1) rfl rfl rfl rfl sl62 (k1p.le (l8.trans l24)) (by omega) y26 ?_
    intro ad27 f28
    refine WL.pv (Pu.load (v := Match.v (lg a1.l r5)) rfl ty124 (f28.w st.sub) rfl) ?_
    refine WL.alloco (c := #[.int .i64 0, .string (⟨#[]⟩ : ByteArray), .string (⟨#[]⟩ : ByteArray), .slice none 0 0, .slice none 0 0]) rfl rfl ze124 rfl st ?_
    intro b30 W31 st
    refine WL.store (o := 0) (c' := [.int .i64 (((lg a1.l r5).path).kind), .string (((lg a1.l r5).path).val), .string ((lg a1.l r5).method), ((lg a1.l r5).head).v, ((lg a1.l r5).query).v]) rfl rfl rfl rfl ty124 rfl (Enc.one (α := Match) _) rfl rfl st ?_
    intro W32 st
    obtain ⟨H33, st, l34, f35⟩ := st.keepbox
    refine WL.nt (CW.seq (CW.reg (WL.mv rfl (WL.pv (Pu.load (v := Match.v (lg a0.l r5)) rfl ty124 ((f25.le l34).w st.sub) rfl) (WL.pv (Pu.load (v := Match.v (lg a1.l r5)) rfl ty124 (f35.w st.sub) rfl) ?_)))))
    refine WL.callv rfl rfl en2p rfl rfl st (s2p (lg a0.l r5) (lg a1.l r5) _ _ ((l8.trans l24).trans l34) st.sub (k19.le (l24.trans l34)) (k29.le l34)) ?_
    intro W36 st
    refine WL.pv (Pu.notb rfl) (WL.nt ?_)
    refine CW.condP 30 rfl mT mF (fun h37 => ?_) (fun h37 => ?_)
    ·refine CW.seq (CW.reg (WL.as rfl (WL.nt ?_)))
     refine CW.ret (QX.blkR (QX.thenR (QX.thenR (QX.blkR (QX.thenR (QX.thenR (finA Tryz.results229 st (.tmp rfl .nil) ?_)))))))
     exact vb ((if_pos h3).trans (lk_inl ((Eq.symm e10).trans (if_neg h37))))
    ·refine CW.skip (QX.blkN (QX.thenN ?_))
     refine CW.reg (WL.pv (Pu.iadd rfl rfl (c := r5 + 1) (w64 (by omega) (by omega))) (WL.mv rfl ?_))
     refine WL.nil (QX.round ⟨n6, r5 + 1⟩ ?_ (Nat.lt_succ_self _) (.cons rfl (.cons rfl (.cons rfl (.cons rfl (.cons rfl (.nil _)))))))
     exact ⟨⟨_, st, ((l8.trans l24).trans l34)⟩, (by first|omega|simp<;>omega), (by first|omega|simp<;>omega), (by first|omega|simp<;>omega), Eq.symm ((Eq.symm e10).trans (if_pos h37))⟩
   ·obtain rfl : N14 = 0 := by omega
    refine CW.exit (QX.thenE (QX.thenE (QX.hit (QX.meets () ?_ (.nil _)))))
    exact ⟨⟨_, st, l8⟩, Eq.symm e10⟩
  rintro _ W42 ⟨⟨H40, st, l41⟩, e43⟩
  show QX _ _ _ [] _
  refine QX.thenN (CW.seq (CW.reg (WL.as rfl (WL.nt ?_))))
  refine CW.ret (finA Tryz.results229 st (.tmp rfl .nil) ?_)
  exact vb ((if_pos h3).trans (lk_inr e43))
/-! toll rule.Same -/
def m230 (a0 : Match) (a1 : Match) : Bool :=
 if a0.path = a1.path then (if a0.method = a1.method then (if (m176 a0.head.l a1.head.l) = true then (m176 a0.query.l a1.query.l) else false) else false) else false
theorem c230 (a0 : Match) (a1 : Match) {w : World} {H : PH} (hs : Sub H w) (k0p : Match.Ok 1048576 H a0) (k1p : Match.Ok 1048576 H a1) : Spec Tryz.prog 230 [Match.v a0, Match.v a1].toArray w H (fun _ v => v = .bool (m230 a0 a1)) := by
 refine Spec.enter Tryz.func230 rfl Tryz.ntmps230 rfl ?_
 have st := St.start hs
 refine CW.seq (CW.reg ?_)
 refine WL.box rfl rfl rfl rfl st ?_
 intro b1 W2 H3 st l4 f5
 refine WL.box rfl rfl rfl rfl st ?_
 intro b6 W7 H8 st l9 f10
 refine WL.as rfl (WL.nt (CW.seq (CW.reg (WL.pv (Pu.fa rfl fo124_0) (WL.pv (Pu.load (v := Path.v a0.path) rfl ty122 (((f5.le l9).drop 0).w st.sub) rfl) (WL.pv (Pu.fa rfl fo124_0) (WL.pv (Pu.load (v := Path.v a1.path) rfl ty122 ((f10.drop 0).w st.sub) rfl) (WL.pv (Pu.bin rfl rfl (eqg122 _ a0.path a1.path) (eq122 a0.path a1.path)) (WL.mv rfl ?_)))))))))
 refine WL.splitP 10 rfl dT dF (fun h11 => ?_) (fun h11 => ?_)
 ·refine WL.pv (Pu.fa rfl fo124_1) (WL.pv (Pu.load rfl ty9 (((f5.le l9).drop 2).w st.sub) rfl) (WL.pv (Pu.fa rfl fo124_1) (WL.pv (Pu.load rfl ty9 ((f10.drop 2).w st.sub) rfl) (WL.pv (Pu.seq rfl rfl) (WL.pv (Pu.pickT rfl rfl) (WL.mv rfl ?_))))))
  refine WL.splitP 17 rfl dT dF (fun h12 => ?_) (fun h12 => ?_)
  ·refine WL.pv (Pu.fa rfl fo124_2) (WL.pv (Pu.load rfl ty24 (((f5.le l9).drop 3).w st.sub) rfl) (WL.pv (Pu.fa rfl fo124_2) (WL.pv (Pu.load rfl ty24 ((f10.drop 3).w st.sub) rfl) ?_)))
   refine WL.callv rfl rfl en176 rfl rfl st (c176 a0.head a1.head st.sub (k0p.head.le (l4.trans l9)) (k1p.head.le (l4.trans l9))) ?_
   intro W13 st
   refine WL.pv (Pu.pickT rfl rfl) (WL.mv rfl ?_)
   refine WL.splitP 24 rfl rT rF (fun h14 => ?_) (fun h14 => ?_)
   ·refine WL.pv (Pu.fa rfl fo124_3) (WL.pv (Pu.load rfl ty24 (((f5.le l9).drop 4).w st.sub) rfl) (WL.pv (Pu.fa rfl fo124_3) (WL.pv (Pu.load rfl ty24 ((f10.drop 4).w st.sub) rfl) ?_)))
    refine WL.callv rfl rfl en176 rfl rfl st (c176 a0.query a1.query st.sub (k0p.query.le (l4.trans l9)) (k1p.query.le (l4.trans l9))) ?_
    intro W15 st
    refine WL.pv (Pu.pickT rfl rfl) (WL.as rfl (WL.nt ?_))
    refine CW.ret (finA Tryz.results230 st (.tmp rfl .nil) ?_)
    exact vb ((if_pos h11).trans ((if_pos h12).trans (if_pos h14)))
   ·refine WL.of (WL.of (WL.of (WL.of (WL.of (WL.pv (Pu.pickF rfl rfl) (WL.as rfl (WL.nt ?_)))))))
    refine CW.ret (finA Tryz.results230 st (.tmp rfl .nil) ?_)
    exact vb ((if_pos h11).trans ((if_pos h12).trans (if_neg h14)))
  ·refine WL.of (WL.of (WL.of (WL.of (WL.of (WL.pv (Pu.pickF rfl rfl) (WL.mv rfl (WL.of (WL.of (WL.of ?_)))))))))
   refine WL.of (WL.of (WL.pv (Pu.pickF rfl rfl) (WL.as rfl (WL.nt ?_))))
   refine CW.ret (finA Tryz.results230 st (.tmp rfl .nil) ?_)
   exact vb ((if_pos h11).trans (if_neg h12))
 ·refine WL.of (WL.of (WL.of (WL.of (WL.of (WL.pv (Pu.pickF rfl rfl) (WL.mv rfl (WL.of (WL.of (WL.of ?_)))))))))
  refine WL.of (WL.of (WL.pv (Pu.pickF rfl rfl) (WL.mv rfl (WL.of (WL.of (WL.of (WL.of (WL.of (WL.pv (Pu.pickF rfl rfl) ?_)))))))))
  refine WL.as rfl (WL.nt ?_)
  refine CW.ret (finA Tryz.results230 st (.tmp rfl .nil) ?_)
  exact vb (if_neg h11)
/-! slices.Equal[[]toll api.Filter,toll api.Filter] -/
def m231_l0 (a0 : List Filter) (a1 : List Filter) : Nat → Int → (Bool ⊕ Unit)
 | 0, _ => .inr ()
 | n6 + 1, r5 => if lg a0 r5 = lg a1 r5 then (m231_l0 a0 a1 n6 (r5 + 1)) else .inl false
def m231 (a0 : List Filter) (a1 : List Filter) : Bool :=
 if (a0.length : Int) = (a1.length : Int) then (lk2 (m231_l0 a0 a1 (((a0.length : Int) - 0).toNat) 0) (fun _ => true)) else false
theorem c231 (a0 : Sl Filter) (a1 : Sl Filter) {w : World} {H : PH} (hs : Sub H w) (k0p : Sl.Ok 1048576 H a0) (k1p : Sl.Ok 1048576 H a1) : Spec Tryz.prog 231 [a0.v, a1.v].toArray w H (fun _ v => v = .bool (m231 a0.l a1.l)) := by
 refine Spec.enter Tryz.func231 rfl Tryz.ntmps231 rfl ?_
 have st := St.start hs
 refine CW.seq (CW.reg (WL.as rfl (WL.nt (CW.seq (CW.seq (CW.reg (WL.mv rfl ?_)))))))
 have z1 : a0.l.length ≤ 1048576 := k0p.top
 refine WL.pv (Pu.lens (n := a0.l.length) rfl sl63) (WL.mv rfl ?_)
 have z2 : a1.l.length ≤ 1048576 := k1p.top
 refine WL.pv (Pu.lens (n := a1.l.length) rfl sl63) (WL.pv (Pu.ine rfl rfl) (WL.nt ?_))
 refine CW.condP 10 rfl nT nF (fun h3 => ?_) (fun h3 => ?_)
 ·refine CW.seq (CW.reg (WL.as rfl (WL.nt ?_)))
  refine CW.ret (QX.thenR (finA Tryz.results231 st (.tmp rfl .nil) ?_))
  exact vb (if_neg h3)
 ·refine CW.skip (QX.thenN ?_)
  refine CW.seq (CW.seq (CW.reg (WL.mv rfl ?_)))
  have z4 : a0.l.length ≤ 1048576 := k0p.top
  refine WL.pv (Pu.lens (n := a0.l.length) rfl sl63) (WL.mv rfl (WL.nt ?_))
  refine (CW.cuts (fun (s : Unit) W => (∃ H', St w W H H' [] ∧ Le H H') ∧ m231_l0 a0.l a1.l (((a0.l.length : Int) - 0).toNat) 0 = .inr ()) (fun (s : Unit) => []) ?_ ?_)
  ·refine CW.blk (CW.loop (fun (s : Nat × Int) W => (∃ H', St w W H H' [] ∧ Le H H') ∧ 0 ≤ s.2 ∧ s.2 ≤ (a0.l.length : Int) ∧ s.1 = ((a0.l.length : Int) - s.2).toNat ∧ m231_l0 a0.l a1.l s.1 s.2 = m231_l0 a0.l a1.l (((a0.l.length : Int) - 0).toNat) 0) (fun (s : Nat × Int) => [(0, a0.v), (1, a1.v), (12, Value.int .i64 (a0.l.length : Int)), (13, Value.int .i64 s.2)]) (fun s => s.1) ⟨((a0.l.length : Int) - 0).toNat, 0⟩ ⟨⟨_, st, Le.refl _⟩, (by first|omega|simp<;>omega), (by first|omega|simp<;>omega), rfl, rfl⟩ (.cons rfl (.cons rfl (.cons rfl (.cons rfl (.nil _))))) ?_)
   rintro ⟨N14, r5⟩ W9 ⟨⟨H7, st, l8⟩, g30, g31, g13, e10⟩
   replace g30 : 0 ≤ r5 := g30
   replace g31 : r5 ≤ (a0.l.length : Int) := g31
   replace g13 : N14 = ((a0.l.length : Int) - r5).toNat := g13
   replace e10 : m231_l0 a0.l a1.l N14 r5 = m231_l0 a0.l a1.l (((a0.l.length : Int) - 0).toNat) 0 := e10
   show CW _ _ _ _ [(0, a0.v), (1, a1.v), (12, Value.int .i64 (a0.l.length : Int)), (13, Value.int .i64 r5)] _
   refine CW.seq (CW.reg (WL.pv (Pu.ilt rfl rfl) (WL.nt (CW.seq ?_))))
   refine CW.condP 14 rfl dT dF (fun h15 => ?_) (fun h15 => ?_)
   ·obtain ⟨n6, rfl⟩ : ∃ k, N14 = k + 1 := ⟨N14 - 1, by omega⟩
    refine CW.skip (QX.thenN ?_)
    refine CW.seq ?_
    refine CW.blk ?_
    refine CW.seq (CW.reg (WL.mv rfl (WL.as rfl (WL.nt (CW.seq ?_)))))
    refine CW.regS (C := Cl w H7 []) (tail := []) (S := Grew w H H7 []) mixed (fun W' h1 h2 h3 h4 => grew_start st h1 h2 h3 h4) (n := 9) rfl ?_
    refine WS.pk 0 rfl gg (fun W hC => Pu.move rfl) ?_
    refine WS.pk 1 rfl gg (fun W hC => Pu.move rfl) ?_
    have y16 := lg_get (l := a0.l) (i := r5) (by omega) (by omega)
    have k19 : Filter.Ok 1048576 H7 (lg a0.l r5) := ((k0p.le l8).get _ _ y16).2
    obtain ⟨ad17, qa20, f18⟩ := ((k0p.le l8).get _ _ y16).1
    refine WS.pk 2 rfl gg (fun W hC => Pu.idx0 rfl rfl sl63 (by first|omega|simp<;>omega) (by first|omega|simp<;>omega) qa20) ?_
    refine WS.pk 3 rfl gg (fun W hC => Pu.load (v := Filter.v (lg a0.l r5)) rfl ty186 (f18.w hC.1) rfl) ?_
    refine WS.pk 4 rfl gg (fun W hC => Pu.move rfl) ?_
    refine WS.pk 5 rfl gg (fun W hC => Pu.move rfl) ?_
    have y21 := lg_get (l := a1.l) (i := r5) (by omega) (by omega)
    have k24 : Filter.Ok 1048576 H7 (lg a1.l r5) := ((k1p.le l8).get _ _ y21).2
    obtain ⟨ad22, qa25, f23⟩ := ((k1p.le l8).get _ _ y21).1
    refine WS.pk 6 rfl gg (fun W hC => Pu.idx0 rfl rfl sl63 (by first|omega|simp<;>omega) (by first|omega|simp<;>omega) qa25) ?_
    refine WS.pk 7 rfl gg (fun W hC => Pu.load (v := Filter.v (lg a1.l r5)) rfl ty186 (f23.w hC.1) rfl) ?_
    refine WS.pk 8 rfl gg (fun W hC => Pu.bin rfl rfl (eqg186 _ (lg a0.l r5) (lg a1.l r5)) (ne186 (lg a0.l r5) (lg a1.l r5))) ?_
    refine WS.fin (by kernel_rfl) (fun W28 H26 st l27 => ?_)
    refine QX.thenN ?_
    refine CW.condP 24 rfl nT nF (fun h29 => ?_) (fun h29 => ?_)
    ·refine CW.seq (CW.reg (WL.as rfl (WL.nt ?_)))
     refine CW.ret (QX.blkR (QX.thenR (QX.thenR (QX.blkR (QX.thenR (QX.thenR (finA Tryz.results231 st (.tmp rfl .nil) ?_)))))))
     exact vb ((if_pos h3).trans (lk_inl ((Eq.symm e10).trans (if_neg h29))))
    ·refine CW.skip (QX.blkN (QX.thenN ?_))
     refine CW.reg (WL.pv (Pu.iadd rfl rfl (c := r5 + 1) (w64 (by omega) (by omega))) (WL.mv rfl ?_))
     refine WL.nil (QX.round ⟨n6, r5 + 1⟩ ?_ (Nat.lt_succ_self _) (.cons rfl (.cons rfl (.cons rfl (.cons rfl (.nil _))))))
     exact ⟨⟨_, st, (l8.trans l27)⟩, (by first|omega|simp<;>omega), (by first|omega|simp<;>omega), (by first|omega|simp<;>omega), Eq.symm ((Eq.symm e10).trans (if_pos h29))⟩
   ·obtain rfl : N14 = 0 := by omega
    refine CW.exit (QX.thenE (QX.thenE (QX.hit (QX.meets () ?_ (.nil _)))))
    exact ⟨⟨_, st, l8⟩, Eq.symm e10⟩
  rintro _ W34 ⟨⟨H32, st, l33⟩, e35⟩
  show QX _ _ _ [] _
  refine QX.thenN (CW.seq (CW.reg (WL.as rfl (WL.nt ?_))))
  refine CW.ret (finA Tryz.results231 st (.tmp rfl .nil) ?_)
  exact vb ((if_pos h3).trans (lk_inr e35))
/-! slices.Equal[[]toll api.Backend,toll api.Backend] -/
def m232_l0 (a0 : List Backend) (a1 : List Backend) : Nat → Int → (Bool ⊕ Unit)
 | 0, _ => .inr ()
 | n6 + 1, r5 => if lg a0 r5 = lg a1 r5 then (m232_l0 a0 a1 n6 (r5 + 1)) else .inl false
def m232 (a0 : List Backend) (a1 : List Backend) : Bool :=
 if (a0.length : Int) = (a1.length : Int) then (lk2 (m232_l0 a0 a1 (((a0.length : Int) - 0).toNat) 0) (fun _ => true)) else false
theorem c232 (a0 : Sl Backend) (a1 : Sl Backend) {w : World} {H : PH} (hs : Sub H w) (k0p : Sl.Ok 1048576 H a0) (k1p : Sl.Ok 1048576 H a1) : Spec Tryz.prog 232 [a0.v, a1.v].toArray w H (fun _ v => v = .bool (m232 a0.l a1.l)) := by
 refine Spec.enter Tryz.func232 rfl Tryz.ntmps232 rfl ?_
 have st := St.start hs
 refine CW.seq (CW.reg (WL.as rfl (WL.nt (CW.seq (CW.seq (CW.reg (WL.mv rfl ?_)))))))
 have z1 : a0.l.length ≤ 1048576 := k0p.top
 refine WL.pv (Pu.lens (n := a0.l.length) rfl sl64) (WL.mv rfl ?_)
 have z2 : a1.l.length ≤ 1048576 := k1p.top
 refine WL.pv (Pu.lens (n := a1.l.length) rfl sl64) (WL.pv (Pu.ine rfl rfl) (WL.nt ?_))
 refine CW.condP 10 rfl nT nF (fun h3 => ?_) (fun h3 => ?_)
 ·refine CW.seq (CW.reg (WL.as rfl (WL.nt ?_)))
  refine CW.ret (QX.thenR (finA Tryz.results232 st (.tmp rfl .nil) ?_))
  exact vb (if_neg h3)
 ·refine CW.skip (QX.thenN ?_)
  refine CW.seq (CW.seq (CW.reg (WL.mv rfl ?_)))
  have z4 : a0.l.length ≤ 1048576 := k0p.top
  refine WL.pv (Pu.lens (n := a0.l.length) rfl sl64) (WL.mv rfl (WL.nt ?_))
  refine (CW.cuts (fun (s : Unit) W => (∃ H', St w W H H' [] ∧ Le H H') ∧ m232_l0 a0.l a1.l (((a0.l.length : Int) - 0).toNat) 0 = .inr ()) (fun (s : Unit) => []) ?_ ?_)
  ·refine CW.blk (CW.loop (fun (s : Nat × Int) W => (∃ H', St w W H H' [] ∧ Le H H') ∧ 0 ≤ s.2 ∧ s.2 ≤ (a0.l.length : Int) ∧ s.1 = ((a0.l.length : Int) - s.2).toNat ∧ m232_l0 a0.l a1.l s.1 s.2 = m232_l0 a0.l a1.l (((a0.l.length : Int) - 0).toNat) 0) (fun (s : Nat × Int) => [(0, a0.v), (1, a1.v), (12, Value.int .i64 (a0.l.length : Int)), (13, Value.int .i64 s.2)]) (fun s => s.1) ⟨((a0.l.length : Int) - 0).toNat, 0⟩ ⟨⟨_, st, Le.refl _⟩, (by first|omega|simp<;>omega), (by first|omega|simp<;>omega), rfl, rfl⟩ (.cons rfl (.cons rfl (.cons rfl (.cons rfl (.nil _))))) ?_)
   rintro ⟨N14, r5⟩ W9 ⟨⟨H7, st, l8⟩, g30, g31, g13, e10⟩
   replace g30 : 0 ≤ r5 := g30
   replace g31 : r5 ≤ (a0.l.length : Int) := g31
   replace g13 : N14 = ((a0.l.length : Int) - r5).toNat := g13
   replace e10 : m232_l0 a0.l a1.l N14 r5 = m232_l0 a0.l a1.l (((a0.l.length : Int) - 0).toNat) 0 := e10
   show CW _ _ _ _ [(0, a0.v), (1, a1.v), (12, Value.int .i64 (a0.l.length : Int)), (13, Value.int .i64 r5)] _
   refine CW.seq (CW.reg (WL.pv (Pu.ilt rfl rfl) (WL.nt (CW.seq ?_))))
   refine CW.condP 14 rfl dT dF (fun h15 => ?_) (fun h15 => ?_)
   ·obtain ⟨n6, rfl⟩ : ∃ k, N14 = k + 1 := ⟨N14 - 1, by omega⟩
    refine CW.skip (QX.thenN ?_)
    refine CW.seq ?_
    refine CW.blk ?_
    refine CW.seq (CW.reg (WL.mv rfl (WL.as rfl (WL.nt (CW.seq ?_)))))
    refine CW.regS (C := Cl w H7 []) (tail := []) (S := Grew w H H7 []) mixed (fun W' h1 h2 h3 h4 => grew_start st h1 h2 h3 h4) (n := 9) rfl ?_
    refine WS.pk 0 rfl gg (fun W hC => Pu.move rfl) ?_
    refine WS.pk 1 rfl gg (fun W hC => Pu.move rfl) ?_
    have y16 := lg_get (l := a0.l) (i := r5) (by omega) (by omega)
    have k19 : Backend.Ok 1048576 H7 (lg a0.l r5) := ((k0p.le l8).get _ _ y16).2
    obtain ⟨ad17, qa20, f18⟩ := ((k0p.le l8).get _ _ y16).1
    refine WS.pk 2 rfl gg (fun W hC => Pu.idx0 rfl rfl sl64 (by first|omega|simp<;>omega) (by first|omega|simp<;>omega) qa20) ?_
    refine WS.pk 3 rfl gg (fun W hC => Pu.load (v := Backend.v (lg a0.l r5)) rfl ty68 (f18.w hC.1) rfl) ?_
    refine WS.pk 4 rfl gg (fun W hC => Pu.move rfl) ?_
    refine WS.pk 5 rfl gg (fun W hC => Pu.move rfl) ?_
    have y21 := lg_get (l := a1.l) (i := r5) (by omega) (by omega)
    have k24 : Backend.Ok 1048576 H7 (lg a1.l r5) := ((k1p.le l8).get _ _ y21).2
    obtain ⟨ad22, qa25, f23⟩ := ((k1p.le l8).get _ _ y21).1
    refine WS.pk 6 rfl gg (fun W hC => Pu.idx0 rfl rfl sl64 (by first|omega|simp<;>omega) (by first|omega|simp<;>omega) qa25) ?_
    refine WS.pk 7 rfl gg (fun W hC => Pu.load (v := Backend.v (lg a1.l r5)) rfl ty68 (f23.w hC.1) rfl) ?_
    refine WS.pk 8 rfl gg (fun W hC => Pu.bin rfl rfl (eqg68 _ (lg a0.l r5) (lg a1.l r5)) (ne68 (lg a0.l r5) (lg a1.l r5))) ?_
    refine WS.fin (by kernel_rfl) (fun W28 H26 st l27 => ?_)
    refine QX.thenN ?_
    refine CW.condP 24 rfl nT nF (fun h29 => ?_) (fun h29 => ?_)
    ·refine CW.seq (CW.reg (WL.as rfl (WL.nt ?_)))
     refine CW.ret (QX.blkR (QX.thenR (QX.thenR (QX.blkR (QX.thenR (QX.thenR (finA Tryz.results232 st (.tmp rfl .nil) ?_)))))))
     exact vb ((if_pos h3).trans (lk_inl ((Eq.symm e10).trans (if_neg h29))))
    ·refine CW.skip (QX.blkN (QX.thenN ?_))
     refine CW.reg (WL.pv (Pu.iadd rfl rfl (c := r5 + 1) (w64 (by omega) (by omega))) (WL.mv rfl ?_))
     refine WL.nil (QX.round ⟨n6, r5 + 1⟩ ?_ (Nat.lt_succ_self _) (.cons rfl (.cons rfl (.cons rfl (.cons rfl (.nil _))))))
     exact ⟨⟨_, st, (l8.trans l27)⟩, (by first|omega|simp<;>omega), (by first|omega|simp<;>omega), (by first|omega|simp<;>omega), Eq.symm ((Eq.symm e10).trans (if_pos h29))⟩
   ·obtain rfl : N14 = 0 := by omega
    refine CW.exit (QX.thenE (QX.thenE (QX.hit (QX.meets () ?_ (.nil _)))))
    exact ⟨⟨_, st, l8⟩, Eq.symm e10⟩
  rintro _ W34 ⟨⟨H32, st, l33⟩, e35⟩
  show QX _ _ _ [] _
  refine QX.thenN (CW.seq (CW.reg (WL.as rfl (WL.nt ?_))))
  refine CW.ret (finA Tryz.results232 st (.tmp rfl .nil) ?_)
  exact vb ((if_pos h3).trans (lk_inr e35))
/-! toll object.sameRule -/
def m184 (a0 : Rule) (a1 : Rule) : Bool :=
 if (m229 a0.mats.l a1.mats.l (fun x0 x1 => m230 x0 x1)) = true then (if (m231 a0.filters.l a1.filters.l) = true then (m232 a0.backends.l a1.backends.l) else false) else false
theorem c184 (a0 : Rule) (a1 : Rule) {w : World} {H : PH} (hs : Sub H w) (k0p : Rule.Ok 1048576 H a0) (k1p : Rule.Ok 1048576 H a1) : Spec Tryz.prog 184 [Rule.v a0, Rule.v a1].toArray w H (fun _ v => v = .bool (m184 a0 a1)) := by
 refine Spec.enter Tryz.func184 rfl Tryz.ntmps184 rfl ?_
 have st := St.start hs
 refine CW.seq (CW.reg ?_)
 refine WL.box rfl rfl rfl rfl st ?_
 intro b1 W2 H3 st l4 f5
 refine WL.box rfl rfl rfl rfl st ?_
 intro b6 W7 H8 st l9 f10
 refine WL.as rfl (WL.nt (CW.seq (CW.reg (WL.pv (Pu.fa rfl fo66_0) (WL.pv (Pu.load rfl ty62 (((f5.le l9).drop 0).w st.sub) rfl) (WL.pv (Pu.fa rfl fo66_0) (WL.pv (Pu.load rfl ty62 ((f10.drop 0).w st.sub) rfl) ?_)))))))
 refine WL.callv rfl rfl en229 rfl rfl st (c229 a0.mats a1.mats 230 [] (fun x0 x1 => m230 x0 x1) st.sub (k0p.mats.le (l4.trans l9)) (k1p.mats.le (l4.trans l9)) en230 (fun x0 x1 w' H' lq12 hs o0 o1 => c230 x0 x1 hs o0 o1)) ?_
 intro W11 st
 refine WL.mv rfl ?_
 refine WL.splitP 10 rfl rT rF (fun h13 => ?_) (fun h13 => ?_)
 ·refine WL.pv (Pu.fa rfl fo66_1) (WL.pv (Pu.load rfl ty63 (((f5.le l9).drop 1).w st.sub) rfl) (WL.pv (Pu.fa rfl fo66_1) (WL.pv (Pu.load rfl ty63 ((f10.drop 1).w st.sub) rfl) ?_)))
  refine WL.callv rfl rfl en231 rfl rfl st (c231 a0.filters a1.filters st.sub (k0p.filters.le (l4.trans l9)) (k1p.filters.le (l4.trans l9))) ?_
  intro W14 st
  refine WL.pv (Pu.pickT rfl rfl) (WL.mv rfl ?_)
  refine WL.splitP 17 rfl rT rF (fun h15 => ?_) (fun h15 => ?_)
  ·refine WL.pv (Pu.fa rfl fo66_2) (WL.pv (Pu.load rfl ty64 (((f5.le l9).drop 2).w st.sub) rfl) (WL.pv (Pu.fa rfl fo66_2) (WL.pv (Pu.load rfl ty64 ((f10.drop 2).w st.sub) rfl) ?_)))
   refine WL.callv rfl rfl en232 rfl rfl st (c232 a0.backends a1.backends st.sub (k0p.backends.le (l4.trans l9)) (k1p.backends.le (l4.trans l9))) ?_
   intro W16 st
   refine WL.pv (Pu.pickT rfl rfl) (WL.as rfl (WL.nt ?_))
   refine CW.ret (finA Tryz.results184 st (.tmp rfl .nil) ?_)
   exact vb ((if_pos h13).trans (if_pos h15))
  ·refine WL.of (WL.of (WL.of (WL.of (WL.of (WL.pv (Pu.pickF rfl rfl) (WL.as rfl (WL.nt ?_)))))))
   refine CW.ret (finA Tryz.results184 st (.tmp rfl .nil) ?_)
   exact vb ((if_pos h13).trans (if_neg h15))
 ·refine WL.of (WL.of (WL.of (WL.of (WL.of (WL.pv (Pu.pickF rfl rfl) (WL.mv rfl (WL.of (WL.of (WL.of ?_)))))))))
  refine WL.of (WL.of (WL.pv (Pu.pickF rfl rfl) (WL.as rfl (WL.nt ?_))))
  refine CW.ret (finA Tryz.results184 st (.tmp rfl .nil) ?_)
  exact vb (if_neg h13)
/-! toll object.Same -/
def m128_j0 (a0 : Object) (a1 : Object) : Bool :=
 if a0.ref = a1.ref then (if (a0.good == a1.good) = true then (!decide (a0.cls = a1.cls)) else true) else true
def m128_j1 (a0 : Object) (a1 : Object) : Bool :=
 if (m176 a0.labels.l a1.labels.l) = true then (if (m177 a0.ports.l a1.ports.l) = true then (!(m178 a0.hosts.l a1.hosts.l)) else true) else true
def m128 (a0 : Object) (a1 : Object) : Bool :=
 lk1 (m128_j0 a0 a1) (fun r11 => if r11 = true then false else lk1 (m128_j1 a0 a1) (fun r19 => if r19 = true then false else if (m179 a0.parents.l a1.parents.l) = true then (if (m180 a0.frm.l a1.frm.l) = true then (if (m180 a0.to.l a1.to.l) = true then (if (m181 a0.listeners.l a1.listeners.l (fun x0 x1 => m182 x0 x1)) = true then (m183 a0.rules.l a1.rules.l (fun x0 x1 => m184 x0 x1)) else false) else false) else false) else false))
theorem c128 (a0 : Object) (a1 : Object) {w : World} {H : PH} (hs : Sub H w) (k0p : Object.Ok 1048576 H a0) (k1p : Object.Ok 1048576 H a1) : Spec Tryz.prog 128 [Object.v a0, Object.v a1].toArray w H (fun _ v => v = .bool (m128 a0 a1)) := by
 refine Spec.enter Tryz.func128 rfl Tryz.ntmps128 rfl ?_
 have st := St.start hs
 refine CW.seq (CW.reg ?_)
 refine WL.box rfl rfl rfl rfl st ?_
 intro b1 W2 H3 st l4 f5
 refine WL.box rfl rfl rfl rfl st ?_
 intro b6 W7 H8 st l9 f10
 refine WL.as rfl (WL.nt (CW.seq ?_))
 refine CW.blk ?_
 refine CW.seq (CW.cuts (fun (s : Bool) W => (∃ H', St w W H H' [] ∧ Le H8 H') ∧ m128_j0 a0 a1 = s) (fun (s : Bool) => [(2, Value.pointer (some (⟨b1, 0, none⟩ : Addr))), (3, Value.pointer (some (⟨b6, 0, none⟩ : Addr))), (5, Value.bool s)]) ?_ ?_)
 ·refine CW.reg (WL.pv (Pu.fa rfl fo32_0) (WL.pv (Pu.load (v := Ref.v a0.ref) rfl ty23 (((f5.le l9).drop 0).w st.sub) rfl) (WL.pv (Pu.fa rfl fo32_0) (WL.pv (Pu.load (v := Ref.v a1.ref) rfl ty23 ((f10.drop 0).w st.sub) rfl) (WL.pv (Pu.bin rfl rfl (eqg23 _ a0.ref a1.ref) (ne23 a0.ref a1.ref)) (WL.mv rfl ?_))))))
  refine WL.splitP 11 rfl nT nF (fun h12 => ?_) (fun h12 => ?_)
  ·refine WL.of (WL.of (WL.of (WL.of (WL.of (WL.pv (Pu.pickT rfl rfl) (WL.mv rfl (WL.of (WL.of (WL.of ?_)))))))))
   refine WL.of (WL.of (WL.pv (Pu.pickT rfl rfl) (WL.as rfl ?_)))
   refine WL.nil (QX.meets true ?_ (.cons rfl (.cons rfl (.cons rfl (.nil _)))))
   exact ⟨⟨_, st, (Le.refl _)⟩, if_neg h12⟩
  ·refine WL.pv (Pu.fa rfl fo32_1) (WL.pv (Pu.load rfl ty4 (((f5.le l9).drop 3).w st.sub) rfl) (WL.pv (Pu.fa rfl fo32_1) (WL.pv (Pu.load rfl ty4 ((f10.drop 3).w st.sub) rfl) (WL.pv (Pu.bne rfl rfl Tryz.underlying4) (WL.pv (Pu.pickF rfl rfl) (WL.mv rfl ?_))))))
   refine WL.splitP 18 rfl mT mF (fun h13 => ?_) (fun h13 => ?_)
   ·refine WL.of (WL.of (WL.of (WL.of (WL.of (WL.pv (Pu.pickT rfl rfl) (WL.as rfl ?_))))))
    refine WL.nil (QX.meets true ?_ (.cons rfl (.cons rfl (.cons rfl (.nil _)))))
    exact ⟨⟨_, st, (Le.refl _)⟩, (if_pos h12).trans (if_neg h13)⟩
   ·refine WL.pv (Pu.fa rfl fo32_4) (WL.pv (Pu.load rfl ty9 (((f5.le l9).drop 6).w st.sub) rfl) (WL.pv (Pu.fa rfl fo32_4) (WL.pv (Pu.load rfl ty9 ((f10.drop 6).w st.sub) rfl) (WL.pv (Pu.sne rfl rfl) (WL.pv (Pu.pickF rfl rfl) (WL.as rfl ?_))))))
    refine WL.nil (QX.meets (!decide (a0.cls = a1.cls)) ?_ (.cons rfl (.cons rfl (.cons rfl (.nil _)))))
    exact ⟨⟨_, st, (Le.refl _)⟩, (if_pos h12).trans (if_pos h13)⟩
 rintro r11 W16 ⟨⟨H14, st, l15⟩, e17⟩
 replace st : St w _ _ _ [] := st
 replace e17 : m128_j0 a0 a1 = r11 := e17
 show QX _ _ _ [(2, Value.pointer (some (⟨b1, 0, none⟩ : Addr))), (3, Value.pointer (some (⟨b6, 0, none⟩ : Addr))), (5, Value.bool r11)] _
 refine QX.thenN ?_
 refine CW.condP 5 rfl rT rF (fun h18 => ?_) (fun h18 => ?_)
 ·refine CW.seq (CW.reg (WL.as rfl (WL.nt ?_)))
  refine CW.ret (QX.blkR (QX.thenR (finA Tryz.results128 st (.tmp rfl .nil) ?_)))
  exact vb ((lk1_eq e17).trans (if_pos h18))
 ·refine CW.seq (CW.cuts (fun (s : Bool) W => (∃ H', St w W H H' [] ∧ Le H14 H') ∧ m128_j1 a0 a1 = s) (fun (s : Bool) => [(2, Value.pointer (some (⟨b1, 0, none⟩ : Addr))), (3, Value.pointer (some (⟨b6, 0, none⟩ : Addr))), (25, Value.bool s)]) ?_ ?_)
  ·refine CW.reg (WL.pv (Pu.fa rfl fo32_2) (WL.pv (Pu.load rfl ty24 (((f5.le (l9.trans l15)).drop 4).w st.sub) rfl) (WL.pv (Pu.fa rfl fo32_2) (WL.pv (Pu.load rfl ty24 (((f10.le l15).drop 4).w st.sub) rfl) ?_))))
   refine WL.callv rfl rfl en176 rfl rfl st (c176 a0.labels a1.labels st.sub (k0p.labels.le ((l4.trans l9).trans l15)) (k1p.labels.le ((l4.trans l9).trans l15))) ?_
   intro W20 st
   refine WL.pv (Pu.notb rfl) (WL.mv rfl ?_)
   refine WL.splitP 32 rfl mT mF (fun h21 => ?_) (fun h21 => ?_)
   ·refine WL.of (WL.of (WL.of (WL.of (WL.of (WL.of (WL.pv (Pu.pickT rfl rfl) (WL.mv rfl (WL.of (WL.of ?_)))))))))
    refine WL.of (WL.of (WL.of (WL.of (WL.pv (Pu.pickT rfl rfl) (WL.as rfl ?_)))))
    refine WL.nil (QX.meets true ?_ (.cons rfl (.cons rfl (.cons rfl (.nil _)))))
    exact ⟨⟨_, st, (Le.refl _)⟩, if_neg h21⟩
   ·refine WL.pv (Pu.fa rfl fo32_3) (WL.pv (Pu.load rfl ty25 (((f5.le (l9.trans l15)).drop 5).w st.sub) rfl) (WL.pv (Pu.fa rfl fo32_3) (WL.pv (Pu.load rfl ty25 (((f10.le l15).drop 5).w st.sub) rfl) ?_)))
    refine WL.callv rfl rfl en177 rfl rfl st (c177 a0.ports a1.ports st.sub (k0p.ports.le ((l4.trans l9).trans l15)) (k1p.ports.le ((l4.trans l9).trans l15))) ?_
    intro W22 st
    refine WL.pv (Pu.notb rfl) (WL.pv (Pu.pickF rfl rfl) (WL.mv rfl ?_))
    refine WL.splitP 40 rfl mT mF (fun h23 => ?_) (fun h23 => ?_)
    ·refine WL.of (WL.of (WL.of (WL.of (WL.of (WL.of (WL.pv (Pu.pickT rfl rfl) (WL.as rfl ?_)))))))
     refine WL.nil (QX.meets true ?_ (.cons rfl (.cons rfl (.cons rfl (.nil _)))))
     exact ⟨⟨_, st, (Le.refl _)⟩, (if_pos h21).trans (if_neg h23)⟩
    ·refine WL.pv (Pu.fa rfl fo32_7) (WL.pv (Pu.load rfl ty28 (((f5.le (l9.trans l15)).drop 9).w st.sub) rfl) (WL.pv (Pu.fa rfl fo32_7) (WL.pv (Pu.load rfl ty28 (((f10.le l15).drop 9).w st.sub) rfl) ?_)))
     refine WL.callv rfl rfl en178 rfl rfl st (c178 a0.hosts a1.hosts st.sub (k0p.hosts.le ((l4.trans l9).trans l15)) (k1p.hosts.le ((l4.trans l9).trans l15))) ?_
     intro W24 st
     refine WL.pv (Pu.notb rfl) (WL.pv (Pu.pickF rfl rfl) (WL.as rfl ?_))
     refine WL.nil (QX.meets (!(m178 a0.hosts.l a1.hosts.l)) ?_ (.cons rfl (.cons rfl (.cons rfl (.nil _)))))
     exact ⟨⟨_, st, (Le.refl _)⟩, (if_pos h21).trans (if_pos h23)⟩
  rintro r19 W27 ⟨⟨H25, st, l26⟩, e28⟩
  replace st : St w _ _ _ [] := st
  replace e28 : m128_j1 a0 a1 = r19 := e28
  show QX _ _ _ [(2, Value.pointer (some (⟨b1, 0, none⟩ : Addr))), (3, Value.pointer (some (⟨b6, 0, none⟩ : Addr))), (25, Value.bool r19)] _
  refine QX.thenN ?_
  refine CW.condP 25 rfl rT rF (fun h29 => ?_) (fun h29 => ?_)
  ·refine CW.seq (CW.reg (WL.as rfl (WL.nt ?_)))
   refine CW.ret (QX.blkR (QX.thenR (finA Tryz.results128 st (.tmp rfl .nil) ?_)))
   exact vb ((lk1_eq e17).trans ((if_neg h18).trans ((lk1_eq e28).trans (if_pos h29))))
  ·refine CW.seq (CW.reg (WL.pv (Pu.fa rfl fo32_6) (WL.pv (Pu.load rfl ty27 (((f5.le ((l9.trans l15).trans l26)).drop 8).w st.sub) rfl) (WL.pv (Pu.fa rfl fo32_6) (WL.pv (Pu.load rfl ty27 (((f10.le (l15.trans l26)).drop 8).w st.sub) rfl) ?_)))))
   refine WL.callv rfl rfl en179 rfl rfl st (c179 a0.parents a1.parents st.sub (k0p.parents.le (((l4.trans l9).trans l15).trans l26)) (k1p.parents.le (((l4.trans l9).trans l15).trans l26))) ?_
   intro W30 st
   refine WL.pv (Pu.notb rfl) (WL.mv rfl ?_)
   refine WL.splitP 55 rfl mT mF (fun h31 => ?_) (fun h31 => ?_)
   ·refine WL.of (WL.of (WL.of (WL.of (WL.of (WL.of (WL.pv (Pu.pickT rfl rfl) (WL.mv rfl (WL.of (WL.of ?_)))))))))
    refine WL.of (WL.of (WL.of (WL.of (WL.pv (Pu.pickT rfl rfl) (WL.as rfl (WL.nt ?_))))))
    refine CW.condT rfl ?_
    refine CW.seq (CW.reg (WL.as rfl (WL.nt ?_)))
    refine CW.ret (QX.blkR (QX.thenR (finA Tryz.results128 st (.tmp rfl .nil) ?_)))
    exact vb ((lk1_eq e17).trans ((if_neg h18).trans ((lk1_eq e28).trans ((if_neg h29).trans (if_neg h31)))))
   ·refine WL.pv (Pu.fa rfl fo32_9) (WL.pv (Pu.load rfl ty30 (((f5.le ((l9.trans l15).trans l26)).drop 11).w st.sub) rfl) (WL.pv (Pu.fa rfl fo32_9) (WL.pv (Pu.load rfl ty30 (((f10.le (l15.trans l26)).drop 11).w st.sub) rfl) ?_)))
    refine WL.callv rfl rfl en180 rfl rfl st (c180 a0.frm a1.frm st.sub (k0p.frm.le (((l4.trans l9).trans l15).trans l26)) (k1p.frm.le (((l4.trans l9).trans l15).trans l26))) ?_
    intro W32 st
    refine WL.pv (Pu.notb rfl) (WL.pv (Pu.pickF rfl rfl) (WL.mv rfl ?_))
    refine WL.splitP 63 rfl mT mF (fun h33 => ?_) (fun h33 => ?_)
    ·refine WL.of (WL.of (WL.of (WL.of (WL.of (WL.of (WL.pv (Pu.pickT rfl rfl) (WL.as rfl (WL.nt ?_))))))))
     refine CW.condT rfl ?_
     refine CW.seq (CW.reg (WL.as rfl (WL.nt ?_)))
     refine CW.ret (QX.blkR (QX.thenR (finA Tryz.results128 st (.tmp rfl .nil) ?_)))
     exact vb ((lk1_eq e17).trans ((if_neg h18).trans ((lk1_eq e28).trans ((if_neg h29).trans ((if_pos h31).trans (if_neg h33))))))
    ·refine WL.pv (Pu.fa rfl fo32_10) (WL.pv (Pu.load rfl ty30 (((f5.le ((l9.trans l15).trans l26)).drop 12).w st.sub) rfl) (WL.pv (Pu.fa rfl fo32_10) (WL.pv (Pu.load rfl ty30 (((f10.le (l15.trans l26)).drop 12).w st.sub) rfl) ?_)))
     refine WL.callv rfl rfl en180 rfl rfl st (c180 a0.to a1.to st.sub (k0p.to.le (((l4.trans l9).trans l15).trans l26)) (k1p.to.le (((l4.trans l9).trans l15).trans l26))) ?_
     intro W34 st
     refine WL.pv (Pu.notb rfl) (WL.pv (Pu.pickF rfl rfl) (WL.as rfl (WL.nt ?_)))
     refine CW.condP 48 rfl mT mF (fun h35 => ?_) (fun h35 => ?_)
     ·refine CW.seq (CW.reg (WL.as rfl (WL.nt ?_)))
      refine CW.ret (QX.blkR (QX.thenR (finA Tryz.results128 st (.tmp rfl .nil) ?_)))
      exact vb ((lk1_eq e17).trans ((if_neg h18).trans ((lk1_eq e28).trans ((if_neg h29).trans ((if_pos h31).trans ((if_pos h33).trans (if_neg h35)))))))
     ·refine CW.skip (QX.blkN (QX.thenN ?_))
      refine CW.seq (CW.reg (WL.pv (Pu.fa rfl fo32_5) (WL.pv (Pu.load rfl ty26 (((f5.le ((l9.trans l15).trans l26)).drop 7).w st.sub) rfl) (WL.pv (Pu.fa rfl fo32_5) (WL.pv (Pu.load rfl ty26 (((f10.le (l15.trans l26)).drop 7).w st.sub) rfl) ?_)))))
      refine WL.callv rfl rfl en181 rfl rfl st (c181 a0.listeners a1.listeners 182 [] (fun x0 x1 => m182 x0 x1) st.sub (k0p.listeners.le (((l4.trans l9).trans l15).trans l26)) (k1p.listeners.le (((l4.trans l9).trans l15).trans l26)) en182 (fun x0 x1 w' H' lq37 hs o0 o1 => c182 x0 x1 hs o0 o1)) ?_
      intro W36 st
      refine WL.mv rfl ?_
      refine WL.splitP 76 rfl rT rF (fun h38 => ?_) (fun h38 => ?_)
      ·refine WL.pv (Pu.fa rfl fo32_8) (WL.pv (Pu.load rfl ty29 (((f5.le ((l9.trans l15).trans l26)).drop 10).w st.sub) rfl) (WL.pv (Pu.fa rfl fo32_8) (WL.pv (Pu.load rfl ty29 (((f10.le (l15.trans l26)).drop 10).w st.sub) rfl) ?_)))
       refine WL.callv rfl rfl en183 rfl rfl st (c183 a0.rules a1.rules 184 [] (fun x0 x1 => m184 x0 x1) st.sub (k0p.rules.le (((l4.trans l9).trans l15).trans l26)) (k1p.rules.le (((l4.trans l9).trans l15).trans l26)) en184 (fun x0 x1 w' H' lq40 hs o0 o1 => c184 x0 x1 hs o0 o1)) ?_
       intro W39 st
       refine WL.pv (Pu.pickT rfl rfl) (WL.as rfl (WL.nt ?_))
       refine CW.ret (finA Tryz.results128 st (.tmp rfl .nil) ?_)
       exact vb ((lk1_eq e17).trans ((if_neg h18).trans ((lk1_eq e28).trans ((if_neg h29).trans ((if_pos h31).trans ((if_pos h33).trans ((if_pos h35).trans (if_pos h38))))))))
      ·refine WL.of (WL.of (WL.of (WL.of (WL.of (WL.pv (Pu.pickF rfl rfl) (WL.as rfl (WL.nt ?_)))))))
       refine CW.ret (finA Tryz.results128 st (.tmp rfl .nil) ?_)
       exact vb ((lk1_eq e17).trans ((if_neg h18).trans ((lk1_eq e28).trans ((if_neg h29).trans ((if_pos h31).trans ((if_pos h33).trans ((if_pos h35).trans (if_neg h38))))))))
/-! toll object.May -/
def m80 (a0 : Object) : Bool :=
 if (m107 a0.ref) = true then (if ((m136 (⟨a0⟩ : Thing)).1) = true then (m128 (((m136 (⟨a0⟩ : Thing)).2).object) (⟨a0.ref, false, (Sl.nil : Sl Pair), (Sl.nil : Sl Int), (⟨#[]⟩ : ByteArray), (Sl.nil : Sl Listener), (Sl.nil : Sl Parent), (Sl.nil : Sl ByteArray), (Sl.nil : Sl Rule), (Sl.nil : Sl Side), (Sl.nil : Sl Side)⟩ : Object)) else false) else false
theorem c80 (a0 : Object) {w : World} {H : PH} (hs : Sub H w) (k0p : Object.Ok 1048576 H a0) (hk : a0.ref.kind = 7) : Spec Tryz.prog 80 [Object.v a0].toArray w H (fun _ v => v = .bool (m80 a0)) := by
 refine Spec.enter Tryz.func80 rfl Tryz.ntmps80 rfl ?_
 have st := St.start hs
 refine CW.seq (CW.reg ?_)
 refine WL.box rfl rfl rfl rfl st ?_
 intro b1 W2 H3 st l4 f5
 refine WL.as rfl (WL.nt (CW.seq (CW.reg ?_)))
 refine WL.mkmap rfl rfl st ?_
 intro b6 W7 st
 refine WL.mapins rfl Tryz.underlying190 Tryz.underlying3 rfl rfl rfl rfl st ?_
 intro W8 st
 replace st : St w _ _ _ [Own.box b6 (.map [ment (.int .i64 1) (.func (.func 131) #[] [].toArray) 0].toArray 1)] := st
 refine WL.mapins rfl Tryz.underlying190 Tryz.underlying3 rfl rfl rfl rfl st ?_
 intro W9 st
 replace st : St w _ _ _ [Own.box b6 (.map [ment (.int .i64 1) (.func (.func 131) #[] [].toArray) 0, ment (.int .i64 2) (.func (.func 132) #[] [].toArray) 1].toArray 2)] := st
 refine WL.mapins rfl Tryz.underlying190 Tryz.underlying3 rfl rfl rfl rfl st ?_
 intro W10 st
 replace st : St w _ _ _ [Own.box b6 (.map [ment (.int .i64 1) (.func (.func 131) #[] [].toArray) 0, ment (.int .i64 2) (.func (.func 132) #[] [].toArray) 1, ment (.int .i64 3) (.func (.func 133) #[] [].toArray) 2].toArray 3)] := st
 refine WL.mapins rfl Tryz.underlying190 Tryz.underlying3 rfl rfl rfl rfl st ?_
 intro W11 st
 replace st : St w _ _ _ [Own.box b6 (.map [ment (.int .i64 1) (.func (.func 131) #[] [].toArray) 0, ment (.int .i64 2) (.func (.func 132) #[] [].toArray) 1, ment (.int .i64 3) (.func (.func 133) #[] [].toArray) 2, ment (.int .i64 4) (.func (.func 131) #[] [].toArray) 3].toArray 4)] := st
 refine WL.mapins rfl Tryz.underlying190 Tryz.underlying3 rfl rfl rfl rfl st ?_
 intro W12 st
 replace st : St w _ _ _ [Own.box b6 (.map [ment (.int .i64 1) (.func (.func 131) #[] [].toArray) 0, ment (.int .i64 2) (.func (.func 132) #[] [].toArray) 1, ment (.int .i64 3) (.func (.func 133) #[] [].toArray) 2, ment (.int .i64 4) (.func (.func 131) #[] [].toArray) 3, ment (.int .i64 5) (.func (.func 134) #[] [].toArray) 4].toArray 5)] := st
 refine WL.mapins rfl Tryz.underlying190 Tryz.underlying3 rfl rfl rfl rfl st ?_
 intro W13 st
 replace st : St w _ _ _ [Own.box b6 (.map [ment (.int .i64 1) (.func (.func 131) #[] [].toArray) 0, ment (.int .i64 2) (.func (.func 132) #[] [].toArray) 1, ment (.int .i64 3) (.func (.func 133) #[] [].toArray) 2, ment (.int .i64 4) (.func (.func 131) #[] [].toArray) 3, ment (.int .i64 5) (.func (.func 134) #[] [].toArray) 4, ment (.int .i64 6) (.func (.func 135) #[] [].toArray) 5].toArray 6)] := st
 refine WL.mapins rfl Tryz.underlying190 Tryz.underlying3 rfl rfl rfl rfl st ?_
 intro W14 st
 replace st : St w _ _ _ [Own.box b6 (.map [ment (.int .i64 1) (.func (.func 131) #[] [].toArray) 0, ment (.int .i64 2) (.func (.func 132) #[] [].toArray) 1, ment (.int .i64 3) (.func (.func 133) #[] [].toArray) 2, ment (.int .i64 4) (.func (.func 131) #[] [].toArray) 3, ment (.int .i64 5) (.func (.func 134) #[] [].toArray) 4, ment (.int .i64 6) (.func (.func 135) #[] [].toArray) 5, ment (.int .i64 7) (.func (.func 136) #[] [].toArray) 6].toArray 7)] := st
 refine WL.mv rfl (WL.as rfl (WL.nt (CW.seq (CW.reg (WL.pv (Pu.load (v := Object.v a0) rfl ty32 (f5.w st.sub) rfl) (WL.pv (Pu.buildL (cs := Thing.c (⟨a0⟩ : Thing)) st192 rfl rfl rfl) ?_))))))
 refine WL.boxo (c := #[.int .i64 a0.ref.kind, .string a0.ref.space, .string a0.ref.name, .bool a0.good, a0.labels.v, a0.ports.v, .string a0.cls, a0.listeners.v, a0.parents.v, a0.hosts.v, a0.rules.v, a0.frm.v, a0.to.v]) rfl rfl rfl rfl st ?_
 intro b15 W16 st
 refine WL.as rfl (WL.nt (CW.seq ?_))
 refine CW.regS (C := Cl w H3 [Own.box b6 (.map [ment (.int .i64 1) (.func (.func 131) #[] [].toArray) 0, ment (.int .i64 2) (.func (.func 132) #[] [].toArray) 1, ment (.int .i64 3) (.func (.func 133) #[] [].toArray) 2, ment (.int .i64 4) (.func (.func 131) #[] [].toArray) 3, ment (.int .i64 5) (.func (.func 134) #[] [].toArray) 4, ment (.int .i64 6) (.func (.func 135) #[] [].toArray) 5, ment (.int .i64 7) (.func (.func 136) #[] [].toArray) 6].toArray 7)]) (tail := []) (S := Grew w H H3 [Own.box b15 (.cells #[.int .i64 a0.ref.kind, .string a0.ref.space, .string a0.ref.name, .bool a0.good, a0.labels.v, a0.ports.v, .string a0.cls, a0.listeners.v, a0.parents.v, a0.hosts.v, a0.rules.v, a0.frm.v, a0.to.v] 192 (0, 0)), Own.box b6 (.map [ment (.int .i64 1) (.func (.func 131) #[] [].toArray) 0, ment (.int .i64 2) (.func (.func 132) #[] [].toArray) 1, ment (.int .i64 3) (.func (.func 133) #[] [].toArray) 2, ment (.int .i64 4) (.func (.func 131) #[] [].toArray) 3, ment (.int .i64 5) (.func (.func 134) #[] [].toArray) 4, ment (.int .i64 6) (.func (.func 135) #[] [].toArray) 5, ment (.int .i64 7) (.func (.func 136) #[] [].toArray) 6].toArray 7)]) mixed (fun W' h1 h2 h3 h4 => grew_start st h1 h2 h3 h4) (n := 23) rfl ?_
 refine WS.pk 0 rfl (good_grew (Le.refl _) (fun _ h => .tail _ (h))) (fun W hC => Pu.fa rfl fo32_0) ?_
 refine WS.pk 1 rfl (good_grew (Le.refl _) (fun _ h => .tail _ (h))) (fun W hC => Pu.load (v := Ref.v a0.ref) rfl ty23 ((f5.drop 0).w hC.1) rfl) ?_
 refine WS.callv (by kernel_rfl) (.then .body) 2 rfl (by kernel_rfl) (good_grew (Le.refl _) (fun _ h => .tail _ (h))) rfl rfl en107 rfl rfl (fun W hC => ⟨_, c107 a0.ref hC.1 (k0p.ref.le l4)⟩) ?_
 refine WS.pk 3 rfl (good_grew (Le.refl _) (fun _ h => .tail _ (h))) (fun W hC => Pu.move rfl) ?_
 refine WS.split 13 rfl rT rF (fun h17 => ?_) (fun h17 => ?_)
 ·have z18 := tells107 h17
  refine WS.pk 4 rfl (good_grew (Le.refl _) (fun _ h => .tail _ (h))) (fun W hC => Pu.move rfl) ?_
  refine WS.pk 5 rfl (good_grew (Le.refl _) (fun _ h => .tail _ (h))) (fun W hC => Pu.fa rfl fo32_0) ?_
  refine WS.pk 6 rfl (good_grew (Le.refl _) (fun _ h => .tail _ (h))) (fun W hC => Pu.fa rfl fo23_0) ?_
  refine WS.pk 7 rfl (good_grew (Le.refl _) (fun _ h => .tail _ (h))) (fun W hC => Pu.load rfl ty3 (((f5.drop 0).drop 0).w hC.1) rfl) ?_
  have h19 : a0.ref.kind = 7 := by omega
  refine WS.re 17 (v := .int .i64 7) rfl (by rw [h19]) ?_
  refine WS.pk 8 rfl (good_grew (Le.refl _) (fun _ h => .tail _ (h))) (fun W hC => Pu.mlook rfl rfl Tryz.underlying190 Tryz.underlying3 (hC.2 _ (.head _)).2 rfl) ?_
  refine WS.pk 9 rfl (good_grew (Le.refl _) (fun _ h => .tail _ (h))) (fun W hC => Pu.move rfl) ?_
  refine WS.one (i := 10) (by kernel_rfl) ?_
  refine WO.callO 10 rfl rfl rfl (fun _ H' l => good_grew ((Le.refl _).trans l) (fun _ h => .tail _ (h))) en136 rfl rfl (fun W H' st l => c136 (⟨a0⟩ : Thing) st ⟨(k0p.le (l4.trans l))⟩) ?_
  rintro _ H20 l21 ⟨rfl, k22⟩
  refine WS.pk 11 rfl (good_grew l21 (fun _ h => .tail _ (h))) (fun W hC => Pu.pickT rfl rfl) ?_
  refine WS.pk 12 rfl (good_grew l21 (fun _ h => .tail _ (h))) (fun W hC => Pu.move rfl) ?_
  refine WS.split 22 rfl rT rF (fun h23 => ?_) (fun h23 => ?_)
  ·refine WS.pk 13 rfl (good_grew l21 (fun _ h => .tail _ (h))) (fun W hC => Pu.move rfl) ?_
   refine WS.pk 14 rfl (good_grew l21 (fun _ h => .tail _ (h))) (fun W hC => Pu.nilc rfl) ?_
   refine WS.pk 15 rfl (good_grew l21 (fun _ h => .tail _ (h))) (fun W hC => Pu.fa rfl fo192_0) ?_
   refine WS.pk 17 rfl (good_grew l21 (fun _ h => .tail _ (h))) (fun W hC => Pu.fa rfl fo32_0) ?_
   refine WS.pk 18 rfl (good_grew l21 (fun _ h => .tail _ (h))) (fun W hC => Pu.load (v := Ref.v a0.ref) rfl ty23 ((f5.drop 0).w hC.1) rfl) ?_
   refine WS.pk 19 rfl (good_grew l21 (fun _ h => .tail _ (h))) (fun W hC => Pu.buildL (cs := Object.c (⟨a0.ref, false, (Sl.nil : Sl Pair), (Sl.nil : Sl Int), (⟨#[]⟩ : ByteArray), (Sl.nil : Sl Listener), (Sl.nil : Sl Parent), (Sl.nil : Sl ByteArray), (Sl.nil : Sl Rule), (Sl.nil : Sl Side), (Sl.nil : Sl Side)⟩ : Object)) st32 rfl rfl rfl) ?_
   refine WS.one (i := 16) (by kernel_rfl) ?_
   refine WO.pu 16 rfl rfl rfl (fun _ H' l => good_grew (l21.trans l) (fun _ h => .tail _ (h))) (fun W H' st l => Pu.load (v := Object.v (((m136 (⟨a0⟩ : Thing)).2).object)) rfl ty32 (AtW.block (st.own _ (.head _)).1.2) rfl) ?_
   refine WS.one (i := 20) (by kernel_rfl) ?_
   refine WO.call 20 rfl rfl rfl (fun _ H' l => good_grew (l21.trans l) (fun _ h => .tail _ (h))) en128 rfl rfl (fun W H' hs' l => c128 (((m136 (⟨a0⟩ : Thing)).2).object) (⟨a0.ref, false, (Sl.nil : Sl Pair), (Sl.nil : Sl Int), (⟨#[]⟩ : ByteArray), (Sl.nil : Sl Listener), (Sl.nil : Sl Parent), (Sl.nil : Sl ByteArray), (Sl.nil : Sl Rule), (Sl.nil : Sl Side), (Sl.nil : Sl Side)⟩ : Object) hs' (k22.object.le l) ⟨(k0p.ref.le ((l4.trans l21).trans l)), Sl.Ok.nil, Sl.Ok.nil, (by first|omega|simp<;>omega), Sl.Ok.nil, Sl.Ok.nil, Sl.Ok.nil, Sl.Ok.nil, Sl.Ok.nil, Sl.Ok.nil⟩) ?_
   rintro _ H24 l25 rfl
   refine WS.pk 21 rfl (good_grew (l21.trans l25) (fun _ h => .tail _ (h))) (fun W hC => Pu.pickT rfl rfl) ?_
   refine WS.pk 22 rfl (good_grew (l21.trans l25) (fun _ h => .tail _ (h))) (fun W hC => Pu.assign rfl) ?_
   refine WS.fin (by kernel_rfl) (fun W28 H26 st l27 => ?_)
   refine QX.thenN ?_
   refine CW.ret (finA Tryz.results80 st (.tmp rfl .nil) ?_)
   exact vb ((if_pos h17).trans (if_pos h23))
  ·refine WS.ok 13 rfl (good_grew l21 (fun _ h => .tail _ (h))) ?_
   refine WS.ok 14 rfl (good_grew l21 (fun _ h => .tail _ (h))) ?_
   refine WS.ok 15 rfl (good_grew l21 (fun _ h => .tail _ (h))) ?_
   refine WS.ok 16 rfl (good_grew l21 (fun _ h => .tail _ (h))) ?_
   refine WS.ok 17 rfl (good_grew l21 (fun _ h => .tail _ (h))) ?_
   refine WS.ok 18 rfl (good_grew l21 (fun _ h => .tail _ (h))) ?_
   refine WS.ok 19 rfl (good_grew l21 (fun _ h => .tail _ (h))) ?_
   refine WS.ok 20 rfl (good_grew l21 (fun _ h => .tail _ (h))) ?_
   refine WS.pk 21 rfl (good_grew l21 (fun _ h => .tail _ (h))) (fun W hC => Pu.pickF rfl rfl) ?_
   refine WS.pk 22 rfl (good_grew l21 (fun _ h => .tail _ (h))) (fun W hC => Pu.assign rfl) ?_
   refine WS.fin (by kernel_rfl) (fun W31 H29 st l30 => ?_)
   refine QX.thenN ?_
   refine CW.ret (finA Tryz.results80 st (.tmp rfl .nil) ?_)
   exact vb ((if_pos h17).trans (if_neg h23))
 ·refine WS.ok 4 rfl (good_grew (Le.refl _) (fun _ h => .tail _ (h))) ?_
  refine WS.ok 5 rfl (good_grew (Le.refl _) (fun _ h => .tail _ (h))) ?_
  refine WS.ok 6 rfl (good_grew (Le.refl _) (fun _ h => .tail _ (h))) ?_
  refine WS.ok 7 rfl (good_grew (Le.refl _) (fun _ h => .tail _ (h))) ?_
  refine WS.ok 8 rfl (good_grew (Le.refl _) (fun _ h => .tail _ (h))) ?_
  refine WS.ok 9 rfl (good_grew (Le.refl _) (fun _ h => .tail _ (h))) ?_
  refine WS.ok 10 rfl (good_grew (Le.refl _) (fun _ h => .tail _ (h))) ?_
  refine WS.pk 11 rfl (good_grew (Le.refl _) (fun _ h => .tail _ (h))) (fun W hC => Pu.pickF rfl rfl) ?_
  refine WS.pk 12 rfl (good_grew (Le.refl _) (fun _ h => .tail _ (h))) (fun W hC => Pu.move rfl) ?_
  refine WS.ok 13 rfl (good_grew (Le.refl _) (fun _ h => .tail _ (h))) ?_
  refine WS.ok 14 rfl (good_grew (Le.refl _) (fun _ h => .tail _ (h))) ?_
  refine WS.ok 15 rfl (good_grew (Le.refl _) (fun _ h => .tail _ (h))) ?_
  refine WS.ok 16 rfl (good_grew (Le.refl _) (fun _ h => .tail _ (h))) ?_
  refine WS.ok 17 rfl (good_grew (Le.refl _) (fun _ h => .tail _ (h))) ?_
  refine WS.ok 18 rfl (good_grew (Le.refl _) (fun _ h => .tail _ (h))) ?_
  refine WS.ok 19 rfl (good_grew (Le.refl _) (fun _ h => .tail _ (h))) ?_
  refine WS.ok 20 rfl (good_grew (Le.refl _) (fun _ h => .tail _ (h))) ?_
  refine WS.pk 21 rfl (good_grew (Le.refl _) (fun _ h => .tail _ (h))) (fun W hC => Pu.pickF rfl rfl) ?_
  refine WS.pk 22 rfl (good_grew (Le.refl _) (fun _ h => .tail _ (h))) (fun W hC => Pu.assign rfl) ?_
  refine WS.fin (by kernel_rfl) (fun W34 H32 st l33 => ?_)
  refine QX.thenN ?_
  refine CW.ret (finA Tryz.results80 st (.tmp rfl .nil) ?_)
  exact vb (if_neg h17)
/-! toll grant.Lets 1 -/
def m78 (a0 : Side) (a1 : Int) (a2 : ByteArray) : Bool :=
 if a0.kind = a1 then (decide (a0.space = a2)) else false
theorem c78 (a0 : Side) (b1p : Addr) (a1 : Int) (b2p : Addr) (a2 : ByteArray) {w : World} {H : PH} (hs : Sub H w) (k0p : Side.Ok 1048576 H a0) (f1p : At H b1p [.int .i64 a1]) (k2p : a2.size < 1048576) (f2p : At H b2p [.string a2]) : Spec Tryz.prog 78 [Side.v a0, .pointer (some b1p), .pointer (some b2p)].toArray w H (fun _ v => v = .bool (m78 a0 a1 a2)) := by
 refine Spec.enter Tryz.func78 rfl Tryz.ntmps78 rfl ?_
 have st := St.start hs
 refine CW.seq (CW.reg ?_)
 refine WL.box rfl rfl rfl rfl st ?_
 intro b1 W2 H3 st l4 f5
 refine WL.as rfl (WL.nt (CW.seq (CW.reg (WL.pv (Pu.fa rfl fo41_0) (WL.pv (Pu.load rfl ty3 ((f5.drop 0).w st.sub) rfl) (WL.pv (Pu.load rfl ty3 ((f1p.le l4).w st.sub) rfl) (WL.pv (Pu.ieq rfl rfl) (WL.mv rfl ?_))))))))
 refine WL.splitP 9 rfl dT dF (fun h6 => ?_) (fun h6 => ?_)
 ·refine WL.pv (Pu.fa rfl fo41_1) (WL.pv (Pu.load rfl ty9 ((f5.drop 1).w st.sub) rfl) (WL.pv (Pu.load rfl ty9 ((f2p.le l4).w st.sub) rfl) (WL.pv (Pu.seq rfl rfl) (WL.pv (Pu.pickT rfl rfl) (WL.as rfl (WL.nt ?_))))))
  refine CW.ret (finA Tryz.results78 st (.tmp rfl .nil) ?_)
  exact vb (if_pos h6)
 ·refine WL.of (WL.of (WL.of (WL.of (WL.pv (Pu.pickF rfl rfl) (WL.as rfl (WL.nt ?_))))))
  refine CW.ret (finA Tryz.results78 st (.tmp rfl .nil) ?_)
  exact vb (if_neg h6)
/-! toll grant.Lets 2 -/
def m79 (a0 : Side) (a1 : Ref) : Bool :=
 if a0.kind = a1.kind then (if a0.name = (⟨#[]⟩ : ByteArray) then true else decide (a0.name = a1.name)) else false
theorem c79 (a0 : Side) (b1p : Addr) (a1 : Ref) {w : World} {H : PH} (hs : Sub H w) (k0p : Side.Ok 1048576 H a0) (k1p : Ref.Ok 1048576 H a1) (f1p : At H b1p [.int .i64 a1.kind, .string a1.space, .string a1.name]) : Spec Tryz.prog 79 [Side.v a0, .pointer (some b1p)].toArray w H (fun _ v => v = .bool (m79 a0 a1)) := by
 refine Spec.enter Tryz.func79 rfl Tryz.ntmps79 rfl ?_
 have st := St.start hs
 refine CW.seq (CW.reg ?_)
 refine WL.box rfl rfl rfl rfl st ?_
 intro b1 W2 H3 st l4 f5
 refine WL.as rfl (WL.nt (CW.seq (CW.reg (WL.pv (Pu.fa rfl fo41_0) (WL.pv (Pu.load rfl ty3 ((f5.drop 0).w st.sub) rfl) (WL.pv (Pu.fa rfl fo23_0) (WL.pv (Pu.load rfl ty3 (((f1p.le l4).drop 0).w st.sub) rfl) (WL.pv (Pu.ieq rfl rfl) (WL.mv rfl ?_)))))))))
 refine WL.splitP 9 rfl dT dF (fun h6 => ?_) (fun h6 => ?_)
 ·refine WL.pv (Pu.fa rfl fo41_2) (WL.pv (Pu.load rfl ty9 ((f5.drop 2).w st.sub) rfl) (WL.pv (Pu.seq rfl rfl) (WL.mv rfl ?_)))
  refine WL.splitP 13 rfl dT dF (fun h7 => ?_) (fun h7 => ?_)
  ·refine WL.of (WL.of (WL.of (WL.of (WL.of (WL.pv (Pu.pickT rfl rfl) (WL.pv (Pu.pickT rfl rfl) (WL.as rfl (WL.nt ?_))))))))
   refine CW.ret (finA Tryz.results79 st (.tmp rfl .nil) ?_)
   exact vb ((if_pos h6).trans (if_pos h7))
  ·have z8 := size_ne h7
   refine WL.pv (Pu.fa rfl fo41_2) (WL.pv (Pu.load rfl ty9 ((f5.drop 2).w st.sub) rfl) (WL.pv (Pu.fa rfl fo23_2) (WL.pv (Pu.load rfl ty9 (((f1p.le l4).drop 2).w st.sub) rfl) (WL.pv (Pu.seq rfl rfl) (WL.pv (Pu.pickF rfl rfl) (WL.pv (Pu.pickT rfl rfl) (WL.as rfl (WL.nt ?_))))))))
   refine CW.ret (finA Tryz.results79 st (.tmp rfl .nil) ?_)
   exact vb ((if_pos h6).trans (if_neg h7))
 ·refine WL.of ?_
  iterate 9 refine WL.of ?_
  refine WL.pv (Pu.pickF rfl rfl) (WL.as rfl (WL.nt ?_))
  refine CW.ret (finA Tryz.results79 st (.tmp rfl .nil) ?_)
  exact vb (if_neg h6)
/-! toll grant.Lets -/
def m17 (a0 : Object) (a1 : Int) (a2 : ByteArray) (a3 : Ref) : Bool :=
 if a0.ref.kind = 7 then (if a0.ref.space = a3.space then (if (m80 a0) = true then (if (m81 a0.frm.l (fun x0 => m78 x0 a1 a2)) = true then (m81 a0.to.l (fun x0 => m79 x0 a3)) else false) else false) else false) else false
theorem c17 (a0 : Object) (a1 : Int) (a2 : ByteArray) (a3 : Ref) {w : World} {H : PH} (hs : Sub H w) (k0p : Object.Ok 1048576 H a0) (k2p : a2.size < 1048576) (k3p : Ref.Ok 1048576 H a3) : Spec Tryz.prog 17 [Object.v a0, .int .i64 a1, .string a2, Ref.v a3].toArray w H (fun _ v => v = .bool (m17 a0 a1 a2 a3)) := by
 refine Spec.enter Tryz.func17 rfl Tryz.ntmps17 rfl ?_
 have st := St.start hs
 refine CW.seq (CW.reg ?_)
 refine WL.box rfl rfl rfl rfl st ?_
 intro b1 W2 H3 st l4 f5
 refine WL.box rfl rfl rfl rfl st ?_
 intro b6 W7 H8 st l9 f10
 refine WL.box rfl rfl rfl rfl st ?_
 intro b11 W12 H13 st l14 f15
 refine WL.box rfl rfl rfl rfl st ?_
 intro b16 W17 H18 st l19 f20
 refine WL.as rfl (WL.nt (CW.seq (CW.reg (WL.pv (Pu.mkf rfl) (WL.as rfl (WL.nt (CW.seq (CW.reg (WL.pv (Pu.mkf rfl) ?_)))))))))
 refine WL.as rfl (WL.nt (CW.seq (CW.reg (WL.pv (Pu.fa rfl fo32_0) (WL.pv (Pu.fa rfl fo23_0) (WL.pv (Pu.load rfl ty3 ((((f5.le ((l9.trans l14).trans l19)).drop 0).drop 0).w st.sub) rfl) (WL.pv (Pu.ieq rfl rfl) (WL.mv rfl ?_))))))))
 refine WL.splitP 17 rfl dT dF (fun h21 => ?_) (fun h21 => ?_)
 ·refine WL.pv (Pu.fa rfl fo32_0) (WL.pv (Pu.fa rfl fo23_1) (WL.pv (Pu.load rfl ty9 ((((f5.le ((l9.trans l14).trans l19)).drop 0).drop 1).w st.sub) rfl) (WL.pv (Pu.fa rfl fo23_1) (WL.pv (Pu.load rfl ty9 ((f20.drop 1).w st.sub) rfl) (WL.pv (Pu.seq rfl rfl) (WL.pv (Pu.pickT rfl rfl) (WL.mv rfl ?_)))))))
  refine WL.splitP 25 rfl dT dF (fun h22 => ?_) (fun h22 => ?_)
  ·refine WL.pv (Pu.load (v := Object.v a0) rfl ty32 ((f5.le ((l9.trans l14).trans l19)).w st.sub) rfl) ?_
   refine WL.callv rfl rfl en80 rfl rfl st (c80 a0 st.sub (k0p.le (((l4.trans l9).trans l14).trans l19)) (by first | assumption | omega)) ?_
   intro W23 st
   refine WL.pv (Pu.pickT rfl rfl) (WL.mv rfl ?_)
   refine WL.splitP 29 rfl rT rF (fun h24 => ?_) (fun h24 => ?_)
   ·refine WL.pv (Pu.fa rfl fo32_9) (WL.pv (Pu.load rfl ty30 (((f5.le ((l9.trans l14).trans l19)).drop 11).w st.sub) rfl) (WL.mv rfl ?_))
    refine WL.callv rfl rfl en81 rfl rfl st (c81 a0.frm 78 [.pointer (some (⟨b6, 0, none⟩ : Addr)), .pointer (some (⟨b11, 0, none⟩ : Addr))] (fun x0 => m78 x0 a1 a2) st.sub (k0p.frm.le (((l4.trans l9).trans l14).trans l19)) en78 (fun x0 w' H' lq26 hs o0 => c78 x0 (⟨b6, 0, none⟩ : Addr) a1 (⟨b11, 0, none⟩ : Addr) a2 hs o0 (f10.le ((l14.trans l19).trans lq26)) k2p (f15.le (l19.trans lq26)))) ?_
    intro W25 st
    refine WL.pv (Pu.pickT rfl rfl) (WL.mv rfl ?_)
    refine WL.splitP 35 rfl rT rF (fun h27 => ?_) (fun h27 => ?_)
    ·refine WL.pv (Pu.fa rfl fo32_10) (WL.pv (Pu.load rfl ty30 (((f5.le ((l9.trans l14).trans l19)).drop 12).w st.sub) rfl) (WL.mv rfl ?_))
     refine WL.callv rfl rfl en81 rfl rfl st (c81 a0.to 79 [.pointer (some (⟨b16, 0, none⟩ : Addr))] (fun x0 => m79 x0 a3) st.sub (k0p.to.le (((l4.trans l9).trans l14).trans l19)) en79 (fun x0 w' H' lq29 hs o0 => c79 x0 (⟨b16, 0, none⟩ : Addr) a3 hs o0 (k3p.le ((((l4.trans l9).trans l14).trans l19).trans lq29)) (f20.le lq29))) ?_
     intro W28 st
     refine WL.pv (Pu.pickT rfl rfl) (WL.as rfl (WL.nt ?_))
     refine CW.ret (finA Tryz.results17 st (.tmp rfl .nil) ?_)
     exact vb ((if_pos h21).trans ((if_pos h22).trans ((if_pos h24).trans (if_pos h27))))
    ·refine WL.of (WL.of (WL.of (WL.of (WL.pv (Pu.pickF rfl rfl) (WL.as rfl (WL.nt ?_))))))
     refine CW.ret (finA Tryz.results17 st (.tmp rfl .nil) ?_)
     exact vb ((if_pos h21).trans ((if_pos h22).trans ((if_pos h24).trans (if_neg h27))))
   ·refine WL.of (WL.of (WL.of (WL.of (WL.pv (Pu.pickF rfl rfl) (WL.mv rfl (WL.of (WL.of (WL.of (WL.of ?_)))))))))
    refine WL.pv (Pu.pickF rfl rfl) (WL.as rfl (WL.nt ?_))
    refine CW.ret (finA Tryz.results17 st (.tmp rfl .nil) ?_)
    exact vb ((if_pos h21).trans ((if_pos h22).trans (if_neg h24)))
  ·refine WL.of (WL.of (WL.pv (Pu.pickF rfl rfl) (WL.mv rfl (WL.of (WL.of (WL.of (WL.of (WL.pv (Pu.pickF rfl rfl) (WL.mv rfl ?_)))))))))
   refine WL.of (WL.of (WL.of (WL.of (WL.pv (Pu.pickF rfl rfl) (WL.as rfl (WL.nt ?_))))))
   refine CW.ret (finA Tryz.results17 st (.tmp rfl .nil) ?_)
   exact vb ((if_pos h21).trans (if_neg h22))
 ·refine WL.of (WL.of (WL.of (WL.of (WL.of (WL.of (WL.pv (Pu.pickF rfl rfl) (WL.mv rfl (WL.of (WL.of ?_)))))))))
  refine WL.pv (Pu.pickF rfl rfl) (WL.mv rfl (WL.of (WL.of (WL.of (WL.of (WL.pv (Pu.pickF rfl rfl) (WL.mv rfl (WL.of (WL.of ?_)))))))))
  refine WL.of (WL.of (WL.pv (Pu.pickF rfl rfl) (WL.as rfl (WL.nt ?_))))
  refine CW.ret (finA Tryz.results17 st (.tmp rfl .nil) ?_)
  exact vb (if_neg h21)
end Go.Proofs.TB
