import Derived.Test.YtmfnlloabaoagaaGreatDoorTL
import Derived.Test.YtmfnlloabaoagaaGreatDoorTT
import Derived.Test.YtmfnlloabaoagaaGreatDoorGI
import Derived.Test.YtmfnlloabaoagaaGreatDoorTP
import Derived.Test.YtmfnlloabaoagaaGreatDoorPA
import Derived.Test.YtmfnlloabaoagaaGreatDoorProg
import Derived.KernelRfl
set_option linter.unusedVariables false
set_option maxRecDepth 100000
namespace Go.Proofs.TB
open Go.RowKit
theorem sl47 : slOf Tryz.prog 47 = some 3 := by kernel_rfl
theorem en5 : En Tryz.prog 5 := En.of Tryz.func5 (by kernel_rfl) rfl
theorem en23 : En Tryz.prog 23 := En.of Tryz.func23 (by kernel_rfl) rfl
theorem en24 : En Tryz.prog 24 := En.of Tryz.func24 (by kernel_rfl) rfl
theorem en26 : En Tryz.prog 26 := En.of Tryz.func26 (by kernel_rfl) rfl
theorem en27 : En Tryz.prog 27 := En.of Tryz.func27 (by kernel_rfl) rfl
theorem en28 : En Tryz.prog 28 := En.of Tryz.func28 (by kernel_rfl) rfl
theorem en29 : En Tryz.prog 29 := En.of Tryz.func29 (by kernel_rfl) rfl
theorem en30 : En Tryz.prog 30 := En.of Tryz.func30 (by kernel_rfl) rfl
theorem en31 : En Tryz.prog 31 := En.of Tryz.func31 (by kernel_rfl) rfl
theorem en91 : En Tryz.prog 91 := En.of Tryz.func91 (by kernel_rfl) rfl
theorem en92 : En Tryz.prog 92 := En.of Tryz.func92 (by kernel_rfl) rfl
theorem ap47 : apOf Tryz.prog 47 = some (23, .agg #[.int .i64 0, .string ⟨#[]⟩, .string ⟨#[]⟩], 3, 40) := by kernel_rfl
/-! slices.IndexFunc[[]toll api.Object,toll api.Object] -/
def m91_l0 (a0 : List Object) (p1 : Object → Bool) : Nat → Int → (Int ⊕ Unit)
 | 0, _ => .inr ()
 | n3 + 1, r2 => if (p1 (lg a0 r2)) = true then (.inl r2) else m91_l0 a0 p1 n3 (r2 + 1)
def m91 (a0 : List Object) (p1 : Object → Bool) : Int :=
 lk2 (m91_l0 a0 p1 (((a0.length : Int) - 0).toNat) 0) (fun _ => (-1))
theorem c91 (a0 : Sl Object) (fn1 : Nat) (q1 : List Value) (p1 : Object → Bool) {w : World} {H : PH} (hs : Sub H w) (k0p : Sl.Ok 1048576 H a0) (en1p : En Tryz.prog fn1) (s1p : ∀ (x0 : Object) (w' : World) (H' : PH), Le H H' → Sub H' w' → Object.Ok 1048576 H' x0 → Spec Tryz.prog fn1 (Object.v x0 :: q1).toArray w' H' (fun _ v => v = .bool (p1 x0))) : Spec Tryz.prog 91 [a0.v, .func (.func fn1) #[] q1.toArray].toArray w H (fun _ v => v = .int .i64 (m91 a0.l p1)) := by
 refine Spec.enter Tryz.func91 rfl Tryz.ntmps91 rfl ?_
 have st := St.start hs
 refine CW.seq (CW.reg (WL.as rfl (WL.nt (CW.seq (CW.seq (CW.reg (WL.mv rfl ?_)))))))
 have z1 : a0.l.length ≤ 1048576 := k0p.top
 refine WL.pv (Pu.lens (n := a0.l.length) rfl sl43) (WL.mv rfl (WL.nt ?_))
 refine (CW.cuts (fun (s : Unit) W => (∃ H', St w W H H' [] ∧ Le H H') ∧ m91_l0 a0.l p1 (((a0.l.length : Int) - 0).toNat) 0 = .inr ()) (fun (s : Unit) => []) ?_ ?_)
 ·refine CW.blk (CW.loop (fun (s : Nat × Int) W => (∃ H', St w W H H' [] ∧ Le H H') ∧ 0 ≤ s.2 ∧ s.2 ≤ (a0.l.length : Int) ∧ s.1 = ((a0.l.length : Int) - s.2).toNat ∧ m91_l0 a0.l p1 s.1 s.2 = m91_l0 a0.l p1 (((a0.l.length : Int) - 0).toNat) 0) (fun (s : Nat × Int) => [(0, a0.v), (1, Value.func (.func fn1) #[] q1.toArray), (7, Value.int .i64 (a0.l.length : Int)), (8, Value.int .i64 s.2)]) (fun s => s.1) ⟨((a0.l.length : Int) - 0).toNat, 0⟩ ⟨⟨_, st, Le.refl _⟩, (by first|omega|simp<;>omega), (by first|omega|simp<;>omega), rfl, rfl⟩ (.cons rfl (.cons rfl (.cons rfl (.cons rfl (.nil _))))) ?_)
  rintro ⟨N11, r2⟩ W6 ⟨⟨H4, st, l5⟩, g19, g20, g10, e7⟩
  replace g19 : 0 ≤ r2 := g19
  replace g20 : r2 ≤ (a0.l.length : Int) := g20
  replace g10 : N11 = ((a0.l.length : Int) - r2).toNat := g10
  replace e7 : m91_l0 a0.l p1 N11 r2 = m91_l0 a0.l p1 (((a0.l.length : Int) - 0).toNat) 0 := e7
  show CW _ _ _ _ [(0, a0.v), (1, Value.func (.func fn1) #[] q1.toArray), (7, Value.int .i64 (a0.l.length : Int)), (8, Value.int .i64 r2)] _
  refine CW.seq (CW.reg (WL.pv (Pu.ilt rfl rfl) (WL.nt (CW.seq ?_))))
  refine CW.condP 9 rfl dT dF (fun h12 => ?_) (fun h12 => ?_)
  ·obtain ⟨n3, rfl⟩ : ∃ k, N11 = k + 1 := ⟨N11 - 1, by omega⟩
   refine CW.skip (QX.thenN ?_)
   refine CW.seq ?_
   refine CW.blk ?_
   refine CW.seq (CW.reg (WL.mv rfl (WL.as rfl (WL.nt (CW.seq (CW.reg (WL.mv rfl (WL.mv rfl (WL.mv rfl ?_)))))))))
   have y13 := lg_get (l := a0.l) (i := r2) (by omega) (by omega)
   have k16 : Object.Ok 1048576 H4 (lg a0.l r2) := ((k0p.le l5).get _ _ y13).2
   refine WL.idx (s := a0) rfl rfl rfl rfl sl43 (k0p.le l5) (by omega) y13 ?_
   intro ad14 f15
   refine WL.pv (Pu.load (v := Object.v (lg a0.l r2)) rfl ty32 (f15.w st.sub) rfl) ?_
   refine WL.callv rfl rfl en1p rfl rfl st (s1p (lg a0.l r2) _ _ l5 st.sub k16) ?_
   intro W17 st
   refine WL.nt ?_
   refine CW.condP 16 rfl rT rF (fun h18 => ?_) (fun h18 => ?_)
   ·refine CW.seq (CW.reg (WL.mv rfl (WL.as rfl (WL.nt ?_))))
    refine CW.ret (QX.blkR (QX.thenR (QX.thenR (QX.blkR (QX.thenR (QX.thenR (finA Tryz.results91 st (.tmp rfl .nil) ?_)))))))
    exact congrArg (fun z => Value.int .i64 z) (Eq.symm (lk_inl ((Eq.symm e7).trans (if_pos h18))))
   ·refine CW.skip (QX.blkN (QX.thenN ?_))
    refine CW.reg (WL.pv (Pu.iadd rfl rfl (c := r2 + 1) (w64 (by omega) (by omega))) (WL.mv rfl ?_))
    refine WL.nil (QX.round ⟨n3, r2 + 1⟩ ?_ (Nat.lt_succ_self _) (.cons rfl (.cons rfl (.cons rfl (.cons rfl (.nil _))))))
    exact ⟨⟨_, st, l5⟩, (by first|omega|simp<;>omega), (by first|omega|simp<;>omega), (by first|omega|simp<;>omega), Eq.symm ((Eq.symm e7).trans (if_neg h18))⟩
  ·obtain rfl : N11 = 0 := by omega
   refine CW.exit (QX.thenE (QX.thenE (QX.hit (QX.meets () ?_ (.nil _)))))
   exact ⟨⟨_, st, l5⟩, Eq.symm e7⟩
 rintro _ W23 ⟨⟨H21, st, l22⟩, e24⟩
 show QX _ _ _ [] _
 refine QX.thenN (CW.seq (CW.reg (WL.as rfl (WL.nt ?_))))
 refine CW.ret (finA Tryz.results91 st (.tmp rfl .nil) ?_)
 exact congrArg (fun z => Value.int .i64 z) (Eq.symm (lk_inr e24))
theorem b91 (a : List Object) (p : Object → Bool) : m91 a p < (a.length : Int) := by
 unfold m91
 rcases findLoop (a := a) (p := p) (f := m91_l0 a p) (fun r => rfl) (fun n r => ⟨fun h => if_pos h, fun h => if_neg h⟩) with ⟨h, _⟩ | ⟨k, hk, h, _⟩
 ·rw [h]; omega
 ·rw [h]; omega
/-! toll grant.Find 1 -/
def m92 (a0 : Object) (a1 : Ref) : Bool :=
 decide (a0.ref = a1)
theorem c92 (a0 : Object) (b1p : Addr) (a1 : Ref) {w : World} {H : PH} (hs : Sub H w) (k0p : Object.Ok 1048576 H a0) (k1p : Ref.Ok 1048576 H a1) (f1p : At H b1p [.int .i64 a1.kind, .string a1.space, .string a1.name]) : Spec Tryz.prog 92 [Object.v a0, .pointer (some b1p)].toArray w H (fun _ v => v = .bool (m92 a0 a1)) := by
 refine Spec.enter Tryz.func92 rfl Tryz.ntmps92 rfl ?_
 have st := St.start hs
 refine CW.seq (CW.reg ?_)
 refine WL.box rfl rfl rfl rfl st ?_
 intro b1 W2 H3 st l4 f5
 refine WL.as rfl (WL.nt (CW.seq (CW.reg (WL.pv (Pu.fa rfl fo32_0) (WL.pv (Pu.load (v := Ref.v a0.ref) rfl ty23 ((f5.drop 0).w st.sub) rfl) (WL.pv (Pu.load (v := Ref.v a1) rfl ty23 ((f1p.le l4).w st.sub) rfl) (WL.pv (Pu.bin rfl rfl (eqg23 _ a0.ref a1) (eq23 a0.ref a1)) (WL.as rfl (WL.nt ?_)))))))))
 refine CW.ret (finA Tryz.results92 st (.tmp rfl .nil) ?_)
 exact congrArg (fun z => Value.bool z) (Eq.symm rfl)
/-! toll grant.Find -/
def m23 (a0 : List Object) (a1 : Ref) : Object × Bool :=
 if (m91 a0 (fun x0 => m92 x0 a1)) < 0 then (((⟨(⟨0, (⟨#[]⟩ : ByteArray), (⟨#[]⟩ : ByteArray)⟩ : Ref), false, (Sl.nil : Sl Pair), (Sl.nil : Sl Int), (⟨#[]⟩ : ByteArray), (Sl.nil : Sl Listener), (Sl.nil : Sl Parent), (Sl.nil : Sl ByteArray), (Sl.nil : Sl Rule), (Sl.nil : Sl Side), (Sl.nil : Sl Side)⟩ : Object), false)) else (lg a0 (m91 a0 (fun x0 => m92 x0 a1)), true)
theorem c23 (a0 : Sl Object) (a1 : Ref) {w : World} {H : PH} (hs : Sub H w) (k0p : Sl.Ok 1048576 H a0) (k1p : Ref.Ok 1048576 H a1) : Spec Tryz.prog 23 [a0.v, Ref.v a1].toArray w H (fun H' v => ∃ (x0 : Object) (x1 : Bool), v = .tuple #[Object.v x0, .bool x1] ∧ Object.Ok 1048576 H' x0 ∧ (x0, x1) = m23 a0.l a1) := by
 refine Spec.enter Tryz.func23 rfl Tryz.ntmps23 rfl ?_
 have st := St.start hs
 refine CW.seq (CW.reg ?_)
 refine WL.box rfl rfl rfl rfl st ?_
 intro b1 W2 H3 st l4 f5
 refine WL.alloco (c := #[.int .i64 0, .string (⟨#[]⟩ : ByteArray), .string (⟨#[]⟩ : ByteArray), .bool false, .slice none 0 0, .slice none 0 0, .string (⟨#[]⟩ : ByteArray), .slice none 0 0, .slice none 0 0, .slice none 0 0, .slice none 0 0, .slice none 0 0, .slice none 0 0]) rfl rfl ze32 rfl st ?_
 intro b6 W7 st
 refine WL.as rfl (WL.nt (CW.seq (CW.reg (WL.mv rfl (WL.pv (Pu.mkf rfl) ?_)))))
 refine WL.callv rfl rfl en91 rfl rfl st (c91 a0 92 [.pointer (some (⟨b1, 0, none⟩ : Addr))] (fun x0 => m92 x0 a1) st.sub (k0p.le l4) en92 (fun x0 w' H' lq9 hs o0 => c92 x0 (⟨b1, 0, none⟩ : Addr) a1 hs o0 (k1p.le (l4.trans lq9)) (f5.le lq9))) ?_
 intro W8 st
 refine WL.as rfl (WL.nt (CW.seq (CW.seq (CW.reg (WL.mv rfl (WL.pv (Pu.ilt rfl rfl) (WL.nt ?_)))))))
 refine CW.condP 11 rfl dT dF (fun h10 => ?_) (fun h10 => ?_)
 ·refine CW.seq (CW.reg (WL.pv (Pu.buildL (cs := Object.c (⟨(⟨0, (⟨#[]⟩ : ByteArray), (⟨#[]⟩ : ByteArray)⟩ : Ref), false, (Sl.nil : Sl Pair), (Sl.nil : Sl Int), (⟨#[]⟩ : ByteArray), (Sl.nil : Sl Listener), (Sl.nil : Sl Parent), (Sl.nil : Sl ByteArray), (Sl.nil : Sl Rule), (Sl.nil : Sl Side), (Sl.nil : Sl Side)⟩ : Object)) st32 rfl rfl rfl) ?_))
  refine WL.store (o := 0) (c' := [.int .i64 0, .string (⟨#[]⟩ : ByteArray), .string (⟨#[]⟩ : ByteArray), .bool false, .slice none 0 0, .slice none 0 0, .string (⟨#[]⟩ : ByteArray), .slice none 0 0, .slice none 0 0, .slice none 0 0, .slice none 0 0, .slice none 0 0, .slice none 0 0]) rfl rfl rfl rfl ty32 rfl (Enc.one (α := Object) _) rfl rfl st ?_
  intro W11 st
  refine WL.as rfl (WL.nt ?_)
  refine CW.ret (QX.thenR (fun a ha => finR Tryz.results23 st (.cell (v := Object.v (⟨(⟨0, (⟨#[]⟩ : ByteArray), (⟨#[]⟩ : ByteArray)⟩ : Ref), false, (Sl.nil : Sl Pair), (Sl.nil : Sl Int), (⟨#[]⟩ : ByteArray), (Sl.nil : Sl Listener), (Sl.nil : Sl Parent), (Sl.nil : Sl ByteArray), (Sl.nil : Sl Rule), (Sl.nil : Sl Side), (Sl.nil : Sl Side)⟩ : Object)) rfl ty32 (AtW.block (st.own _ (.head _)).1.2) rfl (.tmp rfl .nil)) ?_ ha))
  exact ⟨(⟨(⟨0, (⟨#[]⟩ : ByteArray), (⟨#[]⟩ : ByteArray)⟩ : Ref), false, (Sl.nil : Sl Pair), (Sl.nil : Sl Int), (⟨#[]⟩ : ByteArray), (Sl.nil : Sl Listener), (Sl.nil : Sl Parent), (Sl.nil : Sl ByteArray), (Sl.nil : Sl Rule), (Sl.nil : Sl Side), (Sl.nil : Sl Side)⟩ : Object), false, rfl, ⟨⟨(by first|omega|simp<;>omega), (by first|omega|simp<;>omega)⟩, Sl.Ok.nil, Sl.Ok.nil, (by first|omega|simp<;>omega), Sl.Ok.nil, Sl.Ok.nil, Sl.Ok.nil, Sl.Ok.nil, Sl.Ok.nil, Sl.Ok.nil⟩, Eq.symm (if_pos h10)⟩
 ·refine CW.skip (QX.thenN ?_)
  refine CW.seq (CW.reg (WL.mv rfl (WL.mv rfl ?_)))
  have b_ := b91 a0.l (fun x0 => m92 x0 a1)
  have y12 := lg_get (l := a0.l) (i := m91 a0.l (fun x0 => m92 x0 a1)) (by omega) (by omega)
  have k15 : Object.Ok 1048576 H3 (lg a0.l (m91 a0.l (fun x0 => m92 x0 a1))) := ((k0p.le l4).get _ _ y12).2
  refine WL.idx (s := a0) rfl rfl rfl rfl sl43 (k0p.le l4) (by omega) y12 ?_
  intro ad13 f14
  refine WL.pv (Pu.load (v := Object.v (lg a0.l (m91 a0.l (fun x0 => m92 x0 a1)))) rfl ty32 (f14.w st.sub) rfl) ?_
  refine WL.store (o := 0) (c' := [.int .i64 (((lg a0.l (m91 a0.l (fun x0 => m92 x0 a1))).ref).kind), .string (((lg a0.l (m91 a0.l (fun x0 => m92 x0 a1))).ref).space), .string (((lg a0.l (m91 a0.l (fun x0 => m92 x0 a1))).ref).name), .bool ((lg a0.l (m91 a0.l (fun x0 => m92 x0 a1))).good), ((lg a0.l (m91 a0.l (fun x0 => m92 x0 a1))).labels).v, ((lg a0.l (m91 a0.l (fun x0 => m92 x0 a1))).ports).v, .string ((lg a0.l (m91 a0.l (fun x0 => m92 x0 a1))).cls), ((lg a0.l (m91 a0.l (fun x0 => m92 x0 a1))).listeners).v, ((lg a0.l (m91 a0.l (fun x0 => m92 x0 a1))).parents).v, ((lg a0.l (m91 a0.l (fun x0 => m92 x0 a1))).hosts).v, ((lg a0.l (m91 a0.l (fun x0 => m92 x0 a1))).rules).v, ((lg a0.l (m91 a0.l (fun x0 => m92 x0 a1))).frm).v, ((lg a0.l (m91 a0.l (fun x0 => m92 x0 a1))).to).v]) rfl rfl rfl rfl ty32 rfl (Enc.one (α := Object) _) rfl rfl st ?_
  intro W16 st
  refine WL.as rfl (WL.nt ?_)
  refine CW.ret (fun a ha => finR Tryz.results23 st (.cell (v := Object.v (lg a0.l (m91 a0.l (fun x0 => m92 x0 a1)))) rfl ty32 (AtW.block (st.own _ (.head _)).1.2) rfl (.tmp rfl .nil)) ?_ ha)
  exact ⟨lg a0.l (m91 a0.l (fun x0 => m92 x0 a1)), true, rfl, k15, Eq.symm (if_neg h10)⟩
/-! toll tollref11.Find -/
def m24_l0 (a0 : List Object) (a1 : Ref) : Nat → Int → Int → ByteArray → ByteArray → Bool → (List Pair) → (List Int) → ByteArray → (List Listener) → (List Parent) → (List ByteArray) → (List Rule) → (List Side) → (List Side) → ((Object × Bool) ⊕ (Int × ByteArray × ByteArray × Bool × (List Pair) × (List Int) × ByteArray × (List Listener) × (List Parent) × (List ByteArray) × (List Rule) × (List Side) × (List Side)))
 | 0, _, r9, r10, r11, r12, r13, r15, r17, r18, r20, r22, r24, r26, r28 => .inr (r9, r10, r11, r12, r13, r15, r17, r18, r20, r22, r24, r26, r28)
 | n30 + 1, r8, r9, r10, r11, r12, r13, r15, r17, r18, r20, r22, r24, r26, r28 => if (lg a0 r8).ref = a1 then (.inl (lg a0 r8, true)) else m24_l0 a0 a1 n30 (r8 + 1) r9 r10 r11 r12 r13 r15 r17 r18 r20 r22 r24 r26 r28
def m24 (a0 : List Object) (a1 : Ref) : Object × Bool :=
 lk2 (m24_l0 a0 a1 (((a0.length : Int) - 0).toNat) 0 0 (⟨#[]⟩ : ByteArray) (⟨#[]⟩ : ByteArray) false ([] : List Pair) ([] : List Int) (⟨#[]⟩ : ByteArray) ([] : List Listener) ([] : List Parent) ([] : List ByteArray) ([] : List Rule) ([] : List Side) ([] : List Side)) (fun (r31, r32, r33, r34, r35, r37, r39, r40, r42, r44, r46, r48, r50) => ((⟨(⟨0, (⟨#[]⟩ : ByteArray), (⟨#[]⟩ : ByteArray)⟩ : Ref), false, (Sl.nil : Sl Pair), (Sl.nil : Sl Int), (⟨#[]⟩ : ByteArray), (Sl.nil : Sl Listener), (Sl.nil : Sl Parent), (Sl.nil : Sl ByteArray), (Sl.nil : Sl Rule), (Sl.nil : Sl Side), (Sl.nil : Sl Side)⟩ : Object), false))
theorem c24 (a0 : Sl Object) (a1 : Ref) {w : World} {H : PH} (hs : Sub H w) (k0p : Sl.Ok 1048576 H a0) (k1p : Ref.Ok 1048576 H a1) : Spec Tryz.prog 24 [a0.v, Ref.v a1].toArray w H (fun H' v => ∃ (x0 : Object) (x1 : Bool), v = .tuple #[Object.v x0, .bool x1] ∧ Object.Ok 1048576 H' x0 ∧ (x0, x1) = m24 a0.l a1) := by
 refine Spec.enter Tryz.func24 rfl Tryz.ntmps24 rfl ?_
 have st := St.start hs
 refine CW.seq (CW.reg ?_)
 refine WL.box rfl rfl rfl rfl st ?_
 intro b1 W2 H3 st l4 f5
 refine WL.alloco (c := #[.int .i64 0, .string (⟨#[]⟩ : ByteArray), .string (⟨#[]⟩ : ByteArray), .bool false, .slice none 0 0, .slice none 0 0, .string (⟨#[]⟩ : ByteArray), .slice none 0 0, .slice none 0 0, .slice none 0 0, .slice none 0 0, .slice none 0 0, .slice none 0 0]) rfl rfl ze32 rfl st ?_
 intro b6 W7 st
 refine WL.as rfl (WL.nt (CW.seq (CW.seq (CW.reg (WL.as rfl (WL.nt ?_))))))
 replace st := st.rownilS (α := Pair) 182
 replace st := st.rownilS (α := Int) 3
 replace st := st.rownilS (α := Listener) 94
 replace st := st.rownilS (α := Parent) 99
 replace st := st.rownilS (α := ByteArray) 9
 replace st := st.rownilS (α := Rule) 66
 replace st := st.rownilS (α := Side) 41
 replace st := st.rownilS (α := Side) 41
 refine (CW.cuts (fun (s : Int × ByteArray × ByteArray × Bool × (List Pair) × (List Int) × ByteArray × (List Listener) × (List Parent) × (List ByteArray) × (List Rule) × (List Side) × (List Side) × Value × Value × Value × Value × Value × Value × Value × Value) W => (∃ H', St w W H H' [rowS (α := Side) s.2.2.2.2.2.2.2.2.2.2.2.2.2.2.2.2.2.2.2.2 41 s.2.2.2.2.2.2.2.2.2.2.2.2.1, rowS (α := Side) s.2.2.2.2.2.2.2.2.2.2.2.2.2.2.2.2.2.2.2.1 41 s.2.2.2.2.2.2.2.2.2.2.2.1, rowS (α := Rule) s.2.2.2.2.2.2.2.2.2.2.2.2.2.2.2.2.2.2.1 66 s.2.2.2.2.2.2.2.2.2.2.1, rowS (α := ByteArray) s.2.2.2.2.2.2.2.2.2.2.2.2.2.2.2.2.2.1 9 s.2.2.2.2.2.2.2.2.2.1, rowS (α := Parent) s.2.2.2.2.2.2.2.2.2.2.2.2.2.2.2.2.1 99 s.2.2.2.2.2.2.2.2.1, rowS (α := Listener) s.2.2.2.2.2.2.2.2.2.2.2.2.2.2.2.1 94 s.2.2.2.2.2.2.2.1, rowS (α := Int) s.2.2.2.2.2.2.2.2.2.2.2.2.2.2.1 3 s.2.2.2.2.2.1, rowS (α := Pair) s.2.2.2.2.2.2.2.2.2.2.2.2.2.1 182 s.2.2.2.2.1, Own.box b6 (.cells #[.int .i64 s.1, .string s.2.1, .string s.2.2.1, .bool s.2.2.2.1, s.2.2.2.2.2.2.2.2.2.2.2.2.2.1, s.2.2.2.2.2.2.2.2.2.2.2.2.2.2.1, .string s.2.2.2.2.2.2.1, s.2.2.2.2.2.2.2.2.2.2.2.2.2.2.2.1, s.2.2.2.2.2.2.2.2.2.2.2.2.2.2.2.2.1, s.2.2.2.2.2.2.2.2.2.2.2.2.2.2.2.2.2.1, s.2.2.2.2.2.2.2.2.2.2.2.2.2.2.2.2.2.2.1, s.2.2.2.2.2.2.2.2.2.2.2.2.2.2.2.2.2.2.2.1, s.2.2.2.2.2.2.2.2.2.2.2.2.2.2.2.2.2.2.2.2] 32 (0, 0))] ∧ Le H3 H' ∧ s.2.1.size < 1048576 ∧ s.2.2.1.size < 1048576 ∧ OkL 1048576 H' s.2.2.2.2.1 ∧ (s.2.2.2.2.1.length : Int) ≤ ((a0.l.length : Int)) ∧ (s.2.2.2.2.2.1.length : Int) ≤ ((a0.l.length : Int)) ∧ s.2.2.2.2.2.2.1.size < 1048576 ∧ OkL 1048576 H' s.2.2.2.2.2.2.2.1 ∧ (s.2.2.2.2.2.2.2.1.length : Int) ≤ ((a0.l.length : Int)) ∧ OkL 1048576 H' s.2.2.2.2.2.2.2.2.1 ∧ (s.2.2.2.2.2.2.2.2.1.length : Int) ≤ ((a0.l.length : Int)) ∧ OkL 1048576 H' s.2.2.2.2.2.2.2.2.2.1 ∧ (s.2.2.2.2.2.2.2.2.2.1.length : Int) ≤ ((a0.l.length : Int)) ∧ OkL 1048576 H' s.2.2.2.2.2.2.2.2.2.2.1 ∧ (s.2.2.2.2.2.2.2.2.2.2.1.length : Int) ≤ ((a0.l.length : Int)) ∧ OkL 1048576 H' s.2.2.2.2.2.2.2.2.2.2.2.1 ∧ (s.2.2.2.2.2.2.2.2.2.2.2.1.length : Int) ≤ ((a0.l.length : Int)) ∧ OkL 1048576 H' s.2.2.2.2.2.2.2.2.2.2.2.2.1 ∧ (s.2.2.2.2.2.2.2.2.2.2.2.2.1.length : Int) ≤ ((a0.l.length : Int))) ∧ m24_l0 a0.l a1 (((a0.l.length : Int) - 0).toNat) 0 0 (⟨#[]⟩ : ByteArray) (⟨#[]⟩ : ByteArray) false ([] : List Pair) ([] : List Int) (⟨#[]⟩ : ByteArray) ([] : List Listener) ([] : List Parent) ([] : List ByteArray) ([] : List Rule) ([] : List Side) ([] : List Side) = .inr (s.1, s.2.1, s.2.2.1, s.2.2.2.1, s.2.2.2.2.1, s.2.2.2.2.2.1, s.2.2.2.2.2.2.1, s.2.2.2.2.2.2.2.1, s.2.2.2.2.2.2.2.2.1, s.2.2.2.2.2.2.2.2.2.1, s.2.2.2.2.2.2.2.2.2.2.1, s.2.2.2.2.2.2.2.2.2.2.2.1, s.2.2.2.2.2.2.2.2.2.2.2.2.1)) (fun (s : Int × ByteArray × ByteArray × Bool × (List Pair) × (List Int) × ByteArray × (List Listener) × (List Parent) × (List ByteArray) × (List Rule) × (List Side) × (List Side) × Value × Value × Value × Value × Value × Value × Value × Value) => [(4, Value.pointer (some (⟨b6, 0, none⟩ : Addr)))]) ?_ ?_)
 ·refine CW.blk (CW.loop (fun (s : Nat × Int × Int × ByteArray × ByteArray × Bool × (List Pair) × (List Int) × ByteArray × (List Listener) × (List Parent) × (List ByteArray) × (List Rule) × (List Side) × (List Side) × Value × Value × Value × Value × Value × Value × Value × Value) W => (∃ H', St w W H H' [rowS (α := Side) s.2.2.2.2.2.2.2.2.2.2.2.2.2.2.2.2.2.2.2.2.2.2 41 s.2.2.2.2.2.2.2.2.2.2.2.2.2.2.1, rowS (α := Side) s.2.2.2.2.2.2.2.2.2.2.2.2.2.2.2.2.2.2.2.2.2.1 41 s.2.2.2.2.2.2.2.2.2.2.2.2.2.1, rowS (α := Rule) s.2.2.2.2.2.2.2.2.2.2.2.2.2.2.2.2.2.2.2.2.1 66 s.2.2.2.2.2.2.2.2.2.2.2.2.1, rowS (α := ByteArray) s.2.2.2.2.2.2.2.2.2.2.2.2.2.2.2.2.2.2.2.1 9 s.2.2.2.2.2.2.2.2.2.2.2.1, rowS (α := Parent) s.2.2.2.2.2.2.2.2.2.2.2.2.2.2.2.2.2.2.1 99 s.2.2.2.2.2.2.2.2.2.2.1, rowS (α := Listener) s.2.2.2.2.2.2.2.2.2.2.2.2.2.2.2.2.2.1 94 s.2.2.2.2.2.2.2.2.2.1, rowS (α := Int) s.2.2.2.2.2.2.2.2.2.2.2.2.2.2.2.2.1 3 s.2.2.2.2.2.2.2.1, rowS (α := Pair) s.2.2.2.2.2.2.2.2.2.2.2.2.2.2.2.1 182 s.2.2.2.2.2.2.1, Own.box b6 (.cells #[.int .i64 s.2.2.1, .string s.2.2.2.1, .string s.2.2.2.2.1, .bool s.2.2.2.2.2.1, s.2.2.2.2.2.2.2.2.2.2.2.2.2.2.2.1, s.2.2.2.2.2.2.2.2.2.2.2.2.2.2.2.2.1, .string s.2.2.2.2.2.2.2.2.1, s.2.2.2.2.2.2.2.2.2.2.2.2.2.2.2.2.2.1, s.2.2.2.2.2.2.2.2.2.2.2.2.2.2.2.2.2.2.1, s.2.2.2.2.2.2.2.2.2.2.2.2.2.2.2.2.2.2.2.1, s.2.2.2.2.2.2.2.2.2.2.2.2.2.2.2.2.2.2.2.2.1, s.2.2.2.2.2.2.2.2.2.2.2.2.2.2.2.2.2.2.2.2.2.1, s.2.2.2.2.2.2.2.2.2.2.2.2.2.2.2.2.2.2.2.2.2.2] 32 (0, 0))] ∧ Le H3 H' ∧ s.2.2.2.1.size < 1048576 ∧ s.2.2.2.2.1.size < 1048576 ∧ OkL 1048576 H' s.2.2.2.2.2.2.1 ∧ (s.2.2.2.2.2.2.1.length : Int) ≤ s.2.1 ∧ (s.2.2.2.2.2.2.2.1.length : Int) ≤ s.2.1 ∧ s.2.2.2.2.2.2.2.2.1.size < 1048576 ∧ OkL 1048576 H' s.2.2.2.2.2.2.2.2.2.1 ∧ (s.2.2.2.2.2.2.2.2.2.1.length : Int) ≤ s.2.1 ∧ OkL 1048576 H' s.2.2.2.2.2.2.2.2.2.2.1 ∧ (s.2.2.2.2.2.2.2.2.2.2.1.length : Int) ≤ s.2.1 ∧ OkL 1048576 H' s.2.2.2.2.2.2.2.2.2.2.2.1 ∧ (s.2.2.2.2.2.2.2.2.2.2.2.1.length : Int) ≤ s.2.1 ∧ OkL 1048576 H' s.2.2.2.2.2.2.2.2.2.2.2.2.1 ∧ (s.2.2.2.2.2.2.2.2.2.2.2.2.1.length : Int) ≤ s.2.1 ∧ OkL 1048576 H' s.2.2.2.2.2.2.2.2.2.2.2.2.2.1 ∧ (s.2.2.2.2.2.2.2.2.2.2.2.2.2.1.length : Int) ≤ s.2.1 ∧ OkL 1048576 H' s.2.2.2.2.2.2.2.2.2.2.2.2.2.2.1 ∧ (s.2.2.2.2.2.2.2.2.2.2.2.2.2.2.1.length : Int) ≤ s.2.1) ∧ 0 ≤ s.2.1 ∧ s.2.1 ≤ (a0.l.length : Int) ∧ s.1 = ((a0.l.length : Int) - s.2.1).toNat ∧ m24_l0 a0.l a1 s.1 s.2.1 s.2.2.1 s.2.2.2.1 s.2.2.2.2.1 s.2.2.2.2.2.1 s.2.2.2.2.2.2.1 s.2.2.2.2.2.2.2.1 s.2.2.2.2.2.2.2.2.1 s.2.2.2.2.2.2.2.2.2.1 s.2.2.2.2.2.2.2.2.2.2.1 s.2.2.2.2.2.2.2.2.2.2.2.1 s.2.2.2.2.2.2.2.2.2.2.2.2.1 s.2.2.2.2.2.2.2.2.2.2.2.2.2.1 s.2.2.2.2.2.2.2.2.2.2.2.2.2.2.1 = m24_l0 a0.l a1 (((a0.l.length : Int) - 0).toNat) 0 0 (⟨#[]⟩ : ByteArray) (⟨#[]⟩ : ByteArray) false ([] : List Pair) ([] : List Int) (⟨#[]⟩ : ByteArray) ([] : List Listener) ([] : List Parent) ([] : List ByteArray) ([] : List Rule) ([] : List Side) ([] : List Side)) (fun (s : Nat × Int × Int × ByteArray × ByteArray × Bool × (List Pair) × (List Int) × ByteArray × (List Listener) × (List Parent) × (List ByteArray) × (List Rule) × (List Side) × (List Side) × Value × Value × Value × Value × Value × Value × Value × Value) => [(0, a0.v), (3, Value.pointer (some (⟨b1, 0, none⟩ : Addr))), (4, Value.pointer (some (⟨b6, 0, none⟩ : Addr))), (6, Value.int .i64 s.2.1)]) (fun s => s.1) ⟨((a0.l.length : Int) - 0).toNat, 0, 0, (⟨#[]⟩ : ByteArray), (⟨#[]⟩ : ByteArray), false, ([] : List Pair), ([] : List Int), (⟨#[]⟩ : ByteArray), ([] : List Listener), ([] : List Parent), ([] : List ByteArray), ([] : List Rule), ([] : List Side), ([] : List Side), (.slice none 0 0), (.slice none 0 0), (.slice none 0 0), (.slice none 0 0), (.slice none 0 0), (.slice none 0 0), (.slice none 0 0), (.slice none 0 0)⟩ ⟨⟨_, st, Le.refl _, (by first|omega|simp<;>omega), (by first|omega|simp<;>omega), OkL.nil, (by first|omega|simp<;>omega), (by first|omega|simp<;>omega), (by first|omega|simp<;>omega), OkL.nil, (by first|omega|simp<;>omega), OkL.nil, (by first|omega|simp<;>omega), OkL.nil, (by first|omega|simp<;>omega), OkL.nil, (by first|omega|simp<;>omega), OkL.nil, (by first|omega|simp<;>omega), OkL.nil, (by first|omega|simp<;>omega)⟩, (by first|omega|simp<;>omega), (by first|omega|simp<;>omega), rfl, rfl⟩ (.cons rfl (.cons rfl (.cons rfl (.cons rfl (.nil _))))) ?_)
  rintro ⟨N77, r8, r9, r10, r11, r12, r13, r15, r17, r18, r20, r22, r24, r26, r28, v14, v16, v19, v21, v23, v25, v27, v29⟩ W54 ⟨⟨H52, st, l53, k59, k60, k61, g62, g63, k64, k65, g66, k67, g68, k69, g70, k71, g72, k73, g74, k75, g76⟩, g94, g95, g58, e55⟩
  replace g94 : 0 ≤ r8 := g94
  replace g95 : r8 ≤ (a0.l.length : Int) := g95
  replace g58 : N77 = ((a0.l.length : Int) - r8).toNat := g58
  replace e55 : m24_l0 a0.l a1 N77 r8 r9 r10 r11 r12 r13 r15 r17 r18 r20 r22 r24 r26 r28 = m24_l0 a0.l a1 (((a0.l.length : Int) - 0).toNat) 0 0 (⟨#[]⟩ : ByteArray) (⟨#[]⟩ : ByteArray) false ([] : List Pair) ([] : List Int) (⟨#[]⟩ : ByteArray) ([] : List Listener) ([] : List Parent) ([] : List ByteArray) ([] : List Rule) ([] : List Side) ([] : List Side) := e55
  obtain ⟨v14A, v14m, v14c, rfl⟩ := row_form st (.tail _ (.tail _ (.tail _ (.tail _ (.tail _ (.tail _ (.tail _ (.head _))))))))
  obtain ⟨v16A, v16m, v16c, rfl⟩ := row_form st (.tail _ (.tail _ (.tail _ (.tail _ (.tail _ (.tail _ (.head _)))))))
  obtain ⟨v19A, v19m, v19c, rfl⟩ := row_form st (.tail _ (.tail _ (.tail _ (.tail _ (.tail _ (.head _))))))
  obtain ⟨v21A, v21m, v21c, rfl⟩ := row_form st (.tail _ (.tail _ (.tail _ (.tail _ (.head _)))))
  obtain ⟨v23A, v23m, v23c, rfl⟩ := row_form st (.tail _ (.tail _ (.tail _ (.head _))))
  obtain ⟨v25A, v25m, v25c, rfl⟩ := row_form st (.tail _ (.tail _ (.head _)))
  obtain ⟨v27A, v27m, v27c, rfl⟩ := row_form st (.tail _ (.head _))
  obtain ⟨v29A, v29m, v29c, rfl⟩ := row_form st (.head _)
  replace st : St w _ _ _ [rowS (α := Side) (.slice v29A v29m v29c) 41 r28, rowS (α := Side) (.slice v27A v27m v27c) 41 r26, rowS (α := Rule) (.slice v25A v25m v25c) 66 r24, rowS (α := ByteArray) (.slice v23A v23m v23c) 9 r22, rowS (α := Parent) (.slice v21A v21m v21c) 99 r20, rowS (α := Listener) (.slice v19A v19m v19c) 94 r18, rowS (α := Int) (.slice v16A v16m v16c) 3 r15, rowS (α := Pair) (.slice v14A v14m v14c) 182 r13, Own.box b6 (.cells #[.int .i64 r9, .string r10, .string r11, .bool r12, (.slice v14A v14m v14c), (.slice v16A v16m v16c), .string r17, (.slice v19A v19m v19c), (.slice v21A v21m v21c), (.slice v23A v23m v23c), (.slice v25A v25m v25c), (.slice v27A v27m v27c), (.slice v29A v29m v29c)] 32 (0, 0))] := st
  replace k61 : OkL 1048576 H52 r13 := k61
  replace g62 : (r13.length : Int) ≤ r8 := g62
  replace g63 : (r15.length : Int) ≤ r8 := g63
  replace k65 : OkL 1048576 H52 r18 := k65
  replace g66 : (r18.length : Int) ≤ r8 := g66
  replace k67 : OkL 1048576 H52 r20 := k67
  replace g68 : (r20.length : Int) ≤ r8 := g68
  replace k69 : OkL 1048576 H52 r22 := k69
  replace g70 : (r22.length : Int) ≤ r8 := g70
  replace k71 : OkL 1048576 H52 r24 := k71
  replace g72 : (r24.length : Int) ≤ r8 := g72
  replace k73 : OkL 1048576 H52 r26 := k73
  replace g74 : (r26.length : Int) ≤ r8 := g74
  replace k75 : OkL 1048576 H52 r28 := k75
  replace g76 : (r28.length : Int) ≤ r8 := g76
  show CW _ _ _ _ [(0, a0.v), (3, Value.pointer (some (⟨b1, 0, none⟩ : Addr))), (4, Value.pointer (some (⟨b6, 0, none⟩ : Addr))), (6, Value.int .i64 r8)] _
  refine CW.seq (CW.seq (CW.reg (WL.mv rfl (WL.mv rfl ?_))))
  have z78 : a0.l.length ≤ 1048576 := (k0p.le (l4.trans l53)).top
  refine WL.pv (Pu.lens (n := a0.l.length) rfl sl43) (WL.pv (Pu.ilt rfl rfl) (WL.nt ?_))
  refine CW.condP 10 rfl dT dF (fun h79 => ?_) (fun h79 => ?_)
  ·obtain ⟨n30, rfl⟩ : ∃ k, N77 = k + 1 := ⟨N77 - 1, by omega⟩
   refine CW.skip (QX.thenN ?_)
   refine CW.seq ?_
   refine CW.blk ?_
   refine CW.seq ?_
   refine CW.regS (C := Cl w H52 [rowS (α := Side) (.slice v29A v29m v29c) 41 r28, rowS (α := Side) (.slice v27A v27m v27c) 41 r26, rowS (α := Rule) (.slice v25A v25m v25c) 66 r24, rowS (α := ByteArray) (.slice v23A v23m v23c) 9 r22, rowS (α := Parent) (.slice v21A v21m v21c) 99 r20, rowS (α := Listener) (.slice v19A v19m v19c) 94 r18, rowS (α := Int) (.slice v16A v16m v16c) 3 r15, rowS (α := Pair) (.slice v14A v14m v14c) 182 r13, Own.box b6 (.cells #[.int .i64 r9, .string r10, .string r11, .bool r12, (.slice v14A v14m v14c), (.slice v16A v16m v16c), .string r17, (.slice v19A v19m v19c), (.slice v21A v21m v21c), (.slice v23A v23m v23c), (.slice v25A v25m v25c), (.slice v27A v27m v27c), (.slice v29A v29m v29c)] 32 (0, 0))]) (tail := []) (S := Grew w H H52 [rowS (α := Side) (.slice v29A v29m v29c) 41 r28, rowS (α := Side) (.slice v27A v27m v27c) 41 r26, rowS (α := Rule) (.slice v25A v25m v25c) 66 r24, rowS (α := ByteArray) (.slice v23A v23m v23c) 9 r22, rowS (α := Parent) (.slice v21A v21m v21c) 99 r20, rowS (α := Listener) (.slice v19A v19m v19c) 94 r18, rowS (α := Int) (.slice v16A v16m v16c) 3 r15, rowS (α := Pair) (.slice v14A v14m v14c) 182 r13, Own.box b6 (.cells #[.int .i64 r9, .string r10, .string r11, .bool r12, (.slice v14A v14m v14c), (.slice v16A v16m v16c), .string r17, (.slice v19A v19m v19c), (.slice v21A v21m v21c), (.slice v23A v23m v23c), (.slice v25A v25m v25c), (.slice v27A v27m v27c), (.slice v29A v29m v29c)] 32 (0, 0))]) mixed (fun W' h1 h2 h3 h4 => grew_start st h1 h2 h3 h4) (n := 7) rfl ?_
   refine WS.pk 0 rfl gg (fun W hC => Pu.move rfl) ?_
   refine WS.pk 1 rfl gg (fun W hC => Pu.move rfl) ?_
   have y80 := lg_get (l := a0.l) (i := r8) (by omega) (by omega)
   have k83 : Object.Ok 1048576 H52 (lg a0.l r8) := ((k0p.le (l4.trans l53)).get _ _ y80).2
   obtain ⟨ad81, qa84, f82⟩ := ((k0p.le (l4.trans l53)).get _ _ y80).1
   refine WS.pk 2 rfl gg (fun W hC => Pu.idx0 rfl rfl sl43 (by first|omega|simp<;>omega) (by first|omega|simp<;>omega) qa84) ?_
   refine WS.pk 3 rfl gg (fun W hC => Pu.fa rfl fo32_0) ?_
   refine WS.pk 4 rfl gg (fun W hC => Pu.load (v := Ref.v ((lg a0.l r8).ref)) rfl ty23 ((f82.drop 0).w hC.1) rfl) ?_
   refine WS.pk 5 rfl gg (fun W hC => Pu.load (v := Ref.v a1) rfl ty23 ((f5.le l53).w hC.1) rfl) ?_
   refine WS.pk 6 rfl gg (fun W hC => Pu.bin rfl rfl (eqg23 _ ((lg a0.l r8).ref) a1) (eq23 ((lg a0.l r8).ref) a1)) ?_
   refine WS.fin (by kernel_rfl) (fun W87 H85 st l86 => ?_)
   refine QX.thenN ?_
   refine CW.condP 19 rfl dT dF (fun h88 => ?_) (fun h88 => ?_)
   ·refine CW.seq (CW.reg (WL.mv rfl (WL.mv rfl ?_)))
    have y89 := lg_get (l := a0.l) (i := r8) (by omega) (by omega)
    have k92 : Object.Ok 1048576 H85 (lg a0.l r8) := ((k0p.le ((l4.trans l53).trans l86)).get _ _ y89).2
    refine WL.idx (s := a0) rfl rfl rfl rfl sl43 (k0p.le ((l4.trans l53).trans l86)) (by omega) y89 ?_
    intro ad90 f91
    refine WL.pv (Pu.load (v := Object.v (lg a0.l r8)) rfl ty32 (f91.w st.sub) rfl) ?_
    replace st := st.front9
    refine WL.store (o := 0) (c' := [.int .i64 (((lg a0.l r8).ref).kind), .string (((lg a0.l r8).ref).space), .string (((lg a0.l r8).ref).name), .bool ((lg a0.l r8).good), ((lg a0.l r8).labels).v, ((lg a0.l r8).ports).v, .string ((lg a0.l r8).cls), ((lg a0.l r8).listeners).v, ((lg a0.l r8).parents).v, ((lg a0.l r8).hosts).v, ((lg a0.l r8).rules).v, ((lg a0.l r8).frm).v, ((lg a0.l r8).to).v]) rfl rfl rfl rfl ty32 rfl (Enc.one (α := Object) _) rfl rfl st ?_
    intro W93 st
    refine WL.as rfl (WL.nt ?_)
    refine CW.ret (QX.blkR (QX.thenR (QX.thenR (QX.blkR (QX.thenR (QX.thenR (fun a ha => finR Tryz.results24 st (.cell (v := Object.v (lg a0.l r8)) rfl ty32 (AtW.block (st.own _ (.head _)).1.2) rfl (.tmp rfl .nil)) ?_ ha)))))))
    exact ⟨lg a0.l r8, true, rfl, k92, Eq.symm (lk_inl ((Eq.symm e55).trans (if_pos h88)))⟩
   ·refine CW.skip (QX.blkN (QX.thenN ?_))
    refine CW.reg (WL.mv rfl (WL.pv (Pu.iadd rfl rfl (c := r8 + 1) (w64 (by omega) (by omega))) (WL.as rfl ?_)))
    refine WL.nil (QX.round ⟨n30, r8 + 1, r9, r10, r11, r12, r13, r15, r17, r18, r20, r22, r24, r26, r28, (.slice v14A v14m v14c), (.slice v16A v16m v16c), (.slice v19A v19m v19c), (.slice v21A v21m v21c), (.slice v23A v23m v23c), (.slice v25A v25m v25c), (.slice v27A v27m v27c), (.slice v29A v29m v29c)⟩ ?_ (Nat.lt_succ_self _) (.cons rfl (.cons rfl (.cons rfl (.cons rfl (.nil _))))))
    exact ⟨⟨_, st, (l53.trans l86), k59, k60, (k61.le l86), (by first|omega|simp<;>omega), (by first|omega|simp<;>omega), k64, (k65.le l86), (by first|omega|simp<;>omega), (k67.le l86), (by first|omega|simp<;>omega), (k69.le l86), (by first|omega|simp<;>omega), (k71.le l86), (by first|omega|simp<;>omega), (k73.le l86), (by first|omega|simp<;>omega), (k75.le l86), (by first|omega|simp<;>omega)⟩, (by first|omega|simp<;>omega), (by first|omega|simp<;>omega), (by first|omega|simp<;>omega), Eq.symm ((Eq.symm e55).trans (if_neg h88))⟩
  ·obtain rfl : N77 = 0 := by omega
   refine CW.exit (QX.thenE (QX.thenE (QX.hit (QX.meets ⟨r9, r10, r11, r12, r13, r15, r17, r18, r20, r22, r24, r26, r28, (.slice v14A v14m v14c), (.slice v16A v16m v16c), (.slice v19A v19m v19c), (.slice v21A v21m v21c), (.slice v23A v23m v23c), (.slice v25A v25m v25c), (.slice v27A v27m v27c), (.slice v29A v29m v29c)⟩ ?_ (.cons rfl (.nil _))))))
   exact ⟨⟨_, st, l53, k59, k60, k61, (by first|omega|simp<;>omega), (by first|omega|simp<;>omega), k64, k65, (by first|omega|simp<;>omega), k67, (by first|omega|simp<;>omega), k69, (by first|omega|simp<;>omega), k71, (by first|omega|simp<;>omega), k73, (by first|omega|simp<;>omega), k75, (by first|omega|simp<;>omega)⟩, Eq.symm e55⟩
 rintro ⟨r31, r32, r33, r34, r35, r37, r39, r40, r42, r44, r46, r48, r50, v36, v38, v41, v43, v45, v47, v49, v51⟩ W98 ⟨⟨H96, st, l97, k100, k101, k102, g103, g104, k105, k106, g107, k108, g109, k110, g111, k112, g113, k114, g115, k116, g117⟩, e99⟩
 obtain ⟨v36A, v36m, v36c, rfl⟩ := row_form st (.tail _ (.tail _ (.tail _ (.tail _ (.tail _ (.tail _ (.tail _ (.head _))))))))
 obtain ⟨v38A, v38m, v38c, rfl⟩ := row_form st (.tail _ (.tail _ (.tail _ (.tail _ (.tail _ (.tail _ (.head _)))))))
 obtain ⟨v41A, v41m, v41c, rfl⟩ := row_form st (.tail _ (.tail _ (.tail _ (.tail _ (.tail _ (.head _))))))
 obtain ⟨v43A, v43m, v43c, rfl⟩ := row_form st (.tail _ (.tail _ (.tail _ (.tail _ (.head _)))))
 obtain ⟨v45A, v45m, v45c, rfl⟩ := row_form st (.tail _ (.tail _ (.tail _ (.head _))))
 obtain ⟨v47A, v47m, v47c, rfl⟩ := row_form st (.tail _ (.tail _ (.head _)))
 obtain ⟨v49A, v49m, v49c, rfl⟩ := row_form st (.tail _ (.head _))
 obtain ⟨v51A, v51m, v51c, rfl⟩ := row_form st (.head _)
 replace st : St w _ _ _ [rowS (α := Side) (.slice v51A v51m v51c) 41 r50, rowS (α := Side) (.slice v49A v49m v49c) 41 r48, rowS (α := Rule) (.slice v47A v47m v47c) 66 r46, rowS (α := ByteArray) (.slice v45A v45m v45c) 9 r44, rowS (α := Parent) (.slice v43A v43m v43c) 99 r42, rowS (α := Listener) (.slice v41A v41m v41c) 94 r40, rowS (α := Int) (.slice v38A v38m v38c) 3 r37, rowS (α := Pair) (.slice v36A v36m v36c) 182 r35, Own.box b6 (.cells #[.int .i64 r31, .string r32, .string r33, .bool r34, (.slice v36A v36m v36c), (.slice v38A v38m v38c), .string r39, (.slice v41A v41m v41c), (.slice v43A v43m v43c), (.slice v45A v45m v45c), (.slice v47A v47m v47c), (.slice v49A v49m v49c), (.slice v51A v51m v51c)] 32 (0, 0))] := st
 replace k100 : r32.size < 1048576 := k100
 replace k101 : r33.size < 1048576 := k101
 replace k102 : OkL 1048576 H96 r35 := k102
 replace g103 : (r35.length : Int) ≤ ((a0.l.length : Int)) := g103
 replace g104 : (r37.length : Int) ≤ ((a0.l.length : Int)) := g104
 replace k105 : r39.size < 1048576 := k105
 replace k106 : OkL 1048576 H96 r40 := k106
 replace g107 : (r40.length : Int) ≤ ((a0.l.length : Int)) := g107
 replace k108 : OkL 1048576 H96 r42 := k108
 replace g109 : (r42.length : Int) ≤ ((a0.l.length : Int)) := g109
 replace k110 : OkL 1048576 H96 r44 := k110
 replace g111 : (r44.length : Int) ≤ ((a0.l.length : Int)) := g111
 replace k112 : OkL 1048576 H96 r46 := k112
 replace g113 : (r46.length : Int) ≤ ((a0.l.length : Int)) := g113
 replace k114 : OkL 1048576 H96 r48 := k114
 replace g115 : (r48.length : Int) ≤ ((a0.l.length : Int)) := g115
 replace k116 : OkL 1048576 H96 r50 := k116
 replace g117 : (r50.length : Int) ≤ ((a0.l.length : Int)) := g117
 replace e99 : m24_l0 a0.l a1 (((a0.l.length : Int) - 0).toNat) 0 0 (⟨#[]⟩ : ByteArray) (⟨#[]⟩ : ByteArray) false ([] : List Pair) ([] : List Int) (⟨#[]⟩ : ByteArray) ([] : List Listener) ([] : List Parent) ([] : List ByteArray) ([] : List Rule) ([] : List Side) ([] : List Side) = .inr (r31, r32, r33, r34, r35, r37, r39, r40, r42, r44, r46, r48, r50) := e99
 show QX _ _ _ [(4, Value.pointer (some (⟨b6, 0, none⟩ : Addr)))] _
 refine QX.thenN (CW.seq (CW.reg (WL.pv (Pu.buildL (cs := Object.c (⟨(⟨0, (⟨#[]⟩ : ByteArray), (⟨#[]⟩ : ByteArray)⟩ : Ref), false, (Sl.nil : Sl Pair), (Sl.nil : Sl Int), (⟨#[]⟩ : ByteArray), (Sl.nil : Sl Listener), (Sl.nil : Sl Parent), (Sl.nil : Sl ByteArray), (Sl.nil : Sl Rule), (Sl.nil : Sl Side), (Sl.nil : Sl Side)⟩ : Object)) st32 rfl rfl rfl) ?_)))
 replace st := st.front9
 refine WL.store (o := 0) (c' := [.int .i64 0, .string (⟨#[]⟩ : ByteArray), .string (⟨#[]⟩ : ByteArray), .bool false, .slice none 0 0, .slice none 0 0, .string (⟨#[]⟩ : ByteArray), .slice none 0 0, .slice none 0 0, .slice none 0 0, .slice none 0 0, .slice none 0 0, .slice none 0 0]) rfl rfl rfl rfl ty32 rfl (Enc.one (α := Object) _) rfl rfl st ?_
 intro W118 st
 refine WL.as rfl (WL.nt ?_)
 refine CW.ret (fun a ha => finR Tryz.results24 st (.cell (v := Object.v (⟨(⟨0, (⟨#[]⟩ : ByteArray), (⟨#[]⟩ : ByteArray)⟩ : Ref), false, (Sl.nil : Sl Pair), (Sl.nil : Sl Int), (⟨#[]⟩ : ByteArray), (Sl.nil : Sl Listener), (Sl.nil : Sl Parent), (Sl.nil : Sl ByteArray), (Sl.nil : Sl Rule), (Sl.nil : Sl Side), (Sl.nil : Sl Side)⟩ : Object)) rfl ty32 (AtW.block (st.own _ (.head _)).1.2) rfl (.tmp rfl .nil)) ?_ ha)
 exact ⟨(⟨(⟨0, (⟨#[]⟩ : ByteArray), (⟨#[]⟩ : ByteArray)⟩ : Ref), false, (Sl.nil : Sl Pair), (Sl.nil : Sl Int), (⟨#[]⟩ : ByteArray), (Sl.nil : Sl Listener), (Sl.nil : Sl Parent), (Sl.nil : Sl ByteArray), (Sl.nil : Sl Rule), (Sl.nil : Sl Side), (Sl.nil : Sl Side)⟩ : Object), false, rfl, ⟨⟨(by first|omega|simp<;>omega), (by first|omega|simp<;>omega)⟩, Sl.Ok.nil, Sl.Ok.nil, (by first|omega|simp<;>omega), Sl.Ok.nil, Sl.Ok.nil, Sl.Ok.nil, Sl.Ok.nil, Sl.Ok.nil, Sl.Ok.nil⟩, Eq.symm (lk_inr e99)⟩
/-! toll grant.Near -/
def m26 (a0 : Ref) (a1 : ByteArray) : Ref :=
 if a0.space = (⟨#[]⟩ : ByteArray) then (if a0.kind = 1 then a0 else if a0.kind = 2 then a0 else (⟨a0.kind, a1, a0.name⟩ : Ref)) else a0
theorem c26 (a0 : Ref) (a1 : ByteArray) {w : World} {H : PH} (hs : Sub H w) (k0p : Ref.Ok 1048576 H a0) (k1p : a1.size < 1048576) : Spec Tryz.prog 26 [Ref.v a0, .string a1].toArray w H (fun H' v => ∃ (x0 : Ref), v = Ref.v x0 ∧ Ref.Ok 1048576 H' x0 ∧ x0 = m26 a0 a1) := by
 refine Spec.enter Tryz.func26 rfl Tryz.ntmps26 rfl ?_
 have st := St.start hs
 refine CW.seq (CW.reg ?_)
 refine WL.boxo (c := #[.int .i64 a0.kind, .string a0.space, .string a0.name]) rfl rfl rfl rfl st ?_
 intro b1 W2 st
 refine WL.alloco (c := #[.int .i64 0, .string (⟨#[]⟩ : ByteArray), .string (⟨#[]⟩ : ByteArray)]) rfl rfl ze23 rfl st ?_
 intro b3 W4 st
 refine WL.nt (CW.seq (CW.seq (CW.reg (WL.pv (Pu.fa rfl fo23_1) (WL.pv (Pu.load rfl ty9 ((AtW.block (st.own _ (.tail _ (.head _))).1.2).drop 1) rfl) (WL.pv (Pu.seq rfl rfl) (WL.mv rfl ?_)))))))
 refine WL.splitP 8 rfl dT dF (fun h5 => ?_) (fun h5 => ?_)
 ·refine WL.pv (Pu.fa rfl fo23_0) (WL.pv (Pu.load rfl ty3 (AtW.block (st.own _ (.tail _ (.head _))).1.2) rfl) (WL.pv (Pu.ine rfl rfl) (WL.pv (Pu.pickT rfl rfl) (WL.mv rfl ?_))))
  refine WL.splitP 13 rfl nT nF (fun h7 => ?_) (fun h7 => ?_)
  ·refine WL.pv (Pu.fa rfl fo23_0) (WL.pv (Pu.load rfl ty3 (AtW.block (st.own _ (.tail _ (.head _))).1.2) rfl) (WL.pv (Pu.ine rfl rfl) (WL.pv (Pu.pickT rfl rfl) (WL.nt ?_))))
   refine CW.condP 17 rfl nT nF (fun h8 => ?_) (fun h8 => ?_)
   ·refine CW.reg (WL.mv rfl (WL.pv (Pu.fa rfl fo23_1) ?_))
    replace st := st.front2
    refine WL.store (o := 1) (c' := [.int .i64 a0.kind, .string a1, .string a0.name]) rfl rfl rfl rfl ty9 rfl (one1 rfl rfl) rfl rfl st ?_
    intro W9 st
    refine WL.nt (CW.seq (CW.reg (WL.pv (Pu.load (v := Ref.v (⟨a0.kind, a1, a0.name⟩ : Ref)) rfl ty23 (AtW.block (st.own _ (.head _)).1.2) rfl) ?_)))
    replace st := st.front2
    refine WL.store (o := 0) (c' := [.int .i64 a0.kind, .string a1, .string a0.name]) rfl rfl rfl rfl ty23 rfl (Enc.one (α := Ref) _) rfl rfl st ?_
    intro W10 st
    refine WL.nt ?_
    refine CW.ret (fun a ha => finR Tryz.results26 st (.cell (v := Ref.v (⟨a0.kind, a1, a0.name⟩ : Ref)) rfl ty23 (AtW.block (st.own _ (.head _)).1.2) rfl .nil) ?_ ha)
    exact ⟨(⟨a0.kind, a1, a0.name⟩ : Ref), rfl, ⟨k1p, k0p.name⟩, Eq.symm ((if_pos h5).trans ((if_neg h7).trans (if_neg h8)))⟩
   ·refine CW.skip (QX.thenN ?_)
    refine CW.seq (CW.reg (WL.pv (Pu.load (v := Ref.v a0) rfl ty23 (AtW.block (st.own _ (.tail _ (.head _))).1.2) rfl) ?_))
    refine WL.store (o := 0) (c' := [.int .i64 a0.kind, .string a0.space, .string a0.name]) rfl rfl rfl rfl ty23 rfl (Enc.one (α := Ref) _) rfl rfl st ?_
    intro W11 st
    refine WL.nt ?_
    refine CW.ret (fun a ha => finR Tryz.results26 st (.cell (v := Ref.v a0) rfl ty23 (AtW.block (st.own _ (.head _)).1.2) rfl .nil) ?_ ha)
    exact ⟨a0, rfl, k0p, Eq.symm ((if_pos h5).trans ((if_neg h7).trans (if_pos h8)))⟩
  ·refine WL.of (WL.of (WL.of (WL.pv (Pu.pickF rfl rfl) (WL.nt ?_))))
   refine CW.condF rfl ?_
   refine CW.skip (QX.thenN ?_)
   refine CW.seq (CW.reg (WL.pv (Pu.load (v := Ref.v a0) rfl ty23 (AtW.block (st.own _ (.tail _ (.head _))).1.2) rfl) ?_))
   refine WL.store (o := 0) (c' := [.int .i64 a0.kind, .string a0.space, .string a0.name]) rfl rfl rfl rfl ty23 rfl (Enc.one (α := Ref) _) rfl rfl st ?_
   intro W12 st
   refine WL.nt ?_
   refine CW.ret (fun a ha => finR Tryz.results26 st (.cell (v := Ref.v a0) rfl ty23 (AtW.block (st.own _ (.head _)).1.2) rfl .nil) ?_ ha)
   exact ⟨a0, rfl, k0p, Eq.symm ((if_pos h5).trans (if_pos h7))⟩
 ·have z6 := size_ne h5
  refine WL.of (WL.of (WL.of (WL.pv (Pu.pickF rfl rfl) (WL.mv rfl (WL.of (WL.of (WL.of (WL.pv (Pu.pickF rfl rfl) (WL.nt ?_)))))))))
  refine CW.condF rfl ?_
  refine CW.skip (QX.thenN ?_)
  refine CW.seq (CW.reg (WL.pv (Pu.load (v := Ref.v a0) rfl ty23 (AtW.block (st.own _ (.tail _ (.head _))).1.2) rfl) ?_))
  refine WL.store (o := 0) (c' := [.int .i64 a0.kind, .string a0.space, .string a0.name]) rfl rfl rfl rfl ty23 rfl (Enc.one (α := Ref) _) rfl rfl st ?_
  intro W13 st
  refine WL.nt ?_
  refine CW.ret (fun a ha => finR Tryz.results26 st (.cell (v := Ref.v a0) rfl ty23 (AtW.block (st.own _ (.head _)).1.2) rfl .nil) ?_ ha)
  exact ⟨a0, rfl, k0p, Eq.symm (if_neg h5)⟩
/-! toll tollref11.Near -/
def m27 (a0 : Ref) (a1 : ByteArray) : Ref :=
 if a0.kind = 1 then a0 else if a0.kind = 2 then a0 else if a0.space = (⟨#[]⟩ : ByteArray) then ((⟨a0.kind, a1, a0.name⟩ : Ref)) else a0
theorem c27 (a0 : Ref) (a1 : ByteArray) {w : World} {H : PH} (hs : Sub H w) (k0p : Ref.Ok 1048576 H a0) (k1p : a1.size < 1048576) : Spec Tryz.prog 27 [Ref.v a0, .string a1].toArray w H (fun H' v => ∃ (x0 : Ref), v = Ref.v x0 ∧ Ref.Ok 1048576 H' x0 ∧ x0 = m27 a0 a1) := by
 refine Spec.enter Tryz.func27 rfl Tryz.ntmps27 rfl ?_
 have st := St.start hs
 refine CW.seq (CW.reg ?_)
 refine WL.boxo (c := #[.int .i64 a0.kind, .string a0.space, .string a0.name]) rfl rfl rfl rfl st ?_
 intro b1 W2 st
 refine WL.alloco (c := #[.int .i64 0, .string (⟨#[]⟩ : ByteArray), .string (⟨#[]⟩ : ByteArray)]) rfl rfl ze23 rfl st ?_
 intro b3 W4 st
 refine WL.nt (CW.seq (CW.seq (CW.reg (WL.pv (Pu.fa rfl fo23_0) (WL.pv (Pu.load rfl ty3 (AtW.block (st.own _ (.tail _ (.head _))).1.2) rfl) (WL.pv (Pu.ine rfl rfl) (WL.mv rfl ?_)))))))
 refine WL.splitP 8 rfl nT nF (fun h5 => ?_) (fun h5 => ?_)
 ·refine WL.pv (Pu.fa rfl fo23_0) (WL.pv (Pu.load rfl ty3 (AtW.block (st.own _ (.tail _ (.head _))).1.2) rfl) (WL.pv (Pu.ine rfl rfl) (WL.pv (Pu.pickT rfl rfl) (WL.mv rfl ?_))))
  refine WL.splitP 13 rfl nT nF (fun h6 => ?_) (fun h6 => ?_)
  ·refine WL.pv (Pu.fa rfl fo23_1) (WL.pv (Pu.load rfl ty9 ((AtW.block (st.own _ (.tail _ (.head _))).1.2).drop 1) rfl) (WL.pv (Pu.seq rfl rfl) (WL.pv (Pu.pickT rfl rfl) (WL.nt ?_))))
   refine CW.condP 17 rfl dT dF (fun h7 => ?_) (fun h7 => ?_)
   ·refine CW.reg (WL.mv rfl (WL.pv (Pu.fa rfl fo23_1) ?_))
    replace st := st.front2
    refine WL.store (o := 1) (c' := [.int .i64 a0.kind, .string a1, .string a0.name]) rfl rfl rfl rfl ty9 rfl (one1 rfl rfl) rfl rfl st ?_
    intro W9 st
    refine WL.nt (CW.seq (CW.reg (WL.pv (Pu.load (v := Ref.v (⟨a0.kind, a1, a0.name⟩ : Ref)) rfl ty23 (AtW.block (st.own _ (.head _)).1.2) rfl) ?_)))
    replace st := st.front2
    refine WL.store (o := 0) (c' := [.int .i64 a0.kind, .string a1, .string a0.name]) rfl rfl rfl rfl ty23 rfl (Enc.one (α := Ref) _) rfl rfl st ?_
    intro W10 st
    refine WL.nt ?_
    refine CW.ret (fun a ha => finR Tryz.results27 st (.cell (v := Ref.v (⟨a0.kind, a1, a0.name⟩ : Ref)) rfl ty23 (AtW.block (st.own _ (.head _)).1.2) rfl .nil) ?_ ha)
    exact ⟨(⟨a0.kind, a1, a0.name⟩ : Ref), rfl, ⟨k1p, k0p.name⟩, Eq.symm ((if_neg h5).trans ((if_neg h6).trans (if_pos h7)))⟩
   ·have z8 := size_ne h7
    refine CW.skip (QX.thenN ?_)
    refine CW.seq (CW.reg (WL.pv (Pu.load (v := Ref.v a0) rfl ty23 (AtW.block (st.own _ (.tail _ (.head _))).1.2) rfl) ?_))
    refine WL.store (o := 0) (c' := [.int .i64 a0.kind, .string a0.space, .string a0.name]) rfl rfl rfl rfl ty23 rfl (Enc.one (α := Ref) _) rfl rfl st ?_
    intro W11 st
    refine WL.nt ?_
    refine CW.ret (fun a ha => finR Tryz.results27 st (.cell (v := Ref.v a0) rfl ty23 (AtW.block (st.own _ (.head _)).1.2) rfl .nil) ?_ ha)
    exact ⟨a0, rfl, k0p, Eq.symm ((if_neg h5).trans ((if_neg h6).trans (if_neg h7)))⟩
  ·refine WL.of (WL.of (WL.of (WL.pv (Pu.pickF rfl rfl) (WL.nt ?_))))
   refine CW.condF rfl ?_
   refine CW.skip (QX.thenN ?_)
   refine CW.seq (CW.reg (WL.pv (Pu.load (v := Ref.v a0) rfl ty23 (AtW.block (st.own _ (.tail _ (.head _))).1.2) rfl) ?_))
   refine WL.store (o := 0) (c' := [.int .i64 a0.kind, .string a0.space, .string a0.name]) rfl rfl rfl rfl ty23 rfl (Enc.one (α := Ref) _) rfl rfl st ?_
   intro W12 st
   refine WL.nt ?_
   refine CW.ret (fun a ha => finR Tryz.results27 st (.cell (v := Ref.v a0) rfl ty23 (AtW.block (st.own _ (.head _)).1.2) rfl .nil) ?_ ha)
   exact ⟨a0, rfl, k0p, Eq.symm ((if_neg h5).trans (if_pos h6))⟩
 ·refine WL.of (WL.of (WL.of (WL.pv (Pu.pickF rfl rfl) (WL.mv rfl (WL.of (WL.of (WL.of (WL.pv (Pu.pickF rfl rfl) (WL.nt ?_)))))))))
  refine CW.condF rfl ?_
  refine CW.skip (QX.thenN ?_)
  refine CW.seq (CW.reg (WL.pv (Pu.load (v := Ref.v a0) rfl ty23 (AtW.block (st.own _ (.tail _ (.head _))).1.2) rfl) ?_))
  refine WL.store (o := 0) (c' := [.int .i64 a0.kind, .string a0.space, .string a0.name]) rfl rfl rfl rfl ty23 rfl (Enc.one (α := Ref) _) rfl rfl st ?_
  intro W13 st
  refine WL.nt ?_
  refine CW.ret (fun a ha => finR Tryz.results27 st (.cell (v := Ref.v a0) rfl ty23 (AtW.block (st.own _ (.head _)).1.2) rfl .nil) ?_ ha)
  exact ⟨a0, rfl, k0p, Eq.symm (if_pos h5)⟩
/-! toll tollref11.Lets -/
def m28_l1 (a0 : Object) (a1 : Int) (a2 : ByteArray) (a3 : Ref) (r15 : Int) : Nat → Int → (Bool ⊕ Unit)
 | 0, _ => .inr ()
 | n28 + 1, r27 => if ((lg a0.frm.l r15).kind) = a1 then (if (lg a0.frm.l r15).space = a2 then (if ((lg a0.to.l r27).kind) = a3.kind then (if (lg a0.to.l r27).name = (⟨#[]⟩ : ByteArray) then (.inl true) else if (lg a0.to.l r27).name = a3.name then (.inl true) else m28_l1 a0 a1 a2 a3 r15 n28 (r27 + 1)) else m28_l1 a0 a1 a2 a3 r15 n28 (r27 + 1)) else m28_l1 a0 a1 a2 a3 r15 n28 (r27 + 1)) else m28_l1 a0 a1 a2 a3 r15 n28 (r27 + 1)
def m28_l0 (a0 : Object) (a1 : Int) (a2 : ByteArray) (a3 : Ref) : Nat → Int → (Bool ⊕ Unit)
 | 0, _ => .inr ()
 | n16 + 1, r15 => lkR (m28_l1 a0 a1 a2 a3 r15 (((a0.to.l.length : Int) - 0).toNat) 0) (fun _ => m28_l0 a0 a1 a2 a3 n16 (r15 + 1))
def m28 (a0 : Object) (a1 : Int) (a2 : ByteArray) (a3 : Ref) : Bool :=
 if a0.ref.kind = 7 then (if a0.ref.space = a3.space then (if (m18 a0) = true then (lk2 (m28_l0 a0 a1 a2 a3 (((a0.frm.l.length : Int) - 0).toNat) 0) (fun _ => false)) else false) else false) else false
theorem c28 (a0 : Object) (a1 : Int) (a2 : ByteArray) (a3 : Ref) {w : World} {H : PH} (hs : Sub H w) (k0p : Object.Ok 1048576 H a0) (k2p : a2.size < 1048576) (k3p : Ref.Ok 1048576 H a3) : Spec Tryz.prog 28 [Object.v a0, .int .i64 a1, .string a2, Ref.v a3].toArray w H (fun _ v => v = .bool (m28 a0 a1 a2 a3)) := by
 refine Spec.enter Tryz.func28 rfl Tryz.ntmps28 rfl ?_
 have st := St.start hs
 refine CW.seq (CW.reg ?_)
 refine WL.box rfl rfl rfl rfl st ?_
 intro b1 W2 H3 st l4 f5
 refine WL.box rfl rfl rfl rfl st ?_
 intro b6 W7 H8 st l9 f10
 refine WL.as rfl (WL.nt (CW.seq (CW.seq (CW.reg (WL.pv (Pu.fa rfl fo32_0) (WL.pv (Pu.fa rfl fo23_0) (WL.pv (Pu.load rfl ty3 ((((f5.le l9).drop 0).drop 0).w st.sub) rfl) (WL.pv (Pu.ine rfl rfl) (WL.mv rfl ?_)))))))))
 refine WL.splitP 15 rfl nT nF (fun h11 => ?_) (fun h11 => ?_)
 ·refine WL.of (WL.of (WL.of (WL.of (WL.of (WL.of (WL.pv (Pu.pickT rfl rfl) (WL.mv rfl (WL.of (WL.of ?_)))))))))
  refine WL.of (WL.pv (Pu.pickT rfl rfl) (WL.nt ?_))
  refine CW.condT rfl ?_
  refine CW.seq (CW.reg (WL.as rfl (WL.nt ?_)))
  refine CW.ret (QX.thenR (finA Tryz.results28 st (.tmp rfl .nil) ?_))
  exact vb (if_neg h11)
 ·refine WL.pv (Pu.fa rfl fo32_0) (WL.pv (Pu.fa rfl fo23_1) (WL.pv (Pu.load rfl ty9 ((((f5.le l9).drop 0).drop 1).w st.sub) rfl) (WL.pv (Pu.fa rfl fo23_1) (WL.pv (Pu.load rfl ty9 ((f10.drop 1).w st.sub) rfl) (WL.pv (Pu.sne rfl rfl) (WL.pv (Pu.pickF rfl rfl) (WL.mv rfl ?_)))))))
  refine WL.splitP 23 rfl nT nF (fun h12 => ?_) (fun h12 => ?_)
  ·refine WL.of (WL.of (WL.of (WL.pv (Pu.pickT rfl rfl) (WL.nt ?_))))
   refine CW.condT rfl ?_
   refine CW.seq (CW.reg (WL.as rfl (WL.nt ?_)))
   refine CW.ret (QX.thenR (finA Tryz.results28 st (.tmp rfl .nil) ?_))
   exact vb ((if_pos h11).trans (if_neg h12))
  ·refine WL.pv (Pu.load (v := Object.v a0) rfl ty32 ((f5.le l9).w st.sub) rfl) ?_
   refine WL.callv rfl rfl en18 rfl rfl st (c18 a0 st.sub (k0p.le (l4.trans l9))) ?_
   intro W13 st
   refine WL.pv (Pu.notb rfl) (WL.pv (Pu.pickF rfl rfl) (WL.nt ?_))
   refine CW.condP 27 rfl mT mF (fun h14 => ?_) (fun h14 => ?_)
   ·refine CW.seq (CW.reg (WL.as rfl (WL.nt ?_)))
    refine CW.ret (QX.thenR (finA Tryz.results28 st (.tmp rfl .nil) ?_))
    exact vb ((if_pos h11).trans ((if_pos h12).trans (if_neg h14)))
   ·refine CW.skip (QX.thenN ?_)
    refine CW.seq (CW.seq (CW.reg (WL.as rfl (WL.nt ?_))))
    refine (CW.cuts (fun (s : Unit) W => (∃ H', St w W H H' [] ∧ Le H8 H') ∧ m28_l0 a0 a1 a2 a3 (((a0.frm.l.length : Int) - 0).toNat) 0 = .inr ()) (fun (s : Unit) => []) ?_ ?_)
    ·refine CW.blk (CW.loop (fun (s : Nat × Int) W => (∃ H', St w W H H' [] ∧ Le H8 H') ∧ 0 ≤ s.2 ∧ s.2 ≤ (a0.frm.l.length : Int) ∧ s.1 = ((a0.frm.l.length : Int) - s.2).toNat ∧ m28_l0 a0 a1 a2 a3 s.1 s.2 = m28_l0 a0 a1 a2 a3 (((a0.frm.l.length : Int) - 0).toNat) 0) (fun (s : Nat × Int) => [(1, Value.int .i64 a1), (2, Value.string a2), (4, Value.pointer (some (⟨b1, 0, none⟩ : Addr))), (7, Value.pointer (some (⟨b6, 0, none⟩ : Addr))), (9, Value.int .i64 s.2)]) (fun s => s.1) ⟨((a0.frm.l.length : Int) - 0).toNat, 0⟩ ⟨⟨_, st, Le.refl _⟩, (by first|omega|simp<;>omega), (by first|omega|simp<;>omega), rfl, rfl⟩ (.cons rfl (.cons rfl (.cons rfl (.cons rfl (.cons rfl (.nil _)))))) ?_)
     rintro ⟨N24, r15⟩ W19 ⟨⟨H17, st, l18⟩, g91, g92, g23, e20⟩
     replace g91 : 0 ≤ r15 := g91
     replace g92 : r15 ≤ (a0.frm.l.length : Int) := g92
     replace g23 : N24 = ((a0.frm.l.length : Int) - r15).toNat := g23
     replace e20 : m28_l0 a0 a1 a2 a3 N24 r15 = m28_l0 a0 a1 a2 a3 (((a0.frm.l.length : Int) - 0).toNat) 0 := e20
     show CW _ _ _ _ [(1, Value.int .i64 a1), (2, Value.string a2), (4, Value.pointer (some (⟨b1, 0, none⟩ : Addr))), (7, Value.pointer (some (⟨b6, 0, none⟩ : Addr))), (9, Value.int .i64 r15)] _
     refine CW.seq (CW.seq (CW.reg (WL.mv rfl (WL.pv (Pu.fa rfl fo32_9) (WL.pv (Pu.load rfl ty30 (((f5.le (l9.trans l18)).drop 11).w st.sub) rfl) ?_)))))
     have z25 : a0.frm.l.length ≤ 1048576 := (k0p.frm.le ((l4.trans l9).trans l18)).top
     refine WL.pv (Pu.lens (n := a0.frm.l.length) rfl sl30) (WL.pv (Pu.ilt rfl rfl) (WL.nt ?_))
     refine CW.condP 32 rfl dT dF (fun h26 => ?_) (fun h26 => ?_)
     ·obtain ⟨n16, rfl⟩ : ∃ k, N24 = k + 1 := ⟨N24 - 1, by omega⟩
      refine CW.skip (QX.thenN ?_)
      refine CW.seq ?_
      refine CW.blk ?_
      refine CW.seq (CW.reg (WL.as rfl (WL.nt ?_)))
      refine (CW.cuts (fun (s : Unit) W => (∃ H', St w W H H' [] ∧ Le H17 H') ∧ m28_l1 a0 a1 a2 a3 r15 (((a0.to.l.length : Int) - 0).toNat) 0 = .inr ()) (fun (s : Unit) => [(1, Value.int .i64 a1), (2, Value.string a2), (4, Value.pointer (some (⟨b1, 0, none⟩ : Addr))), (7, Value.pointer (some (⟨b6, 0, none⟩ : Addr))), (9, Value.int .i64 r15)]) ?_ ?_)
      ·refine CW.blk (CW.loop (fun (s : Nat × Int) W => (∃ H', St w W H H' [] ∧ Le H17 H') ∧ 0 ≤ s.2 ∧ s.2 ≤ (a0.to.l.length : Int) ∧ s.1 = ((a0.to.l.length : Int) - s.2).toNat ∧ m28_l1 a0 a1 a2 a3 r15 s.1 s.2 = m28_l1 a0 a1 a2 a3 r15 (((a0.to.l.length : Int) - 0).toNat) 0) (fun (s : Nat × Int) => [(1, Value.int .i64 a1), (2, Value.string a2), (4, Value.pointer (some (⟨b1, 0, none⟩ : Addr))), (7, Value.pointer (some (⟨b6, 0, none⟩ : Addr))), (9, Value.int .i64 r15), (10, Value.int .i64 s.2)]) (fun s => s.1) ⟨((a0.to.l.length : Int) - 0).toNat, 0⟩ ⟨⟨_, st, Le.refl _⟩, (by first|omega|simp<;>omega), (by first|omega|simp<;>omega), rfl, rfl⟩ (.cons rfl (.cons rfl (.cons rfl (.cons rfl (.cons rfl (.cons rfl (.nil _))))))) ?_)
       rintro ⟨N36, r27⟩ W31 ⟨⟨H29, st, l30⟩, g85, g86, g35, e32⟩
       replace g85 : 0 ≤ r27 := g85
       replace g86 : r27 ≤ (a0.to.l.length : Int) := g86
       replace g35 : N36 = ((a0.to.l.length : Int) - r27).toNat := g35
       replace e32 : m28_l1 a0 a1 a2 a3 r15 N36 r27 = m28_l1 a0 a1 a2 a3 r15 (((a0.to.l.length : Int) - 0).toNat) 0 := e32
       show CW _ _ _ _ [(1, Value.int .i64 a1), (2, Value.string a2), (4, Value.pointer (some (⟨b1, 0, none⟩ : Addr))), (7, Value.pointer (some (⟨b6, 0, none⟩ : Addr))), (9, Value.int .i64 r15), (10, Value.int .i64 r27)] _
       refine CW.seq (CW.seq (CW.reg (WL.mv rfl (WL.pv (Pu.fa rfl fo32_10) (WL.pv (Pu.load rfl ty30 (((f5.le ((l9.trans l18).trans l30)).drop 12).w st.sub) rfl) ?_)))))
       have z37 : a0.to.l.length ≤ 1048576 := (k0p.to.le (((l4.trans l9).trans l18).trans l30)).top
       refine WL.pv (Pu.lens (n := a0.to.l.length) rfl sl30) (WL.pv (Pu.ilt rfl rfl) (WL.nt ?_))
       refine CW.condP 39 rfl dT dF (fun h38 => ?_) (fun h38 => ?_)
       ·obtain ⟨n28, rfl⟩ : ∃ k, N36 = k + 1 := ⟨N36 - 1, by omega⟩
        refine CW.skip (QX.thenN ?_)
        refine CW.seq ?_
        refine CW.blk ?_
        refine CW.seq ?_
        refine CW.regS (C := Cl w H29 []) (tail := []) (S := Grew w H H29 []) mixed (fun W' h1 h2 h3 h4 => grew_start st h1 h2 h3 h4) (n := 49) rfl ?_
        refine WS.pk 0 rfl gg (fun W hC => Pu.fa rfl fo32_9) ?_
        refine WS.pk 1 rfl gg (fun W hC => Pu.load rfl ty30 (((f5.le ((l9.trans l18).trans l30)).drop 11).w hC.1) rfl) ?_
        refine WS.pk 2 rfl gg (fun W hC => Pu.move rfl) ?_
        have y39 := lg_get (l := a0.frm.l) (i := r15) (by omega) (by omega)
        have k42 : Side.Ok 1048576 H29 (lg a0.frm.l r15) := ((k0p.frm.le (((l4.trans l9).trans l18).trans l30)).get _ _ y39).2
        obtain ⟨ad40, qa43, f41⟩ := ((k0p.frm.le (((l4.trans l9).trans l18).trans l30)).get _ _ y39).1
        refine WS.pk 3 rfl gg (fun W hC => Pu.idx0 rfl rfl sl30 (by first|omega|simp<;>omega) (by first|omega|simp<;>omega) qa43) ?_
        refine WS.pk 4 rfl gg (fun W hC => Pu.fa rfl fo41_0) ?_
        refine WS.pk 5 rfl gg (fun W hC => Pu.load rfl ty3 ((f41.drop 0).w hC.1) rfl) ?_
        refine WS.pk 6 rfl gg (fun W hC => Pu.move rfl) ?_
        refine WS.pk 7 rfl gg (fun W hC => Pu.ieq rfl rfl) ?_
        refine WS.pk 8 rfl gg (fun W hC => Pu.move rfl) ?_
        refine WS.split 50 rfl dT dF (fun h44 => ?_) (fun h44 => ?_)
        ·refine WS.pk 9 rfl gg (fun W hC => Pu.fa rfl fo32_9) ?_
         refine WS.pk 10 rfl gg (fun W hC => Pu.load rfl ty30 (((f5.le ((l9.trans l18).trans l30)).drop 11).w hC.1) rfl) ?_
         refine WS.pk 11 rfl gg (fun W hC => Pu.move rfl) ?_
         have y45 := lg_get (l := a0.frm.l) (i := r15) (by omega) (by omega)
         have k48 : Side.Ok 1048576 H29 (lg a0.frm.l r15) := ((k0p.frm.le (((l4.trans l9).trans l18).trans l30)).get _ _ y45).2
         obtain ⟨ad46, qa49, f47⟩ := ((k0p.frm.le (((l4.trans l9).trans l18).trans l30)).get _ _ y45).1
         refine WS.pk 12 rfl gg (fun W hC => Pu.idx0 rfl rfl sl30 (by first|omega|simp<;>omega) (by first|omega|simp<;>omega) qa49) ?_
         refine WS.pk 13 rfl gg (fun W hC => Pu.fa rfl fo41_1) ?_
         refine WS.pk 14 rfl gg (fun W hC => Pu.load rfl ty9 ((f47.drop 1).w hC.1) rfl) ?_
         refine WS.pk 15 rfl gg (fun W hC => Pu.move rfl) ?_
         refine WS.pk 16 rfl gg (fun W hC => Pu.seq rfl rfl) ?_
         refine WS.pk 17 rfl gg (fun W hC => Pu.pickT rfl rfl) ?_
         refine WS.pk 18 rfl gg (fun W hC => Pu.move rfl) ?_
         refine WS.split 60 rfl dT dF (fun h50 => ?_) (fun h50 => ?_)
         ·refine WS.pk 19 rfl gg (fun W hC => Pu.fa rfl fo32_10) ?_
          refine WS.pk 20 rfl gg (fun W hC => Pu.load rfl ty30 (((f5.le ((l9.trans l18).trans l30)).drop 12).w hC.1) rfl) ?_
          refine WS.pk 21 rfl gg (fun W hC => Pu.move rfl) ?_
          have y51 := lg_get (l := a0.to.l) (i := r27) (by omega) (by omega)
          have k54 : Side.Ok 1048576 H29 (lg a0.to.l r27) := ((k0p.to.le (((l4.trans l9).trans l18).trans l30)).get _ _ y51).2
          obtain ⟨ad52, qa55, f53⟩ := ((k0p.to.le (((l4.trans l9).trans l18).trans l30)).get _ _ y51).1
          refine WS.pk 22 rfl gg (fun W hC => Pu.idx0 rfl rfl sl30 (by first|omega|simp<;>omega) (by first|omega|simp<;>omega) qa55) ?_
          refine WS.pk 23 rfl gg (fun W hC => Pu.fa rfl fo41_0) ?_
          refine WS.pk 24 rfl gg (fun W hC => Pu.load rfl ty3 ((f53.drop 0).w hC.1) rfl) ?_
          refine WS.pk 25 rfl gg (fun W hC => Pu.fa rfl fo23_0) ?_
          refine WS.pk 26 rfl gg (fun W hC => Pu.load rfl ty3 (((f10.le (l18.trans l30)).drop 0).w hC.1) rfl) ?_
          refine WS.pk 27 rfl gg (fun W hC => Pu.ieq rfl rfl) ?_
          refine WS.pk 28 rfl gg (fun W hC => Pu.pickT rfl rfl) ?_
          refine WS.pk 29 rfl gg (fun W hC => Pu.move rfl) ?_
          refine WS.split 71 rfl dT dF (fun h56 => ?_) (fun h56 => ?_)
          ·refine WS.pk 30 rfl gg (fun W hC => Pu.fa rfl fo32_10) ?_
           refine WS.pk 31 rfl gg (fun W hC => Pu.load rfl ty30 (((f5.le ((l9.trans l18).trans l30)).drop 12).w hC.1) rfl) ?_
           refine WS.pk 32 rfl gg (fun W hC => Pu.move rfl) ?_
           have y57 := lg_get (l := a0.to.l) (i := r27) (by omega) (by omega)
           have k60 : Side.Ok 1048576 H29 (lg a0.to.l r27) := ((k0p.to.le (((l4.trans l9).trans l18).trans l30)).get _ _ y57).2
           obtain ⟨ad58, qa61, f59⟩ := ((k0p.to.le (((l4.trans l9).trans l18).trans l30)).get _ _ y57).1
           refine WS.pk 33 rfl gg (fun W hC => Pu.idx0 rfl rfl sl30 (by first|omega|simp<;>omega) (by first|omega|simp<;>omega) qa61) ?_
           refine WS.pk 34 rfl gg (fun W hC => Pu.fa rfl fo41_2) ?_
           refine WS.pk 35 rfl gg (fun W hC => Pu.load rfl ty9 ((f59.drop 2).w hC.1) rfl) ?_
           refine WS.pk 36 rfl gg (fun W hC => Pu.seq rfl rfl) ?_
           refine WS.pk 37 rfl gg (fun W hC => Pu.move rfl) ?_
           refine WS.split 79 rfl dT dF (fun h62 => ?_) (fun h62 => ?_)
           ·refine WS.ok 38 rfl gg ?_
            refine WS.ok 39 rfl gg ?_
            refine WS.ok 40 rfl gg ?_
            refine WS.ok 41 rfl gg ?_
            refine WS.ok 42 rfl gg ?_
            refine WS.ok 43 rfl gg ?_
            refine WS.ok 44 rfl gg ?_
            refine WS.ok 45 rfl gg ?_
            refine WS.ok 46 rfl gg ?_
            refine WS.pk 47 rfl gg (fun W hC => Pu.pickT rfl rfl) ?_
            refine WS.pk 48 rfl gg (fun W hC => Pu.pickT rfl rfl) ?_
            refine WS.fin (by kernel_rfl) (fun W66 H64 st l65 => ?_)
            refine QX.thenN ?_
            refine CW.condT rfl ?_
            refine CW.seq (CW.reg (WL.as rfl (WL.nt ?_)))
            refine CW.ret (QX.blkR (QX.thenR (QX.thenR (QX.blkR (QX.thenR (QX.blkR (QX.thenR (QX.thenR (QX.blkR (QX.thenR (QX.thenR (finA Tryz.results28 st (.tmp rfl .nil) ?_))))))))))))
            exact vb ((if_pos h11).trans ((if_pos h12).trans ((if_pos h14).trans (lk_inl ((Eq.symm e20).trans (lkR_inl ((Eq.symm e32).trans ((if_pos h44).trans ((if_pos h50).trans ((if_pos h56).trans (if_pos h62)))))))))))
           ·have z63 := size_ne h62
            refine WS.pk 38 rfl gg (fun W hC => Pu.fa rfl fo32_10) ?_
            refine WS.pk 39 rfl gg (fun W hC => Pu.load rfl ty30 (((f5.le ((l9.trans l18).trans l30)).drop 12).w hC.1) rfl) ?_
            refine WS.pk 40 rfl gg (fun W hC => Pu.move rfl) ?_
            have y67 := lg_get (l := a0.to.l) (i := r27) (by omega) (by omega)
            have k70 : Side.Ok 1048576 H29 (lg a0.to.l r27) := ((k0p.to.le (((l4.trans l9).trans l18).trans l30)).get _ _ y67).2
            obtain ⟨ad68, qa71, f69⟩ := ((k0p.to.le (((l4.trans l9).trans l18).trans l30)).get _ _ y67).1
            refine WS.pk 41 rfl gg (fun W hC => Pu.idx0 rfl rfl sl30 (by first|omega|simp<;>omega) (by first|omega|simp<;>omega) qa71) ?_
            refine WS.pk 42 rfl gg (fun W hC => Pu.fa rfl fo41_2) ?_
            refine WS.pk 43 rfl gg (fun W hC => Pu.load rfl ty9 ((f69.drop 2).w hC.1) rfl) ?_
            refine WS.pk 44 rfl gg (fun W hC => Pu.fa rfl fo23_2) ?_
            refine WS.pk 45 rfl gg (fun W hC => Pu.load rfl ty9 (((f10.le (l18.trans l30)).drop 2).w hC.1) rfl) ?_
            refine WS.pk 46 rfl gg (fun W hC => Pu.seq rfl rfl) ?_
            refine WS.pk 47 rfl gg (fun W hC => Pu.pickF rfl rfl) ?_
            refine WS.pk 48 rfl gg (fun W hC => Pu.pickT rfl rfl) ?_
            refine WS.fin (by kernel_rfl) (fun W74 H72 st l73 => ?_)
            refine QX.thenN ?_
            refine CW.condP 90 rfl dT dF (fun h75 => ?_) (fun h75 => ?_)
            ·refine CW.seq (CW.reg (WL.as rfl (WL.nt ?_)))
             refine CW.ret (QX.blkR (QX.thenR (QX.thenR (QX.blkR (QX.thenR (QX.blkR (QX.thenR (QX.thenR (QX.blkR (QX.thenR (QX.thenR (finA Tryz.results28 st (.tmp rfl .nil) ?_))))))))))))
             exact vb ((if_pos h11).trans ((if_pos h12).trans ((if_pos h14).trans (lk_inl ((Eq.symm e20).trans (lkR_inl ((Eq.symm e32).trans ((if_pos h44).trans ((if_pos h50).trans ((if_pos h56).trans ((if_neg h62).trans (if_pos h75))))))))))))
            ·refine CW.skip (QX.blkN (QX.thenN ?_))
             refine CW.reg (WL.mv rfl (WL.pv (Pu.iadd rfl rfl (c := r27 + 1) (w64 (by omega) (by omega))) (WL.as rfl ?_)))
             refine WL.nil (QX.round ⟨n28, r27 + 1⟩ ?_ (Nat.lt_succ_self _) (.cons rfl (.cons rfl (.cons rfl (.cons rfl (.cons rfl (.cons rfl (.nil _))))))))
             exact ⟨⟨_, st, (l30.trans l73)⟩, (by first|omega|simp<;>omega), (by first|omega|simp<;>omega), (by first|omega|simp<;>omega), Eq.symm ((Eq.symm e32).trans ((if_pos h44).trans ((if_pos h50).trans ((if_pos h56).trans ((if_neg h62).trans (if_neg h75))))))⟩
          ·refine WS.ok 30 rfl gg ?_
           refine WS.ok 31 rfl gg ?_
           refine WS.ok 32 rfl gg ?_
           refine WS.ok 33 rfl gg ?_
           refine WS.ok 34 rfl gg ?_
           refine WS.ok 35 rfl gg ?_
           refine WS.ok 36 rfl gg ?_
           refine WS.ok 37 rfl gg ?_
           refine WS.ok 38 rfl gg ?_
           refine WS.ok 39 rfl gg ?_
           refine WS.ok 40 rfl gg ?_
           refine WS.ok 41 rfl gg ?_
           refine WS.ok 42 rfl gg ?_
           refine WS.ok 43 rfl gg ?_
           refine WS.ok 44 rfl gg ?_
           refine WS.ok 45 rfl gg ?_
           refine WS.ok 46 rfl gg ?_
           refine WS.ok 47 rfl gg ?_
           refine WS.pk 48 rfl gg (fun W hC => Pu.pickF rfl rfl) ?_
           refine WS.fin (by kernel_rfl) (fun W78 H76 st l77 => ?_)
           refine QX.thenN ?_
           refine CW.condF rfl ?_
           refine CW.skip (QX.blkN (QX.thenN ?_))
           refine CW.reg (WL.mv rfl (WL.pv (Pu.iadd rfl rfl (c := r27 + 1) (w64 (by omega) (by omega))) (WL.as rfl ?_)))
           refine WL.nil (QX.round ⟨n28, r27 + 1⟩ ?_ (Nat.lt_succ_self _) (.cons rfl (.cons rfl (.cons rfl (.cons rfl (.cons rfl (.cons rfl (.nil _))))))))
           exact ⟨⟨_, st, (l30.trans l77)⟩, (by first|omega|simp<;>omega), (by first|omega|simp<;>omega), (by first|omega|simp<;>omega), Eq.symm ((Eq.symm e32).trans ((if_pos h44).trans ((if_pos h50).trans (if_neg h56))))⟩
         ·refine WS.ok 19 rfl gg ?_
          refine WS.ok 20 rfl gg ?_
          refine WS.ok 21 rfl gg ?_
          refine WS.ok 22 rfl gg ?_
          refine WS.ok 23 rfl gg ?_
          refine WS.ok 24 rfl gg ?_
          refine WS.ok 25 rfl gg ?_
          refine WS.ok 26 rfl gg ?_
          refine WS.ok 27 rfl gg ?_
          refine WS.pk 28 rfl gg (fun W hC => Pu.pickF rfl rfl) ?_
          refine WS.pk 29 rfl gg (fun W hC => Pu.move rfl) ?_
          refine WS.ok 30 rfl gg ?_
          refine WS.ok 31 rfl gg ?_
          refine WS.ok 32 rfl gg ?_
          refine WS.ok 33 rfl gg ?_
          refine WS.ok 34 rfl gg ?_
          refine WS.ok 35 rfl gg ?_
          refine WS.ok 36 rfl gg ?_
          refine WS.ok 37 rfl gg ?_
          refine WS.ok 38 rfl gg ?_
          refine WS.ok 39 rfl gg ?_
          refine WS.ok 40 rfl gg ?_
          refine WS.ok 41 rfl gg ?_
          refine WS.ok 42 rfl gg ?_
          refine WS.ok 43 rfl gg ?_
          refine WS.ok 44 rfl gg ?_
          refine WS.ok 45 rfl gg ?_
          refine WS.ok 46 rfl gg ?_
          refine WS.ok 47 rfl gg ?_
          refine WS.pk 48 rfl gg (fun W hC => Pu.pickF rfl rfl) ?_
          refine WS.fin (by kernel_rfl) (fun W81 H79 st l80 => ?_)
          refine QX.thenN ?_
          refine CW.condF rfl ?_
          refine CW.skip (QX.blkN (QX.thenN ?_))
          refine CW.reg (WL.mv rfl (WL.pv (Pu.iadd rfl rfl (c := r27 + 1) (w64 (by omega) (by omega))) (WL.as rfl ?_)))
          refine WL.nil (QX.round ⟨n28, r27 + 1⟩ ?_ (Nat.lt_succ_self _) (.cons rfl (.cons rfl (.cons rfl (.cons rfl (.cons rfl (.cons rfl (.nil _))))))))
          exact ⟨⟨_, st, (l30.trans l80)⟩, (by first|omega|simp<;>omega), (by first|omega|simp<;>omega), (by first|omega|simp<;>omega), Eq.symm ((Eq.symm e32).trans ((if_pos h44).trans (if_neg h50)))⟩
        ·refine WS.ok 9 rfl gg ?_
         refine WS.ok 10 rfl gg ?_
         refine WS.ok 11 rfl gg ?_
         refine WS.ok 12 rfl gg ?_
         refine WS.ok 13 rfl gg ?_
         refine WS.ok 14 rfl gg ?_
         refine WS.ok 15 rfl gg ?_
         refine WS.ok 16 rfl gg ?_
         refine WS.pk 17 rfl gg (fun W hC => Pu.pickF rfl rfl) ?_
         refine WS.pk 18 rfl gg (fun W hC => Pu.move rfl) ?_
         refine WS.ok 19 rfl gg ?_
         refine WS.ok 20 rfl gg ?_
         refine WS.ok 21 rfl gg ?_
         refine WS.ok 22 rfl gg ?_
         refine WS.ok 23 rfl gg ?_
         refine WS.ok 24 rfl gg ?_
         refine WS.ok 25 rfl gg ?_
         refine WS.ok 26 rfl gg ?_
         refine WS.ok 27 rfl gg ?_
         refine WS.pk 28 rfl gg (fun W hC => Pu.pickF rfl rfl) ?_
         refine WS.pk 29 rfl gg (fun W hC => Pu.move rfl) ?_
         refine WS.ok 30 rfl gg ?_
         refine WS.ok 31 rfl gg ?_
         refine WS.ok 32 rfl gg ?_
         refine WS.ok 33 rfl gg ?_
         refine WS.ok 34 rfl gg ?_
         refine WS.ok 35 rfl gg ?_
         refine WS.ok 36 rfl gg ?_
         refine WS.ok 37 rfl gg ?_
         refine WS.ok 38 rfl gg ?_
         refine WS.ok 39 rfl gg ?_
         refine WS.ok 40 rfl gg ?_
         refine WS.ok 41 rfl gg ?_
         refine WS.ok 42 rfl gg ?_
         refine WS.ok 43 rfl gg ?_
         refine WS.ok 44 rfl gg ?_
         refine WS.ok 45 rfl gg ?_
         refine WS.ok 46 rfl gg ?_
         refine WS.ok 47 rfl gg ?_
         refine WS.pk 48 rfl gg (fun W hC => Pu.pickF rfl rfl) ?_
         refine WS.fin (by kernel_rfl) (fun W84 H82 st l83 => ?_)
         refine QX.thenN ?_
         refine CW.condF rfl ?_
         refine CW.skip (QX.blkN (QX.thenN ?_))
         refine CW.reg (WL.mv rfl (WL.pv (Pu.iadd rfl rfl (c := r27 + 1) (w64 (by omega) (by omega))) (WL.as rfl ?_)))
         refine WL.nil (QX.round ⟨n28, r27 + 1⟩ ?_ (Nat.lt_succ_self _) (.cons rfl (.cons rfl (.cons rfl (.cons rfl (.cons rfl (.cons rfl (.nil _))))))))
         exact ⟨⟨_, st, (l30.trans l83)⟩, (by first|omega|simp<;>omega), (by first|omega|simp<;>omega), (by first|omega|simp<;>omega), Eq.symm ((Eq.symm e32).trans (if_neg h44))⟩
       ·obtain rfl : N36 = 0 := by omega
        refine CW.exit (QX.thenE (QX.thenE (QX.hit (QX.meets () ?_ (.cons rfl (.cons rfl (.cons rfl (.cons rfl (.cons rfl (.nil _))))))))))
        exact ⟨⟨_, st, l30⟩, Eq.symm e32⟩
      rintro _ W89 ⟨⟨H87, st, l88⟩, e90⟩
      show QX _ _ _ [(1, Value.int .i64 a1), (2, Value.string a2), (4, Value.pointer (some (⟨b1, 0, none⟩ : Addr))), (7, Value.pointer (some (⟨b6, 0, none⟩ : Addr))), (9, Value.int .i64 r15)] _
      refine QX.blkN (QX.thenN ?_)
      refine CW.reg (WL.mv rfl (WL.pv (Pu.iadd rfl rfl (c := r15 + 1) (w64 (by omega) (by omega))) (WL.as rfl ?_)))
      refine WL.nil (QX.round ⟨n16, r15 + 1⟩ ?_ (Nat.lt_succ_self _) (.cons rfl (.cons rfl (.cons rfl (.cons rfl (.cons rfl (.nil _)))))))
      exact ⟨⟨_, st, (l18.trans l88)⟩, (by first|omega|simp<;>omega), (by first|omega|simp<;>omega), (by first|omega|simp<;>omega), Eq.symm ((Eq.symm e20).trans (lkR_inr e90))⟩
     ·obtain rfl : N24 = 0 := by omega
      refine CW.exit (QX.thenE (QX.thenE (QX.hit (QX.meets () ?_ (.nil _)))))
      exact ⟨⟨_, st, l18⟩, Eq.symm e20⟩
    rintro _ W95 ⟨⟨H93, st, l94⟩, e96⟩
    show QX _ _ _ [] _
    refine QX.thenN (CW.seq (CW.reg (WL.as rfl (WL.nt ?_))))
    refine CW.ret (finA Tryz.results28 st (.tmp rfl .nil) ?_)
    exact vb ((if_pos h11).trans ((if_pos h12).trans ((if_pos h14).trans (lk_inr e96))))
/-! toll tollref11.By -/
def m31_l0 (a0 : List Object) (a1 : Int) (a2 : ByteArray) (a3 : Ref) : Nat → (List Ref) → Int → (List Ref)
 | 0, r6, _ => r6
 | n9 + 1, r6, r8 => if (m28 (lg a0 r8) a1 a2 a3) = true then (m31_l0 a0 a1 a2 a3 n9 (r6 ++ ([(lg a0 r8).ref] : List Ref)) (r8 + 1)) else m31_l0 a0 a1 a2 a3 n9 r6 (r8 + 1)
def m31 (a0 : List Object) (a1 : Int) (a2 : ByteArray) (a3 : Ref) : (List Ref) :=
 lk1 (m31_l0 a0 a1 a2 a3 (((a0.length : Int) - 0).toNat) ([] : List Ref) 0) (fun r10 => r10)
theorem c31 (a0 : Sl Object) (a1 : Int) (a2 : ByteArray) (a3 : Ref) {w : World} {H : PH} (hs : Sub H w) (k0p : Sl.Ok 1048576 H a0) (k2p : a2.size < 1048576) (k3p : Ref.Ok 1048576 H a3) : Spec Tryz.prog 31 [a0.v, .int .i64 a1, .string a2, Ref.v a3].toArray w H (fun H' v => ∃ (x0 : Sl Ref), v = x0.v ∧ Sl.Ok 1048576 H' x0 ∧ x0.l = m31 a0.l a1 a2 a3) := by
 refine Spec.enter Tryz.func31 rfl Tryz.ntmps31 rfl ?_
 have st := St.start hs
 refine CW.seq (CW.reg ?_)
 refine WL.box rfl rfl rfl rfl st ?_
 intro b1 W2 H3 st l4 f5
 refine WL.as rfl (WL.nt (CW.seq (CW.reg (WL.as rfl (WL.nt (CW.seq (CW.seq (CW.reg (WL.as rfl ?_)))))))))
 refine WL.nt ?_
 replace st := st.rownilS (α := Ref) 23
 refine (CW.cuts (fun (s : (List Ref) × Value) W => (∃ H', St w W H H' [rowS (α := Ref) s.2 23 s.1] ∧ Le H3 H' ∧ OkL 1048576 H' s.1 ∧ (s.1.length : Int) ≤ ((a0.l.length : Int))) ∧ m31_l0 a0.l a1 a2 a3 (((a0.l.length : Int) - 0).toNat) ([] : List Ref) 0 = s.1) (fun (s : (List Ref) × Value) => [(9, s.2)]) ?_ ?_)
 ·refine CW.blk (CW.loop (fun (s : Nat × (List Ref) × Int × Value) W => (∃ H', St w W H H' [rowS (α := Ref) s.2.2.2 23 s.2.1] ∧ Le H3 H' ∧ OkL 1048576 H' s.2.1 ∧ (s.2.1.length : Int) ≤ s.2.2.1) ∧ 0 ≤ s.2.2.1 ∧ s.2.2.1 ≤ (a0.l.length : Int) ∧ s.1 = ((a0.l.length : Int) - s.2.2.1).toNat ∧ m31_l0 a0.l a1 a2 a3 s.1 s.2.1 s.2.2.1 = m31_l0 a0.l a1 a2 a3 (((a0.l.length : Int) - 0).toNat) ([] : List Ref) 0) (fun (s : Nat × (List Ref) × Int × Value) => [(0, a0.v), (1, Value.int .i64 a1), (2, Value.string a2), (7, Value.pointer (some (⟨b1, 0, none⟩ : Addr))), (9, s.2.2.2), (10, Value.int .i64 s.2.2.1)]) (fun s => s.1) ⟨((a0.l.length : Int) - 0).toNat, ([] : List Ref), 0, (.slice none 0 0)⟩ ⟨⟨_, st, Le.refl _, OkL.nil, (by first|omega|simp<;>omega)⟩, (by first|omega|simp<;>omega), (by first|omega|simp<;>omega), rfl, rfl⟩ (.cons rfl (.cons rfl (.cons rfl (.cons rfl (.cons rfl (.cons rfl (.nil _))))))) ?_)
  rintro ⟨N21, r6, r8, v7⟩ W14 ⟨⟨H12, st, l13, k19, g20⟩, g46, g47, g18, e15⟩
  replace g46 : 0 ≤ r8 := g46
  replace g47 : r8 ≤ (a0.l.length : Int) := g47
  replace g18 : N21 = ((a0.l.length : Int) - r8).toNat := g18
  replace e15 : m31_l0 a0.l a1 a2 a3 N21 r6 r8 = m31_l0 a0.l a1 a2 a3 (((a0.l.length : Int) - 0).toNat) ([] : List Ref) 0 := e15
  obtain ⟨v7A, v7m, v7c, rfl⟩ := row_form st (.head _)
  replace st : St w _ _ _ [rowS (α := Ref) (.slice v7A v7m v7c) 23 r6] := st
  replace k19 : OkL 1048576 H12 r6 := k19
  replace g20 : (r6.length : Int) ≤ r8 := g20
  show CW _ _ _ _ [(0, a0.v), (1, Value.int .i64 a1), (2, Value.string a2), (7, Value.pointer (some (⟨b1, 0, none⟩ : Addr))), (9, (.slice v7A v7m v7c)), (10, Value.int .i64 r8)] _
  refine CW.seq (CW.seq (CW.reg (WL.mv rfl (WL.mv rfl ?_))))
  have z22 : a0.l.length ≤ 1048576 := (k0p.le (l4.trans l13)).top
  refine WL.pv (Pu.lens (n := a0.l.length) rfl sl43) (WL.pv (Pu.ilt rfl rfl) (WL.nt ?_))
  refine CW.condP 14 rfl dT dF (fun h23 => ?_) (fun h23 => ?_)
  ·obtain ⟨n9, rfl⟩ : ∃ k, N21 = k + 1 := ⟨N21 - 1, by omega⟩
   refine CW.skip (QX.thenN ?_)
   refine CW.seq ?_
   refine CW.blk ?_
   refine CW.seq ?_
   refine CW.regS (C := Cl w H12 [rowS (α := Ref) (.slice v7A v7m v7c) 23 r6]) (tail := []) (S := Grew w H H12 [rowS (α := Ref) (.slice v7A v7m v7c) 23 r6]) mixed (fun W' h1 h2 h3 h4 => grew_start st h1 h2 h3 h4) (n := 8) rfl ?_
   refine WS.pk 0 rfl gg (fun W hC => Pu.move rfl) ?_
   refine WS.pk 1 rfl gg (fun W hC => Pu.move rfl) ?_
   have y24 := lg_get (l := a0.l) (i := r8) (by omega) (by omega)
   have k27 : Object.Ok 1048576 H12 (lg a0.l r8) := ((k0p.le (l4.trans l13)).get _ _ y24).2
   obtain ⟨ad25, qa28, f26⟩ := ((k0p.le (l4.trans l13)).get _ _ y24).1
   refine WS.pk 2 rfl gg (fun W hC => Pu.idx0 rfl rfl sl43 (by first|omega|simp<;>omega) (by first|omega|simp<;>omega) qa28) ?_
   refine WS.pk 3 rfl gg (fun W hC => Pu.load (v := Object.v (lg a0.l r8)) rfl ty32 (f26.w hC.1) rfl) ?_
   refine WS.pk 4 rfl gg (fun W hC => Pu.move rfl) ?_
   refine WS.pk 5 rfl gg (fun W hC => Pu.move rfl) ?_
   refine WS.pk 6 rfl gg (fun W hC => Pu.load (v := Ref.v a3) rfl ty23 ((f5.le l13).w hC.1) rfl) ?_
   refine WS.callv (by kernel_rfl) (.then (.blk (.then (.then (.blk (.then (.then .body))))))) 7 rfl (by kernel_rfl) (good_grew (Le.refl _) (fun _ h => h)) rfl rfl en28 rfl rfl (fun W hC => ⟨_, c28 (lg a0.l r8) a1 a2 a3 hC.1 k27 k2p (k3p.le (l4.trans l13))⟩) ?_
   refine WS.fin (by kernel_rfl) (fun W31 H29 st l30 => ?_)
   refine QX.thenN ?_
   refine CW.condP 24 rfl rT rF (fun h32 => ?_) (fun h32 => ?_)
   ·refine CW.reg (WL.mv rfl (WL.mv rfl (WL.mv rfl ?_)))
    have y33 := lg_get (l := a0.l) (i := r8) (by omega) (by omega)
    have k36 : Object.Ok 1048576 H29 (lg a0.l r8) := ((k0p.le ((l4.trans l13).trans l30)).get _ _ y33).2
    refine WL.idx (s := a0) rfl rfl rfl rfl sl43 (k0p.le ((l4.trans l13).trans l30)) (by omega) y33 ?_
    intro ad34 f35
    refine WL.pv (Pu.fa rfl fo32_0) (WL.pv (Pu.load (v := Ref.v ((lg a0.l r8).ref)) rfl ty23 ((f35.drop 0).w st.sub) rfl) ?_)
    refine WL.lit (M := 1048576) ([(lg a0.l r8).ref] : List Ref) rfl rfl ap47 rfl rfl rfl rfl rfl rfl rfl rfl rfl (by decide) (OkL.cons k36.ref OkL.nil) st ?_
    intro b38 W37 H39 st l40 k41
    refine WL.appS (s2 := (⟨some ⟨b38, 0, none⟩, 1, ([(lg a0.l r8).ref] : List Ref)⟩ : Sl Ref)) rfl rfl ap47 rfl rfl rfl rfl rfl k41 (by first|omega|simp<;>omega) (by first|omega|simp<;>omega) st ?_
    intro A42 mm43 n44 W45 st
    refine WL.as rfl ?_
    refine WL.nil (QX.blkN (QX.thenN ?_))
    refine CW.reg (WL.mv rfl (WL.pv (Pu.iadd rfl rfl (c := r8 + 1) (w64 (by omega) (by omega))) (WL.as rfl ?_)))
    refine WL.nil (QX.round ⟨n9, r6 ++ ([(lg a0.l r8).ref] : List Ref), r8 + 1, (.slice A42 mm43 n44)⟩ ?_ (Nat.lt_succ_self _) (.cons rfl (.cons rfl (.cons rfl (.cons rfl (.cons rfl (.cons rfl (.nil _))))))))
    exact ⟨⟨_, st, ((l13.trans l30).trans l40), (OkL.app (k19.le (l30.trans l40)) (OkL.cons (k36.ref.le l40) OkL.nil)), (by first|omega|simp<;>omega)⟩, (by first|omega|simp<;>omega), (by first|omega|simp<;>omega), (by first|omega|simp<;>omega), Eq.symm ((Eq.symm e15).trans (if_pos h32))⟩
   ·refine CW.skip (QX.blkN (QX.thenN ?_))
    refine CW.reg (WL.mv rfl (WL.pv (Pu.iadd rfl rfl (c := r8 + 1) (w64 (by omega) (by omega))) (WL.as rfl ?_)))
    refine WL.nil (QX.round ⟨n9, r6, r8 + 1, (.slice v7A v7m v7c)⟩ ?_ (Nat.lt_succ_self _) (.cons rfl (.cons rfl (.cons rfl (.cons rfl (.cons rfl (.cons rfl (.nil _))))))))
    exact ⟨⟨_, st, (l13.trans l30), (k19.le l30), (by first|omega|simp<;>omega)⟩, (by first|omega|simp<;>omega), (by first|omega|simp<;>omega), (by first|omega|simp<;>omega), Eq.symm ((Eq.symm e15).trans (if_neg h32))⟩
  ·obtain rfl : N21 = 0 := by omega
   refine CW.exit (QX.thenE (QX.thenE (QX.hit (QX.meets ⟨r6, (.slice v7A v7m v7c)⟩ ?_ (.cons rfl (.nil _))))))
   exact ⟨⟨_, st, l13, k19, (by first|omega|simp<;>omega)⟩, Eq.symm e15⟩
 rintro ⟨r10, v11⟩ W50 ⟨⟨H48, st, l49, k52, g53⟩, e51⟩
 obtain ⟨v11A, v11m, v11c, rfl⟩ := row_form st (.head _)
 replace st : St w _ _ _ [rowS (α := Ref) (.slice v11A v11m v11c) 23 r10] := st
 replace k52 : OkL 1048576 H48 r10 := k52
 replace g53 : (r10.length : Int) ≤ ((a0.l.length : Int)) := g53
 replace e51 : m31_l0 a0.l a1 a2 a3 (((a0.l.length : Int) - 0).toNat) ([] : List Ref) 0 = r10 := e51
 show QX _ _ _ [(9, (.slice v11A v11m v11c))] _
 refine QX.thenN (CW.seq (CW.reg (WL.mv rfl (WL.as rfl (WL.nt ?_)))))
 have z_ := k0p.top
 obtain ⟨H54, st', l55, rfl, k56⟩ := st.settle (M := 1048576) k52 (by first|omega|simp<;>omega)
 have st := st'
 refine CW.ret (finA Tryz.results31 st (.tmp rfl .nil) ?_)
 exact ⟨(⟨v11A, v11c, r10⟩ : Sl Ref), rfl, k56, Eq.symm (lk1_eq e51)⟩
/-! toll tollref11.Permits -/
def m29 (a0 : List Object) (a1 : Int) (a2 : ByteArray) (a3 : Ref) : Bool :=
 if a2 = a3.space then true else decide ((0 : Int) < ((m31 a0 a1 a2 a3).length : Int))
theorem c29 (a0 : Sl Object) (a1 : Int) (a2 : ByteArray) (a3 : Ref) {w : World} {H : PH} (hs : Sub H w) (k0p : Sl.Ok 1048576 H a0) (k2p : a2.size < 1048576) (k3p : Ref.Ok 1048576 H a3) : Spec Tryz.prog 29 [a0.v, .int .i64 a1, .string a2, Ref.v a3].toArray w H (fun _ v => v = .bool (m29 a0.l a1 a2 a3)) := by
 refine Spec.enter Tryz.func29 rfl Tryz.ntmps29 rfl ?_
 have st := St.start hs
 refine CW.seq (CW.reg ?_)
 refine WL.box rfl rfl rfl rfl st ?_
 intro b1 W2 H3 st l4 f5
 refine WL.as rfl (WL.nt (CW.seq (CW.reg (WL.mv rfl (WL.pv (Pu.fa rfl fo23_1) (WL.pv (Pu.load rfl ty9 ((f5.drop 1).w st.sub) rfl) (WL.pv (Pu.seq rfl rfl) (WL.mv rfl ?_))))))))
 refine WL.splitP 13 rfl dT dF (fun h6 => ?_) (fun h6 => ?_)
 ·refine WL.of (WL.of (WL.of (WL.of (WL.of (WL.of (WL.of (WL.pv (Pu.pickT rfl rfl) (WL.as rfl (WL.nt ?_)))))))))
  refine CW.ret (finA Tryz.results29 st (.tmp rfl .nil) ?_)
  exact vb (if_pos h6)
 ·refine WL.mv rfl (WL.mv rfl (WL.mv rfl (WL.pv (Pu.load (v := Ref.v a3) rfl ty23 (f5.w st.sub) rfl) ?_)))
  refine WL.call rfl rfl en31 rfl rfl st (c31 a0 a1 a2 a3 st.sub (k0p.le l4) k2p (k3p.le l4)) ?_
  rintro _ W7 H8 st l9 ⟨⟨A13, n14, x10⟩, rfl, k11, e12⟩
  subst e12
  have z15 : (m31 a0.l a1 a2 a3).length ≤ 1048576 := k11.top
  refine WL.pv (Pu.lens (n := (m31 a0.l a1 a2 a3).length) rfl sl47) (WL.pv (Pu.igt rfl rfl) (WL.pv (Pu.pickF rfl rfl) (WL.as rfl (WL.nt ?_))))
  refine CW.ret (finA Tryz.results29 st (.tmp rfl .nil) ?_)
  exact vb (if_neg h6)
/-! toll tollref09.SameRefs -/
def m30_l0 (a0 : List Ref) (a1 : List Ref) : Nat → Int → (Bool ⊕ Unit)
 | 0, _ => .inr ()
 | n5 + 1, r4 => if lg a0 r4 = lg a1 r4 then (m30_l0 a0 a1 n5 (r4 + 1)) else .inl false
def m30 (a0 : List Ref) (a1 : List Ref) : Bool :=
 if (a0.length : Int) = (a1.length : Int) then (lk2 (m30_l0 a0 a1 (((a0.length : Int) - 0).toNat) 0) (fun _ => true)) else false
theorem c30 (a0 : Sl Ref) (a1 : Sl Ref) {w : World} {H : PH} (hs : Sub H w) (k0p : Sl.Ok 1048576 H a0) (k1p : Sl.Ok 1048576 H a1) : Spec Tryz.prog 30 [a0.v, a1.v].toArray w H (fun _ v => v = .bool (m30 a0.l a1.l)) := by
 refine Spec.enter Tryz.func30 rfl Tryz.ntmps30 rfl ?_
 have st := St.start hs
 refine CW.seq (CW.reg (WL.as rfl (WL.nt (CW.seq (CW.seq (CW.reg (WL.mv rfl ?_)))))))
 have z1 : a0.l.length ≤ 1048576 := k0p.top
 refine WL.pv (Pu.lens (n := a0.l.length) rfl sl47) (WL.mv rfl ?_)
 have z2 : a1.l.length ≤ 1048576 := k1p.top
 refine WL.pv (Pu.lens (n := a1.l.length) rfl sl47) (WL.pv (Pu.ine rfl rfl) (WL.nt ?_))
 refine CW.condP 10 rfl nT nF (fun h3 => ?_) (fun h3 => ?_)
 ·refine CW.seq (CW.reg (WL.as rfl (WL.nt ?_)))
  refine CW.ret (QX.thenR (finA Tryz.results30 st (.tmp rfl .nil) ?_))
  exact vb (if_neg h3)
 ·refine CW.skip (QX.thenN ?_)
  refine CW.seq (CW.seq (CW.reg (WL.as rfl (WL.nt ?_))))
  refine (CW.cuts (fun (s : Unit) W => (∃ H', St w W H H' [] ∧ Le H H') ∧ m30_l0 a0.l a1.l (((a0.l.length : Int) - 0).toNat) 0 = .inr ()) (fun (s : Unit) => []) ?_ ?_)
  ·refine CW.blk (CW.loop (fun (s : Nat × Int) W => (∃ H', St w W H H' [] ∧ Le H H') ∧ 0 ≤ s.2 ∧ s.2 ≤ (a0.l.length : Int) ∧ s.1 = ((a0.l.length : Int) - s.2).toNat ∧ m30_l0 a0.l a1.l s.1 s.2 = m30_l0 a0.l a1.l (((a0.l.length : Int) - 0).toNat) 0) (fun (s : Nat × Int) => [(0, a0.v), (1, a1.v), (5, Value.int .i64 s.2)]) (fun s => s.1) ⟨((a0.l.length : Int) - 0).toNat, 0⟩ ⟨⟨_, st, Le.refl _⟩, (by first|omega|simp<;>omega), (by first|omega|simp<;>omega), rfl, rfl⟩ (.cons rfl (.cons rfl (.cons rfl (.nil _)))) ?_)
   rintro ⟨N13, r4⟩ W8 ⟨⟨H6, st, l7⟩, g30, g31, g12, e9⟩
   replace g30 : 0 ≤ r4 := g30
   replace g31 : r4 ≤ (a0.l.length : Int) := g31
   replace g12 : N13 = ((a0.l.length : Int) - r4).toNat := g12
   replace e9 : m30_l0 a0.l a1.l N13 r4 = m30_l0 a0.l a1.l (((a0.l.length : Int) - 0).toNat) 0 := e9
   show CW _ _ _ _ [(0, a0.v), (1, a1.v), (5, Value.int .i64 r4)] _
   refine CW.seq (CW.seq (CW.reg (WL.mv rfl (WL.mv rfl ?_))))
   have z14 : a0.l.length ≤ 1048576 := (k0p.le l7).top
   refine WL.pv (Pu.lens (n := a0.l.length) rfl sl47) (WL.pv (Pu.ilt rfl rfl) (WL.nt ?_))
   refine CW.condP 14 rfl dT dF (fun h15 => ?_) (fun h15 => ?_)
   ·obtain ⟨n5, rfl⟩ : ∃ k, N13 = k + 1 := ⟨N13 - 1, by omega⟩
    refine CW.skip (QX.thenN ?_)
    refine CW.seq ?_
    refine CW.blk ?_
    refine CW.seq ?_
    refine CW.regS (C := Cl w H6 []) (tail := []) (S := Grew w H H6 []) mixed (fun W' h1 h2 h3 h4 => grew_start st h1 h2 h3 h4) (n := 9) rfl ?_
    refine WS.pk 0 rfl gg (fun W hC => Pu.move rfl) ?_
    refine WS.pk 1 rfl gg (fun W hC => Pu.move rfl) ?_
    have y16 := lg_get (l := a0.l) (i := r4) (by omega) (by omega)
    have k19 : Ref.Ok 1048576 H6 (lg a0.l r4) := ((k0p.le l7).get _ _ y16).2
    obtain ⟨ad17, qa20, f18⟩ := ((k0p.le l7).get _ _ y16).1
    refine WS.pk 2 rfl gg (fun W hC => Pu.idx0 rfl rfl sl47 (by first|omega|simp<;>omega) (by first|omega|simp<;>omega) qa20) ?_
    refine WS.pk 3 rfl gg (fun W hC => Pu.load (v := Ref.v (lg a0.l r4)) rfl ty23 (f18.w hC.1) rfl) ?_
    refine WS.pk 4 rfl gg (fun W hC => Pu.move rfl) ?_
    refine WS.pk 5 rfl gg (fun W hC => Pu.move rfl) ?_
    have y21 := lg_get (l := a1.l) (i := r4) (by omega) (by omega)
    have k24 : Ref.Ok 1048576 H6 (lg a1.l r4) := ((k1p.le l7).get _ _ y21).2
    obtain ⟨ad22, qa25, f23⟩ := ((k1p.le l7).get _ _ y21).1
    refine WS.pk 6 rfl gg (fun W hC => Pu.idx0 rfl rfl sl47 (by first|omega|simp<;>omega) (by first|omega|simp<;>omega) qa25) ?_
    refine WS.pk 7 rfl gg (fun W hC => Pu.load (v := Ref.v (lg a1.l r4)) rfl ty23 (f23.w hC.1) rfl) ?_
    refine WS.pk 8 rfl gg (fun W hC => Pu.bin rfl rfl (eqg23 _ (lg a0.l r4) (lg a1.l r4)) (ne23 (lg a0.l r4) (lg a1.l r4))) ?_
    refine WS.fin (by kernel_rfl) (fun W28 H26 st l27 => ?_)
    refine QX.thenN ?_
    refine CW.condP 25 rfl nT nF (fun h29 => ?_) (fun h29 => ?_)
    ·refine CW.seq (CW.reg (WL.as rfl (WL.nt ?_)))
     refine CW.ret (QX.blkR (QX.thenR (QX.thenR (QX.blkR (QX.thenR (QX.thenR (finA Tryz.results30 st (.tmp rfl .nil) ?_)))))))
     exact vb ((if_pos h3).trans (lk_inl ((Eq.symm e9).trans (if_neg h29))))
    ·refine CW.skip (QX.blkN (QX.thenN ?_))
     refine CW.reg (WL.mv rfl (WL.pv (Pu.iadd rfl rfl (c := r4 + 1) (w64 (by omega) (by omega))) (WL.as rfl ?_)))
     refine WL.nil (QX.round ⟨n5, r4 + 1⟩ ?_ (Nat.lt_succ_self _) (.cons rfl (.cons rfl (.cons rfl (.nil _)))))
     exact ⟨⟨_, st, (l7.trans l27)⟩, (by first|omega|simp<;>omega), (by first|omega|simp<;>omega), (by first|omega|simp<;>omega), Eq.symm ((Eq.symm e9).trans (if_pos h29))⟩
   ·obtain rfl : N13 = 0 := by omega
    refine CW.exit (QX.thenE (QX.thenE (QX.hit (QX.meets () ?_ (.nil _)))))
    exact ⟨⟨_, st, l7⟩, Eq.symm e9⟩
  rintro _ W34 ⟨⟨H32, st, l33⟩, e35⟩
  show QX _ _ _ [] _
  refine QX.thenN (CW.seq (CW.reg (WL.as rfl (WL.nt ?_))))
  refine CW.ret (finA Tryz.results30 st (.tmp rfl .nil) ?_)
  exact vb ((if_pos h3).trans (lk_inr e35))
/-! toll tolllaw11.GrantPermits -/
def m5_l0 (xx90 : Ask11) : Nat → Int → (Bool ⊕ Unit)
 | 0, _ => .inr ()
 | n58 + 1, r57 => if ((m17 (lg xx90.l.l r57) xx90.kind xx90.space xx90.to) == (m28 (lg xx90.l.l r57) xx90.kind xx90.space xx90.to)) = true then (m5_l0 xx90 n58 (r57 + 1)) else .inl false
def m5 (a0 : Ask11) (xx90 : Ask11) : Bool :=
 if (m25 ((m23 xx90.l.l xx90.to).1) ((m24 xx90.l.l xx90.to).1)) = true then (if (((m23 xx90.l.l xx90.to).2) == ((m24 xx90.l.l xx90.to).2)) = true then (if m26 xx90.to xx90.space = m27 xx90.to xx90.space then (lk2 (m5_l0 xx90 (((xx90.l.l.length : Int) - 0).toNat) 0) (fun _ => if ((m22 xx90.l.l xx90.kind xx90.space xx90.to) == (m29 xx90.l.l xx90.kind xx90.space xx90.to)) = true then (if (m30 (m21 xx90.l.l xx90.kind xx90.space xx90.to) (m31 xx90.l.l xx90.kind xx90.space xx90.to)) = true then m19 else false) else false)) else false) else false) else false
theorem c5 (a0 : Ask11) {w : World} {H : PH} (hs : Sub H w) (k0p : Ask11.Ok 140737488355329 H a0) : Spec Tryz.prog 5 [Ask11.v a0].toArray w H (fun _ v => ∃ (xx90 : Ask11), v = .bool (m5 a0 xx90)) := by
 refine Spec.enter Tryz.func5 rfl Tryz.ntmps5 rfl ?_
 have st := St.start hs
 refine CW.seq (CW.reg ?_)
 refine WL.boxo (c := #[a0.l.v, .int .i64 a0.kind, .string a0.space, .int .i64 a0.to.kind, .string a0.to.space, .string a0.to.name]) rfl rfl rfl rfl st ?_
 intro b1 W2 st
 refine WL.as rfl (WL.nt (CW.seq (CW.reg (WL.pv (Pu.load (v := Ask11.v a0) rfl ty45 (AtW.block (st.own _ (.head _)).1.2) rfl) ?_))))
 refine WL.call rfl rfl en20 rfl rfl st (c20 a0 st.sub k0p) ?_
 rintro _ W3 H4 st l5 ⟨xx90, rfl, k6⟩
 refine WL.store (o := 0) (c' := [xx90.l.v, .int .i64 xx90.kind, .string xx90.space, .int .i64 xx90.to.kind, .string xx90.to.space, .string xx90.to.name]) rfl rfl rfl rfl ty45 rfl (Enc.one (α := Ask11) _) rfl rfl st ?_
 intro W8 st
 refine WL.nt (CW.seq (CW.reg (WL.pv (Pu.fa rfl fo45_0) (WL.pv (Pu.load rfl ty43 (AtW.block (st.own _ (.head _)).1.2) rfl) (WL.pv (Pu.fa rfl fo45_3) (WL.pv (Pu.load (v := Ref.v xx90.to) rfl ty23 ((AtW.block (st.own _ (.head _)).1.2).drop 3) rfl) ?_))))))
 refine WL.call rfl rfl en23 rfl rfl st (c23 xx90.l xx90.to st.sub k6.l k6.to) ?_
 rintro _ W9 H10 st l11 ⟨x12, x13, rfl, k14, e15⟩
 obtain ⟨rfl, rfl⟩ := tup2 e15
 refine WL.mv rfl (WL.pv (Pu.ext rfl rfl) (WL.pv (Pu.ext rfl rfl) ?_))
 refine WL.alloco (c := #[.int .i64 0, .string (⟨#[]⟩ : ByteArray), .string (⟨#[]⟩ : ByteArray), .bool false, .slice none 0 0, .slice none 0 0, .string (⟨#[]⟩ : ByteArray), .slice none 0 0, .slice none 0 0, .slice none 0 0, .slice none 0 0, .slice none 0 0, .slice none 0 0]) rfl rfl ze32 rfl st ?_
 intro b16 W17 st
 refine WL.store (o := 0) (c' := [.int .i64 ((((m23 xx90.l.l xx90.to).1).ref).kind), .string ((((m23 xx90.l.l xx90.to).1).ref).space), .string ((((m23 xx90.l.l xx90.to).1).ref).name), .bool (((m23 xx90.l.l xx90.to).1).good), (((m23 xx90.l.l xx90.to).1).labels).v, (((m23 xx90.l.l xx90.to).1).ports).v, .string (((m23 xx90.l.l xx90.to).1).cls), (((m23 xx90.l.l xx90.to).1).listeners).v, (((m23 xx90.l.l xx90.to).1).parents).v, (((m23 xx90.l.l xx90.to).1).hosts).v, (((m23 xx90.l.l xx90.to).1).rules).v, (((m23 xx90.l.l xx90.to).1).frm).v, (((m23 xx90.l.l xx90.to).1).to).v]) rfl rfl rfl rfl ty32 rfl (Enc.one (α := Object) _) rfl rfl st ?_
 intro W18 st
 obtain ⟨H19, st, l20, f21⟩ := st.keepbox
 refine WL.as rfl (WL.nt (CW.seq (CW.reg (WL.pv (Pu.fa rfl fo45_0) (WL.pv (Pu.load rfl ty43 (AtW.block (st.own _ (.head _)).1.2) rfl) (WL.pv (Pu.fa rfl fo45_3) (WL.pv (Pu.load (v := Ref.v xx90.to) rfl ty23 ((AtW.block (st.own _ (.head _)).1.2).drop 3) rfl) ?_)))))))
 refine WL.call rfl rfl en24 rfl rfl st (c24 xx90.l xx90.to st.sub (k6.l.le (l11.trans l20)) (k6.to.le (l11.trans l20))) ?_
 rintro _ W22 H23 st l24 ⟨x25, x26, rfl, k27, e28⟩
 obtain ⟨rfl, rfl⟩ := tup2 e28
 refine WL.mv rfl (WL.pv (Pu.ext rfl rfl) (WL.pv (Pu.ext rfl rfl) ?_))
 refine WL.alloco (c := #[.int .i64 0, .string (⟨#[]⟩ : ByteArray), .string (⟨#[]⟩ : ByteArray), .bool false, .slice none 0 0, .slice none 0 0, .string (⟨#[]⟩ : ByteArray), .slice none 0 0, .slice none 0 0, .slice none 0 0, .slice none 0 0, .slice none 0 0, .slice none 0 0]) rfl rfl ze32 rfl st ?_
 intro b29 W30 st
 refine WL.store (o := 0) (c' := [.int .i64 ((((m24 xx90.l.l xx90.to).1).ref).kind), .string ((((m24 xx90.l.l xx90.to).1).ref).space), .string ((((m24 xx90.l.l xx90.to).1).ref).name), .bool (((m24 xx90.l.l xx90.to).1).good), (((m24 xx90.l.l xx90.to).1).labels).v, (((m24 xx90.l.l xx90.to).1).ports).v, .string (((m24 xx90.l.l xx90.to).1).cls), (((m24 xx90.l.l xx90.to).1).listeners).v, (((m24 xx90.l.l xx90.to).1).parents).v, (((m24 xx90.l.l xx90.to).1).hosts).v, (((m24 xx90.l.l xx90.to).1).rules).v, (((m24 xx90.l.l xx90.to).1).frm).v, (((m24 xx90.l.l xx90.to).1).to).v]) rfl rfl rfl rfl ty32 rfl (Enc.one (α := Object) _) rfl rfl st ?_
 intro W31 st
 obtain ⟨H32, st, l33, f34⟩ := st.keepbox
 refine WL.as rfl (WL.nt (CW.seq (CW.seq ?_)))
 refine CW.regS (C := Cl w H32 [Own.box b1 (.cells #[xx90.l.v, .int .i64 xx90.kind, .string xx90.space, .int .i64 xx90.to.kind, .string xx90.to.space, .string xx90.to.name] 45 (0, 0))]) (tail := []) (S := Grew w H H32 [Own.box b1 (.cells #[xx90.l.v, .int .i64 xx90.kind, .string xx90.space, .int .i64 xx90.to.kind, .string xx90.to.space, .string xx90.to.name] 45 (0, 0))]) mixed (fun W' h1 h2 h3 h4 => grew_start st h1 h2 h3 h4) (n := 22) rfl ?_
 refine WS.pk 0 rfl gg (fun W hC => Pu.load (v := Object.v ((m23 xx90.l.l xx90.to).1)) rfl ty32 ((f21.le (l24.trans l33)).w hC.1) rfl) ?_
 refine WS.pk 1 rfl gg (fun W hC => Pu.load (v := Object.v ((m24 xx90.l.l xx90.to).1)) rfl ty32 (f34.w hC.1) rfl) ?_
 refine WS.callv (by kernel_rfl) (.then (.then .body)) 2 rfl (by kernel_rfl) (good_grew (Le.refl _) (fun _ h => h)) rfl rfl en25 rfl rfl (fun W hC => ⟨_, c25 ((m23 xx90.l.l xx90.to).1) ((m24 xx90.l.l xx90.to).1) hC.1 (k14.le ((l20.trans l24).trans l33)) (k27.le l33)⟩) ?_
 refine WS.pk 3 rfl gg (fun W hC => Pu.notb rfl) ?_
 refine WS.pk 4 rfl gg (fun W hC => Pu.move rfl) ?_
 refine WS.split 30 rfl mT mF (fun h35 => ?_) (fun h35 => ?_)
 ·refine WS.ok 5 rfl gg ?_
  refine WS.ok 6 rfl gg ?_
  refine WS.ok 7 rfl gg ?_
  refine WS.pk 8 rfl gg (fun W hC => Pu.pickT rfl rfl) ?_
  refine WS.pk 9 rfl gg (fun W hC => Pu.move rfl) ?_
  refine WS.ok 10 rfl gg ?_
  refine WS.ok 11 rfl gg ?_
  refine WS.ok 12 rfl gg ?_
  refine WS.ok 13 rfl gg ?_
  refine WS.ok 14 rfl gg ?_
  refine WS.ok 15 rfl gg ?_
  refine WS.ok 16 rfl gg ?_
  refine WS.ok 17 rfl gg ?_
  refine WS.ok 18 rfl gg ?_
  refine WS.ok 19 rfl gg ?_
  refine WS.ok 20 rfl gg ?_
  refine WS.pk 21 rfl gg (fun W hC => Pu.pickT rfl rfl) ?_
  refine WS.fin (by kernel_rfl) (fun W38 H36 st l37 => ?_)
  refine QX.thenN ?_
  refine CW.condT rfl ?_
  refine CW.seq (CW.reg (WL.as rfl (WL.nt ?_)))
  refine CW.ret (QX.thenR (finA Tryz.results5 st (.tmp rfl .nil) ?_))
  exact ⟨xx90, congrArg (fun z => Value.bool z) (Eq.symm (if_neg h35))⟩
 ·refine WS.pk 5 rfl gg (fun W hC => Pu.move rfl) ?_
  refine WS.pk 6 rfl gg (fun W hC => Pu.move rfl) ?_
  refine WS.pk 7 rfl gg (fun W hC => Pu.bne rfl rfl Tryz.underlying4) ?_
  refine WS.pk 8 rfl gg (fun W hC => Pu.pickF rfl rfl) ?_
  refine WS.pk 9 rfl gg (fun W hC => Pu.move rfl) ?_
  refine WS.split 35 rfl mT mF (fun h39 => ?_) (fun h39 => ?_)
  ·refine WS.ok 10 rfl gg ?_
   refine WS.ok 11 rfl gg ?_
   refine WS.ok 12 rfl gg ?_
   refine WS.ok 13 rfl gg ?_
   refine WS.ok 14 rfl gg ?_
   refine WS.ok 15 rfl gg ?_
   refine WS.ok 16 rfl gg ?_
   refine WS.ok 17 rfl gg ?_
   refine WS.ok 18 rfl gg ?_
   refine WS.ok 19 rfl gg ?_
   refine WS.ok 20 rfl gg ?_
   refine WS.pk 21 rfl gg (fun W hC => Pu.pickT rfl rfl) ?_
   refine WS.fin (by kernel_rfl) (fun W42 H40 st l41 => ?_)
   refine QX.thenN ?_
   refine CW.condT rfl ?_
   refine CW.seq (CW.reg (WL.as rfl (WL.nt ?_)))
   refine CW.ret (QX.thenR (finA Tryz.results5 st (.tmp rfl .nil) ?_))
   exact ⟨xx90, congrArg (fun z => Value.bool z) (Eq.symm ((if_pos h35).trans (if_neg h39)))⟩
  ·refine WS.pk 10 rfl gg (fun W hC => Pu.fa rfl fo45_3) ?_
   refine WS.pk 11 rfl gg (fun W hC => Pu.load (v := Ref.v xx90.to) rfl ty23 ((AtW.block (hC.2 _ (.head _)).2).drop 3) rfl) ?_
   refine WS.pk 12 rfl gg (fun W hC => Pu.fa rfl fo45_2) ?_
   refine WS.pk 13 rfl gg (fun W hC => Pu.load rfl ty9 ((AtW.block (hC.2 _ (.head _)).2).drop 2) rfl) ?_
   refine WS.pk 15 rfl gg (fun W hC => Pu.fa rfl fo45_3) ?_
   refine WS.pk 16 rfl gg (fun W hC => Pu.load (v := Ref.v xx90.to) rfl ty23 ((AtW.block (hC.2 _ (.head _)).2).drop 3) rfl) ?_
   refine WS.pk 17 rfl gg (fun W hC => Pu.fa rfl fo45_2) ?_
   refine WS.pk 18 rfl gg (fun W hC => Pu.load rfl ty9 ((AtW.block (hC.2 _ (.head _)).2).drop 2) rfl) ?_
   refine WS.one (i := 14) (by kernel_rfl) ?_
   refine WO.call 14 rfl rfl rfl (fun _ H' l => good_grew ((Le.refl _).trans l) (fun _ h => h)) en26 rfl rfl (fun W H' hs' l => c26 xx90.to xx90.space hs' (k6.to.le ((((l11.trans l20).trans l24).trans l33).trans l)) k6.space) ?_
   rintro _ H43 l44 ⟨x45, rfl, k46, e47⟩
   subst e47
   refine WS.one (i := 19) (by kernel_rfl) ?_
   refine WO.call 19 rfl rfl rfl (fun _ H' l => good_grew (l44.trans l) (fun _ h => h)) en27 rfl rfl (fun W H' hs' l => c27 xx90.to xx90.space hs' (k6.to.le (((((l11.trans l20).trans l24).trans l33).trans l44).trans l)) k6.space) ?_
   rintro _ H48 l49 ⟨x50, rfl, k51, e52⟩
   subst e52
   refine WS.pk 20 rfl (good_grew (l44.trans l49) (fun _ h => h)) (fun W hC => Pu.bin rfl rfl (eqg23 _ (m26 xx90.to xx90.space) (m27 xx90.to xx90.space)) (ne23 (m26 xx90.to xx90.space) (m27 xx90.to xx90.space))) ?_
   refine WS.pk 21 rfl (good_grew (l44.trans l49) (fun _ h => h)) (fun W hC => Pu.pickF rfl rfl) ?_
   refine WS.fin (by kernel_rfl) (fun W55 H53 st l54 => ?_)
   refine QX.thenN ?_
   refine CW.condP 47 rfl nT nF (fun h56 => ?_) (fun h56 => ?_)
   ·refine CW.seq (CW.reg (WL.as rfl (WL.nt ?_)))
    refine CW.ret (QX.thenR (finA Tryz.results5 st (.tmp rfl .nil) ?_))
    exact ⟨xx90, congrArg (fun z => Value.bool z) (Eq.symm ((if_pos h35).trans ((if_pos h39).trans (if_neg h56))))⟩
   ·refine CW.skip (QX.thenN ?_)
    refine CW.seq (CW.seq (CW.reg (WL.as rfl (WL.nt ?_))))
    refine (CW.cuts (fun (s : Unit) W => (∃ H', St w W H H' [Own.box b1 (.cells #[xx90.l.v, .int .i64 xx90.kind, .string xx90.space, .int .i64 xx90.to.kind, .string xx90.to.space, .string xx90.to.name] 45 (0, 0))] ∧ Le H53 H') ∧ m5_l0 xx90 (((xx90.l.l.length : Int) - 0).toNat) 0 = .inr ()) (fun (s : Unit) => [(1, Value.pointer (some (⟨b1, 0, none⟩ : Addr)))]) ?_ ?_)
    ·refine CW.blk (CW.loop (fun (s : Nat × Int) W => (∃ H', St w W H H' [Own.box b1 (.cells #[xx90.l.v, .int .i64 xx90.kind, .string xx90.space, .int .i64 xx90.to.kind, .string xx90.to.space, .string xx90.to.name] 45 (0, 0))] ∧ Le H53 H') ∧ 0 ≤ s.2 ∧ s.2 ≤ (xx90.l.l.length : Int) ∧ s.1 = ((xx90.l.l.length : Int) - s.2).toNat ∧ m5_l0 xx90 s.1 s.2 = m5_l0 xx90 (((xx90.l.l.length : Int) - 0).toNat) 0) (fun (s : Nat × Int) => [(1, Value.pointer (some (⟨b1, 0, none⟩ : Addr))), (7, Value.int .i64 s.2)]) (fun s => s.1) ⟨((xx90.l.l.length : Int) - 0).toNat, 0⟩ ⟨⟨_, st, Le.refl _⟩, (by first|omega|simp<;>omega), (by first|omega|simp<;>omega), rfl, rfl⟩ (.cons rfl (.cons rfl (.nil _))) ?_)
     rintro ⟨N66, r57⟩ W61 ⟨⟨H59, st, l60⟩, g83, g84, g65, e62⟩
     replace g83 : 0 ≤ r57 := g83
     replace g84 : r57 ≤ (xx90.l.l.length : Int) := g84
     replace g65 : N66 = ((xx90.l.l.length : Int) - r57).toNat := g65
     replace e62 : m5_l0 xx90 N66 r57 = m5_l0 xx90 (((xx90.l.l.length : Int) - 0).toNat) 0 := e62
     show CW _ _ _ _ [(1, Value.pointer (some (⟨b1, 0, none⟩ : Addr))), (7, Value.int .i64 r57)] _
     refine CW.seq (CW.seq (CW.reg (WL.mv rfl (WL.pv (Pu.fa rfl fo45_0) (WL.pv (Pu.load rfl ty43 (AtW.block (st.own _ (.head _)).1.2) rfl) ?_)))))
     have z67 : xx90.l.l.length ≤ 1048576 := (k6.l.le (((((((l11.trans l20).trans l24).trans l33).trans l44).trans l49).trans l54).trans l60)).top
     refine WL.pv (Pu.lens (n := xx90.l.l.length) rfl sl43) (WL.pv (Pu.ilt rfl rfl) (WL.nt ?_))
     refine CW.condP 52 rfl dT dF (fun h68 => ?_) (fun h68 => ?_)
     ·obtain ⟨n58, rfl⟩ : ∃ k, N66 = k + 1 := ⟨N66 - 1, by omega⟩
      refine CW.skip (QX.thenN ?_)
      refine CW.seq ?_
      refine CW.blk ?_
      refine CW.seq ?_
      refine CW.regS (C := Cl w H59 [Own.box b1 (.cells #[xx90.l.v, .int .i64 xx90.kind, .string xx90.space, .int .i64 xx90.to.kind, .string xx90.to.space, .string xx90.to.name] 45 (0, 0))]) (tail := []) (S := Grew w H H59 [Own.box b1 (.cells #[xx90.l.v, .int .i64 xx90.kind, .string xx90.space, .int .i64 xx90.to.kind, .string xx90.to.space, .string xx90.to.name] 45 (0, 0))]) mixed (fun W' h1 h2 h3 h4 => grew_start st h1 h2 h3 h4) (n := 25) rfl ?_
      refine WS.pk 0 rfl gg (fun W hC => Pu.fa rfl fo45_0) ?_
      refine WS.pk 1 rfl gg (fun W hC => Pu.load rfl ty43 (AtW.block (hC.2 _ (.head _)).2) rfl) ?_
      refine WS.pk 2 rfl gg (fun W hC => Pu.move rfl) ?_
      have y69 := lg_get (l := xx90.l.l) (i := r57) (by omega) (by omega)
      have k72 : Object.Ok 1048576 H59 (lg xx90.l.l r57) := ((k6.l.le (((((((l11.trans l20).trans l24).trans l33).trans l44).trans l49).trans l54).trans l60)).get _ _ y69).2
      obtain ⟨ad70, qa73, f71⟩ := ((k6.l.le (((((((l11.trans l20).trans l24).trans l33).trans l44).trans l49).trans l54).trans l60)).get _ _ y69).1
      refine WS.pk 3 rfl gg (fun W hC => Pu.idx0 rfl rfl sl43 (by first|omega|simp<;>omega) (by first|omega|simp<;>omega) qa73) ?_
      refine WS.pk 4 rfl gg (fun W hC => Pu.load (v := Object.v (lg xx90.l.l r57)) rfl ty32 (f71.w hC.1) rfl) ?_
      refine WS.pk 5 rfl gg (fun W hC => Pu.fa rfl fo45_1) ?_
      refine WS.pk 6 rfl gg (fun W hC => Pu.load rfl ty3 ((AtW.block (hC.2 _ (.head _)).2).drop 1) rfl) ?_
      refine WS.pk 7 rfl gg (fun W hC => Pu.fa rfl fo45_2) ?_
      refine WS.pk 8 rfl gg (fun W hC => Pu.load rfl ty9 ((AtW.block (hC.2 _ (.head _)).2).drop 2) rfl) ?_
      refine WS.pk 9 rfl gg (fun W hC => Pu.fa rfl fo45_3) ?_
      refine WS.pk 10 rfl gg (fun W hC => Pu.load (v := Ref.v xx90.to) rfl ty23 ((AtW.block (hC.2 _ (.head _)).2).drop 3) rfl) ?_
      refine WS.callv (by kernel_rfl) (.then (.blk (.then (.then (.blk (.then (.then .body))))))) 11 rfl (by kernel_rfl) (good_grew (Le.refl _) (fun _ h => h)) rfl rfl en17 rfl rfl (fun W hC => ⟨_, c17 (lg xx90.l.l r57) xx90.kind xx90.space xx90.to hC.1 k72 k6.space (k6.to.le (((((((l11.trans l20).trans l24).trans l33).trans l44).trans l49).trans l54).trans l60))⟩) ?_
      refine WS.pk 12 rfl gg (fun W hC => Pu.fa rfl fo45_0) ?_
      refine WS.pk 13 rfl gg (fun W hC => Pu.load rfl ty43 (AtW.block (hC.2 _ (.head _)).2) rfl) ?_
      refine WS.pk 14 rfl gg (fun W hC => Pu.move rfl) ?_
      have y74 := lg_get (l := xx90.l.l) (i := r57) (by omega) (by omega)
      have k77 : Object.Ok 1048576 H59 (lg xx90.l.l r57) := ((k6.l.le (((((((l11.trans l20).trans l24).trans l33).trans l44).trans l49).trans l54).trans l60)).get _ _ y74).2
      obtain ⟨ad75, qa78, f76⟩ := ((k6.l.le (((((((l11.trans l20).trans l24).trans l33).trans l44).trans l49).trans l54).trans l60)).get _ _ y74).1
      refine WS.pk 15 rfl gg (fun W hC => Pu.idx0 rfl rfl sl43 (by first|omega|simp<;>omega) (by first|omega|simp<;>omega) qa78) ?_
      refine WS.pk 16 rfl gg (fun W hC => Pu.load (v := Object.v (lg xx90.l.l r57)) rfl ty32 (f76.w hC.1) rfl) ?_
      refine WS.pk 17 rfl gg (fun W hC => Pu.fa rfl fo45_1) ?_
      refine WS.pk 18 rfl gg (fun W hC => Pu.load rfl ty3 ((AtW.block (hC.2 _ (.head _)).2).drop 1) rfl) ?_
      refine WS.pk 19 rfl gg (fun W hC => Pu.fa rfl fo45_2) ?_
      refine WS.pk 20 rfl gg (fun W hC => Pu.load rfl ty9 ((AtW.block (hC.2 _ (.head _)).2).drop 2) rfl) ?_
      refine WS.pk 21 rfl gg (fun W hC => Pu.fa rfl fo45_3) ?_
      refine WS.pk 22 rfl gg (fun W hC => Pu.load (v := Ref.v xx90.to) rfl ty23 ((AtW.block (hC.2 _ (.head _)).2).drop 3) rfl) ?_
      refine WS.callv (by kernel_rfl) (.then (.blk (.then (.then (.blk (.then (.then .body))))))) 23 rfl (by kernel_rfl) (good_grew (Le.refl _) (fun _ h => h)) rfl rfl en28 rfl rfl (fun W hC => ⟨_, c28 (lg xx90.l.l r57) xx90.kind xx90.space xx90.to hC.1 k77 k6.space (k6.to.le (((((((l11.trans l20).trans l24).trans l33).trans l44).trans l49).trans l54).trans l60))⟩) ?_
      refine WS.pk 24 rfl gg (fun W hC => Pu.bne rfl rfl Tryz.underlying4) ?_
      refine WS.fin (by kernel_rfl) (fun W81 H79 st l80 => ?_)
      refine QX.thenN ?_
      refine CW.condP 79 rfl mT mF (fun h82 => ?_) (fun h82 => ?_)
      ·refine CW.seq (CW.reg (WL.as rfl (WL.nt ?_)))
       refine CW.ret (QX.blkR (QX.thenR (QX.thenR (QX.blkR (QX.thenR (QX.thenR (finA Tryz.results5 st (.tmp rfl .nil) ?_)))))))
       exact ⟨xx90, congrArg (fun z => Value.bool z) (Eq.symm ((if_pos h35).trans ((if_pos h39).trans ((if_pos h56).trans (lk_inl ((Eq.symm e62).trans (if_neg h82)))))))⟩
      ·refine CW.skip (QX.blkN (QX.thenN ?_))
       refine CW.reg (WL.mv rfl (WL.pv (Pu.iadd rfl rfl (c := r57 + 1) (w64 (by omega) (by omega))) (WL.as rfl ?_)))
       refine WL.nil (QX.round ⟨n58, r57 + 1⟩ ?_ (Nat.lt_succ_self _) (.cons rfl (.cons rfl (.nil _))))
       exact ⟨⟨_, st, (l60.trans l80)⟩, (by first|omega|simp<;>omega), (by first|omega|simp<;>omega), (by first|omega|simp<;>omega), Eq.symm ((Eq.symm e62).trans (if_pos h82))⟩
     ·obtain rfl : N66 = 0 := by omega
      refine CW.exit (QX.thenE (QX.thenE (QX.hit (QX.meets () ?_ (.cons rfl (.nil _))))))
      exact ⟨⟨_, st, l60⟩, Eq.symm e62⟩
    rintro _ W87 ⟨⟨H85, st, l86⟩, e88⟩
    show QX _ _ _ [(1, Value.pointer (some (⟨b1, 0, none⟩ : Addr)))] _
    refine QX.thenN (CW.seq ?_)
    refine CW.regS (C := Cl w H85 [Own.box b1 (.cells #[xx90.l.v, .int .i64 xx90.kind, .string xx90.space, .int .i64 xx90.to.kind, .string xx90.to.space, .string xx90.to.name] 45 (0, 0))]) (tail := []) (S := Grew w H H85 [Own.box b1 (.cells #[xx90.l.v, .int .i64 xx90.kind, .string xx90.space, .int .i64 xx90.to.kind, .string xx90.to.space, .string xx90.to.name] 45 (0, 0))]) mixed (fun W' h1 h2 h3 h4 => grew_start st h1 h2 h3 h4) (n := 44) rfl ?_
    refine WS.pk 0 rfl gg (fun W hC => Pu.fa rfl fo45_0) ?_
    refine WS.pk 1 rfl gg (fun W hC => Pu.load rfl ty43 (AtW.block (hC.2 _ (.head _)).2) rfl) ?_
    refine WS.pk 2 rfl gg (fun W hC => Pu.fa rfl fo45_1) ?_
    refine WS.pk 3 rfl gg (fun W hC => Pu.load rfl ty3 ((AtW.block (hC.2 _ (.head _)).2).drop 1) rfl) ?_
    refine WS.pk 4 rfl gg (fun W hC => Pu.fa rfl fo45_2) ?_
    refine WS.pk 5 rfl gg (fun W hC => Pu.load rfl ty9 ((AtW.block (hC.2 _ (.head _)).2).drop 2) rfl) ?_
    refine WS.pk 6 rfl gg (fun W hC => Pu.fa rfl fo45_3) ?_
    refine WS.pk 7 rfl gg (fun W hC => Pu.load (v := Ref.v xx90.to) rfl ty23 ((AtW.block (hC.2 _ (.head _)).2).drop 3) rfl) ?_
    refine WS.callv (by kernel_rfl) (.then .body) 8 rfl (by kernel_rfl) (good_grew (Le.refl _) (fun _ h => h)) rfl rfl en22 rfl rfl (fun W hC => ⟨_, c22 xx90.l xx90.kind xx90.space xx90.to hC.1 (k6.l.le (((((((l11.trans l20).trans l24).trans l33).trans l44).trans l49).trans l54).trans l86)) k6.space (k6.to.le (((((((l11.trans l20).trans l24).trans l33).trans l44).trans l49).trans l54).trans l86))⟩) ?_
    refine WS.pk 9 rfl gg (fun W hC => Pu.fa rfl fo45_0) ?_
    refine WS.pk 10 rfl gg (fun W hC => Pu.load rfl ty43 (AtW.block (hC.2 _ (.head _)).2) rfl) ?_
    refine WS.pk 11 rfl gg (fun W hC => Pu.fa rfl fo45_1) ?_
    refine WS.pk 12 rfl gg (fun W hC => Pu.load rfl ty3 ((AtW.block (hC.2 _ (.head _)).2).drop 1) rfl) ?_
    refine WS.pk 13 rfl gg (fun W hC => Pu.fa rfl fo45_2) ?_
    refine WS.pk 14 rfl gg (fun W hC => Pu.load rfl ty9 ((AtW.block (hC.2 _ (.head _)).2).drop 2) rfl) ?_
    refine WS.pk 15 rfl gg (fun W hC => Pu.fa rfl fo45_3) ?_
    refine WS.pk 16 rfl gg (fun W hC => Pu.load (v := Ref.v xx90.to) rfl ty23 ((AtW.block (hC.2 _ (.head _)).2).drop 3) rfl) ?_
    refine WS.callv (by kernel_rfl) (.then .body) 17 rfl (by kernel_rfl) (good_grew (Le.refl _) (fun _ h => h)) rfl rfl en29 rfl rfl (fun W hC => ⟨_, c29 xx90.l xx90.kind xx90.space xx90.to hC.1 (k6.l.le (((((((l11.trans l20).trans l24).trans l33).trans l44).trans l49).trans l54).trans l86)) k6.space (k6.to.le (((((((l11.trans l20).trans l24).trans l33).trans l44).trans l49).trans l54).trans l86))⟩) ?_
    refine WS.pk 18 rfl gg (fun W hC => Pu.beq rfl rfl Tryz.underlying4) ?_
    refine WS.pk 19 rfl gg (fun W hC => Pu.move rfl) ?_
    refine WS.split 99 rfl rT rF (fun h89 => ?_) (fun h89 => ?_)
    ·refine WS.pk 20 rfl gg (fun W hC => Pu.fa rfl fo45_0) ?_
     refine WS.pk 21 rfl gg (fun W hC => Pu.load rfl ty43 (AtW.block (hC.2 _ (.head _)).2) rfl) ?_
     refine WS.pk 22 rfl gg (fun W hC => Pu.fa rfl fo45_1) ?_
     refine WS.pk 23 rfl gg (fun W hC => Pu.load rfl ty3 ((AtW.block (hC.2 _ (.head _)).2).drop 1) rfl) ?_
     refine WS.pk 24 rfl gg (fun W hC => Pu.fa rfl fo45_2) ?_
     refine WS.pk 25 rfl gg (fun W hC => Pu.load rfl ty9 ((AtW.block (hC.2 _ (.head _)).2).drop 2) rfl) ?_
     refine WS.pk 26 rfl gg (fun W hC => Pu.fa rfl fo45_3) ?_
     refine WS.pk 27 rfl gg (fun W hC => Pu.load (v := Ref.v xx90.to) rfl ty23 ((AtW.block (hC.2 _ (.head _)).2).drop 3) rfl) ?_
     refine WS.pk 29 rfl gg (fun W hC => Pu.fa rfl fo45_0) ?_
     refine WS.pk 30 rfl gg (fun W hC => Pu.load rfl ty43 (AtW.block (hC.2 _ (.head _)).2) rfl) ?_
     refine WS.pk 31 rfl gg (fun W hC => Pu.fa rfl fo45_1) ?_
     refine WS.pk 32 rfl gg (fun W hC => Pu.load rfl ty3 ((AtW.block (hC.2 _ (.head _)).2).drop 1) rfl) ?_
     refine WS.pk 33 rfl gg (fun W hC => Pu.fa rfl fo45_2) ?_
     refine WS.pk 34 rfl gg (fun W hC => Pu.load rfl ty9 ((AtW.block (hC.2 _ (.head _)).2).drop 2) rfl) ?_
     refine WS.pk 35 rfl gg (fun W hC => Pu.fa rfl fo45_3) ?_
     refine WS.pk 36 rfl gg (fun W hC => Pu.load (v := Ref.v xx90.to) rfl ty23 ((AtW.block (hC.2 _ (.head _)).2).drop 3) rfl) ?_
     refine WS.one (i := 28) (by kernel_rfl) ?_
     refine WO.call 28 rfl rfl rfl (fun _ H' l => good_grew ((Le.refl _).trans l) (fun _ h => h)) en21 rfl rfl (fun W H' hs' l => c21 xx90.l xx90.kind xx90.space xx90.to hs' (k6.l.le ((((((((l11.trans l20).trans l24).trans l33).trans l44).trans l49).trans l54).trans l86).trans l)) k6.space (k6.to.le ((((((((l11.trans l20).trans l24).trans l33).trans l44).trans l49).trans l54).trans l86).trans l))) ?_
     rintro _ H90 l91 ⟨⟨A95, n96, x92⟩, rfl, k93, e94⟩
     subst e94
     refine WS.one (i := 37) (by kernel_rfl) ?_
     refine WO.call 37 rfl rfl rfl (fun _ H' l => good_grew (l91.trans l) (fun _ h => h)) en31 rfl rfl (fun W H' hs' l => c31 xx90.l xx90.kind xx90.space xx90.to hs' (k6.l.le (((((((((l11.trans l20).trans l24).trans l33).trans l44).trans l49).trans l54).trans l86).trans l91).trans l)) k6.space (k6.to.le (((((((((l11.trans l20).trans l24).trans l33).trans l44).trans l49).trans l54).trans l86).trans l91).trans l))) ?_
     rintro _ H97 l98 ⟨⟨A102, n103, x99⟩, rfl, k100, e101⟩
     subst e101
     refine WS.one (i := 38) (by kernel_rfl) ?_
     refine WO.call 38 rfl rfl rfl (fun _ H' l => good_grew ((l91.trans l98).trans l) (fun _ h => h)) en30 rfl rfl (fun W H' hs' l => c30 (⟨A95, n96, m21 xx90.l.l xx90.kind xx90.space xx90.to⟩ : Sl Ref) (⟨A102, n103, m31 xx90.l.l xx90.kind xx90.space xx90.to⟩ : Sl Ref) hs' (k93.le (l98.trans l)) (k100.le l)) ?_
     rintro _ H104 l105 rfl
     refine WS.pk 39 rfl (good_grew ((l91.trans l98).trans l105) (fun _ h => h)) (fun W hC => Pu.pickT rfl rfl) ?_
     refine WS.pk 40 rfl (good_grew ((l91.trans l98).trans l105) (fun _ h => h)) (fun W hC => Pu.move rfl) ?_
     refine WS.split 120 rfl rT rF (fun h106 => ?_) (fun h106 => ?_)
     ·refine WS.callv (by kernel_rfl) (.then .body) 41 rfl (by kernel_rfl) (good_grew ((l91.trans l98).trans l105) (fun _ h => h)) rfl rfl en19 rfl rfl (fun W hC => ⟨_, c19  hC.1 ⟩) ?_
      refine WS.pk 42 rfl (good_grew ((l91.trans l98).trans l105) (fun _ h => h)) (fun W hC => Pu.pickT rfl rfl) ?_
      refine WS.pk 43 rfl (good_grew ((l91.trans l98).trans l105) (fun _ h => h)) (fun W hC => Pu.assign rfl) ?_
      refine WS.fin (by kernel_rfl) (fun W109 H107 st l108 => ?_)
      refine QX.thenN ?_
      refine CW.ret (finA Tryz.results5 st (.tmp rfl .nil) ?_)
      exact ⟨xx90, congrArg (fun z => Value.bool z) (Eq.symm ((if_pos h35).trans ((if_pos h39).trans ((if_pos h56).trans ((lk_inr e88).trans ((if_pos h89).trans (if_pos h106)))))))⟩
     ·refine WS.ok 41 rfl (good_grew ((l91.trans l98).trans l105) (fun _ h => h)) ?_
      refine WS.pk 42 rfl (good_grew ((l91.trans l98).trans l105) (fun _ h => h)) (fun W hC => Pu.pickF rfl rfl) ?_
      refine WS.pk 43 rfl (good_grew ((l91.trans l98).trans l105) (fun _ h => h)) (fun W hC => Pu.assign rfl) ?_
      refine WS.fin (by kernel_rfl) (fun W112 H110 st l111 => ?_)
      refine QX.thenN ?_
      refine CW.ret (finA Tryz.results5 st (.tmp rfl .nil) ?_)
      exact ⟨xx90, congrArg (fun z => Value.bool z) (Eq.symm ((if_pos h35).trans ((if_pos h39).trans ((if_pos h56).trans ((lk_inr e88).trans ((if_pos h89).trans (if_neg h106)))))))⟩
    ·refine WS.ok 20 rfl gg ?_
     refine WS.ok 21 rfl gg ?_
     refine WS.ok 22 rfl gg ?_
     refine WS.ok 23 rfl gg ?_
     refine WS.ok 24 rfl gg ?_
     refine WS.ok 25 rfl gg ?_
     refine WS.ok 26 rfl gg ?_
     refine WS.ok 27 rfl gg ?_
     refine WS.ok 28 rfl gg ?_
     refine WS.ok 29 rfl gg ?_
     refine WS.ok 30 rfl gg ?_
     refine WS.ok 31 rfl gg ?_
     refine WS.ok 32 rfl gg ?_
     refine WS.ok 33 rfl gg ?_
     refine WS.ok 34 rfl gg ?_
     refine WS.ok 35 rfl gg ?_
     refine WS.ok 36 rfl gg ?_
     refine WS.ok 37 rfl gg ?_
     refine WS.ok 38 rfl gg ?_
     refine WS.pk 39 rfl gg (fun W hC => Pu.pickF rfl rfl) ?_
     refine WS.pk 40 rfl gg (fun W hC => Pu.move rfl) ?_
     refine WS.ok 41 rfl gg ?_
     refine WS.pk 42 rfl gg (fun W hC => Pu.pickF rfl rfl) ?_
     refine WS.pk 43 rfl gg (fun W hC => Pu.assign rfl) ?_
     refine WS.fin (by kernel_rfl) (fun W115 H113 st l114 => ?_)
     refine QX.thenN ?_
     refine CW.ret (finA Tryz.results5 st (.tmp rfl .nil) ?_)
     exact ⟨xx90, congrArg (fun z => Value.bool z) (Eq.symm ((if_pos h35).trans ((if_pos h39).trans ((if_pos h56).trans ((lk_inr e88).trans (if_neg h89))))))⟩
end Go.Proofs.TB
