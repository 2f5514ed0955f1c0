import Derived.Test.YtmfnlloabaoagaaGreatDoorGA1
import Derived.Test.YtmfnlloabaoagaaGreatDoorProg
import Derived.KernelRfl
set_option linter.unusedVariables false
set_option maxRecDepth 100000
namespace Go.Proofs.TB
open Go.RowKit
/-! toll tollref09.May -/
def m18_l0 (a0 : Object) : Nat → Bool → Int → Bool
 | 0, r27, _ => r27
 | n29 + 1, r27, r28 => if r27 = true then (if (m84 (lg a0.ports.l r28)) = true then (if r28 = 0 then (m18_l0 a0 n29 true (r28 + 1)) else m18_l0 a0 n29 (decide ((lg a0.ports.l (r28 - 1)) < lg a0.ports.l r28)) (r28 + 1)) else m18_l0 a0 n29 false (r28 + 1)) else m18_l0 a0 n29 false (r28 + 1)
def m18_l1 (a0 : Object) : Nat → Bool → Int → Bool
 | 0, r79, _ => r79
 | n81 + 1, r79, r80 => if r79 = true then (if (m84 (lg a0.ports.l r80)) = true then (if r80 = 0 then (m18_l1 a0 n81 true (r80 + 1)) else m18_l1 a0 n81 (decide ((lg a0.ports.l (r80 - 1)) < lg a0.ports.l r80)) (r80 + 1)) else m18_l1 a0 n81 false (r80 + 1)) else m18_l1 a0 n81 false (r80 + 1)
def m18 (a0 : Object) : Bool :=
 if (m82 a0.ref) = true then (if a0.ref.kind = 1 then (m25 (⟨a0.ref, a0.good, (Sl.nil : Sl Pair), (Sl.nil : Sl Int), (⟨#[]⟩ : ByteArray), (Sl.nil : Sl Listener), (Sl.nil : Sl Parent), (Sl.nil : Sl ByteArray), (Sl.nil : Sl Rule), (Sl.nil : Sl Side), (Sl.nil : Sl Side)⟩ : Object) a0) else if a0.ref.kind = 4 then (m25 (⟨a0.ref, a0.good, (Sl.nil : Sl Pair), (Sl.nil : Sl Int), (⟨#[]⟩ : ByteArray), (Sl.nil : Sl Listener), (Sl.nil : Sl Parent), (Sl.nil : Sl ByteArray), (Sl.nil : Sl Rule), (Sl.nil : Sl Side), (Sl.nil : Sl Side)⟩ : Object) a0) else if a0.ref.kind = 2 then (if (m83 a0.labels.l) = true then (m25 (⟨a0.ref, false, a0.labels, (Sl.nil : Sl Int), (⟨#[]⟩ : ByteArray), (Sl.nil : Sl Listener), (Sl.nil : Sl Parent), (Sl.nil : Sl ByteArray), (Sl.nil : Sl Rule), (Sl.nil : Sl Side), (Sl.nil : Sl Side)⟩ : Object) a0) else false) else if a0.ref.kind = 3 then (if (1 : Int) ≤ (a0.ports.l.length : Int) then (lk1 (m18_l0 a0 (((a0.ports.l.length : Int) - 0).toNat) (decide ((a0.ports.l.length : Int) ≤ 8)) 0) (fun r30 => if r30 = true then (m25 (⟨a0.ref, false, (Sl.nil : Sl Pair), a0.ports, (⟨#[]⟩ : ByteArray), (Sl.nil : Sl Listener), (Sl.nil : Sl Parent), (Sl.nil : Sl ByteArray), (Sl.nil : Sl Rule), (Sl.nil : Sl Side), (Sl.nil : Sl Side)⟩ : Object) a0) else false)) else lk1 (m18_l1 a0 (((a0.ports.l.length : Int) - 0).toNat) false 0) (fun r82 => if r82 = true then (m25 (⟨a0.ref, false, (Sl.nil : Sl Pair), a0.ports, (⟨#[]⟩ : ByteArray), (Sl.nil : Sl Listener), (Sl.nil : Sl Parent), (Sl.nil : Sl ByteArray), (Sl.nil : Sl Rule), (Sl.nil : Sl Side), (Sl.nil : Sl Side)⟩ : Object) a0) else false)) else if a0.ref.kind = 5 then (if (m85 a0) = true then (m25 (⟨a0.ref, false, (Sl.nil : Sl Pair), (Sl.nil : Sl Int), a0.cls, a0.listeners, (Sl.nil : Sl Parent), (Sl.nil : Sl ByteArray), (Sl.nil : Sl Rule), (Sl.nil : Sl Side), (Sl.nil : Sl Side)⟩ : Object) a0) else false) else if a0.ref.kind = 6 then (if (m86 a0) = true then (m25 (⟨a0.ref, false, (Sl.nil : Sl Pair), (Sl.nil : Sl Int), (⟨#[]⟩ : ByteArray), (Sl.nil : Sl Listener), a0.parents, a0.hosts, a0.rules, (Sl.nil : Sl Side), (Sl.nil : Sl Side)⟩ : Object) a0) else false) else if a0.ref.kind = 7 then (if (m87 a0) = true then (m25 (⟨a0.ref, false, (Sl.nil : Sl Pair), (Sl.nil : Sl Int), (⟨#[]⟩ : ByteArray), (Sl.nil : Sl Listener), (Sl.nil : Sl Parent), (Sl.nil : Sl ByteArray), (Sl.nil : Sl Rule), a0.frm, a0.to⟩ : Object) a0) else false) else m25 (⟨a0.ref, false, (Sl.nil : Sl Pair), (Sl.nil : Sl Int), (⟨#[]⟩ : ByteArray), (Sl.nil : Sl Listener), (Sl.nil : Sl Parent), (Sl.nil : Sl ByteArray), (Sl.nil : Sl Rule), (Sl.nil : Sl Side), (Sl.nil : Sl Side)⟩ : Object) a0) else false
theorem c18 (a0 : Object) {w : World} {H : PH} (hs : Sub H w) (k0p : Object.Ok 1048576 H a0) : Spec Tryz.prog 18 [Object.v a0].toArray w H (fun _ v => v = .bool (m18 a0)) := by
 refine Spec.enter Tryz.func18 rfl Tryz.ntmps18 rfl ?_
 have st := St.start hs
 refine CW.seq (CW.reg ?_)
 refine WL.box rfl rfl rfl rfl st ?_
 intro b1 W2 H3 st l4 f5
 refine WL.as rfl (WL.nt (CW.seq (CW.seq (CW.reg (WL.pv (Pu.fa rfl fo32_0) (WL.pv (Pu.load (v := Ref.v a0.ref) rfl ty23 ((f5.drop 0).w st.sub) rfl) ?_))))))
 refine WL.callv rfl rfl en82 rfl rfl st (c82 a0.ref st.sub (k0p.ref.le l4)) ?_
 intro W6 st
 refine WL.pv (Pu.notb rfl) (WL.nt ?_)
 refine CW.condP 9 rfl mT mF (fun h7 => ?_) (fun h7 => ?_)
 ·refine CW.seq (CW.reg (WL.as rfl (WL.nt ?_)))
  refine CW.ret (QX.thenR (finA Tryz.results18 st (.tmp rfl .nil) ?_))
  exact vb (if_neg h7)
 ·refine CW.skip (QX.thenN ?_)
  refine CW.seq (CW.reg (WL.pv (Pu.fa rfl fo32_0) (WL.pv (Pu.load (v := Ref.v a0.ref) rfl ty23 ((f5.drop 0).w st.sub) rfl) (WL.pv (Pu.buildL (cs := Object.c (⟨a0.ref, false, (Sl.nil : Sl Pair), (Sl.nil : Sl Int), (⟨#[]⟩ : ByteArray), (Sl.nil : Sl Listener), (Sl.nil : Sl Parent), (Sl.nil : Sl ByteArray), (Sl.nil : Sl Rule), (Sl.nil : Sl Side), (Sl.nil : Sl Side)⟩ : Object)) st32 rfl rfl rfl) ?_))))
  refine WL.alloco (c := #[.int .i64 0, .string (⟨#[]⟩ : ByteArray), .string (⟨#[]⟩ : ByteArray), .bool false, .slice none 0 0, .slice none 0 0, .string (⟨#[]⟩ : ByteArray), .slice none 0 0, .slice none 0 0, .slice none 0 0, .slice none 0 0, .slice none 0 0, .slice none 0 0]) rfl rfl ze32 rfl st ?_
  intro b8 W9 st
  refine WL.store (o := 0) (c' := [.int .i64 a0.ref.kind, .string a0.ref.space, .string a0.ref.name, .bool false, .slice none 0 0, .slice none 0 0, .string (⟨#[]⟩ : ByteArray), .slice none 0 0, .slice none 0 0, .slice none 0 0, .slice none 0 0, .slice none 0 0, .slice none 0 0]) rfl rfl rfl rfl ty32 rfl (Enc.one (α := Object) _) rfl rfl st ?_
  intro W10 st
  refine WL.nt (CW.seq (CW.reg (WL.as rfl (WL.nt (CW.seq (CW.seq (CW.reg (WL.pv (Pu.fa rfl fo32_0) (WL.pv (Pu.fa rfl fo23_0) ?_)))))))))
  refine WL.pv (Pu.load rfl ty3 (((f5.drop 0).drop 0).w st.sub) rfl) (WL.nt ?_)
  refine CW.blk ?_
  refine CW.seq (CW.seq (CW.reg (WL.pv (Pu.ieq rfl rfl) (WL.as rfl (WL.nt ?_)))))
  refine CW.condP 16 rfl dT dF (fun h11 => ?_) (fun h11 => ?_)
  ·refine CW.skip (QX.thenN ?_)
   refine CW.condT rfl ?_
   refine CW.reg (WL.pv (Pu.fa rfl fo32_1) (WL.pv (Pu.load rfl ty4 ((f5.drop 3).w st.sub) rfl) (WL.pv (Pu.fa rfl fo32_1) ?_)))
   refine WL.store (o := 3) (c' := [.int .i64 a0.ref.kind, .string a0.ref.space, .string a0.ref.name, .bool a0.good, .slice none 0 0, .slice none 0 0, .string (⟨#[]⟩ : ByteArray), .slice none 0 0, .slice none 0 0, .slice none 0 0, .slice none 0 0, .slice none 0 0, .slice none 0 0]) rfl rfl rfl rfl ty4 rfl (one1 rfl rfl) rfl rfl st ?_
   intro W12 st
   refine WL.nil (QX.blkN (QX.thenN ?_))
   refine CW.seq (CW.reg (WL.mv rfl (WL.mv rfl (WL.pv (Pu.load (v := Object.v (⟨a0.ref, a0.good, (Sl.nil : Sl Pair), (Sl.nil : Sl Int), (⟨#[]⟩ : ByteArray), (Sl.nil : Sl Listener), (Sl.nil : Sl Parent), (Sl.nil : Sl ByteArray), (Sl.nil : Sl Rule), (Sl.nil : Sl Side), (Sl.nil : Sl Side)⟩ : Object)) rfl ty32 (AtW.block (st.own _ (.head _)).1.2) rfl) (WL.pv (Pu.load (v := Object.v a0) rfl ty32 (f5.w st.sub) rfl) ?_)))))
   refine WL.callv rfl rfl en25 rfl rfl st (c25 (⟨a0.ref, a0.good, (Sl.nil : Sl Pair), (Sl.nil : Sl Int), (⟨#[]⟩ : ByteArray), (Sl.nil : Sl Listener), (Sl.nil : Sl Parent), (Sl.nil : Sl ByteArray), (Sl.nil : Sl Rule), (Sl.nil : Sl Side), (Sl.nil : Sl Side)⟩ : Object) a0 st.sub ⟨(k0p.ref.le l4), Sl.Ok.nil, Sl.Ok.nil, (by first|omega|simp<;>omega), Sl.Ok.nil, Sl.Ok.nil, Sl.Ok.nil, Sl.Ok.nil, Sl.Ok.nil, Sl.Ok.nil⟩ (k0p.le l4)) ?_
   intro W13 st
   refine WL.pv (Pu.pickT rfl rfl) (WL.as rfl (WL.nt ?_))
   refine CW.ret (finA Tryz.results18 st (.tmp rfl .nil) ?_)
   exact vb ((if_pos h7).trans (if_pos h11))
  ·refine CW.reg (WL.pv (Pu.ieq rfl rfl) (WL.as rfl (WL.nt ?_)))
   refine CW.condP 16 rfl dT dF (fun h14 => ?_) (fun h14 => ?_)
   ·refine CW.reg (WL.pv (Pu.fa rfl fo32_1) (WL.pv (Pu.load rfl ty4 ((f5.drop 3).w st.sub) rfl) (WL.pv (Pu.fa rfl fo32_1) ?_)))
    refine WL.store (o := 3) (c' := [.int .i64 a0.ref.kind, .string a0.ref.space, .string a0.ref.name, .bool a0.good, .slice none 0 0, .slice none 0 0, .string (⟨#[]⟩ : ByteArray), .slice none 0 0, .slice none 0 0, .slice none 0 0, .slice none 0 0, .slice none 0 0, .slice none 0 0]) rfl rfl rfl rfl ty4 rfl (one1 rfl rfl) rfl rfl st ?_
    intro W15 st
    refine WL.nil (QX.blkN (QX.thenN ?_))
    refine CW.seq (CW.reg (WL.mv rfl (WL.mv rfl (WL.pv (Pu.load (v := Object.v (⟨a0.ref, a0.good, (Sl.nil : Sl Pair), (Sl.nil : Sl Int), (⟨#[]⟩ : ByteArray), (Sl.nil : Sl Listener), (Sl.nil : Sl Parent), (Sl.nil : Sl ByteArray), (Sl.nil : Sl Rule), (Sl.nil : Sl Side), (Sl.nil : Sl Side)⟩ : Object)) rfl ty32 (AtW.block (st.own _ (.head _)).1.2) rfl) (WL.pv (Pu.load (v := Object.v a0) rfl ty32 (f5.w st.sub) rfl) ?_)))))
    refine WL.callv rfl rfl en25 rfl rfl st (c25 (⟨a0.ref, a0.good, (Sl.nil : Sl Pair), (Sl.nil : Sl Int), (⟨#[]⟩ : ByteArray), (Sl.nil : Sl Listener), (Sl.nil : Sl Parent), (Sl.nil : Sl ByteArray), (Sl.nil : Sl Rule), (Sl.nil : Sl Side), (Sl.nil : Sl Side)⟩ : Object) a0 st.sub ⟨(k0p.ref.le l4), Sl.Ok.nil, Sl.Ok.nil, (by first|omega|simp<;>omega), Sl.Ok.nil, Sl.Ok.nil, Sl.Ok.nil, Sl.Ok.nil, Sl.Ok.nil, Sl.Ok.nil⟩ (k0p.le l4)) ?_
    intro W16 st
    refine WL.pv (Pu.pickT rfl rfl) (WL.as rfl (WL.nt ?_))
    refine CW.ret (finA Tryz.results18 st (.tmp rfl .nil) ?_)
    exact vb ((if_pos h7).trans ((if_neg h11).trans (if_pos h14)))
   ·refine CW.seq (CW.reg (WL.pv (Pu.ieq rfl rfl) (WL.as rfl (WL.nt ?_))))
    refine CW.condP 22 rfl dT dF (fun h17 => ?_) (fun h17 => ?_)
    ·refine CW.seq (CW.reg (WL.pv (Pu.fa rfl fo32_2) (WL.pv (Pu.load rfl ty24 ((f5.drop 4).w st.sub) rfl) (WL.pv (Pu.fa rfl fo32_2) ?_))))
     refine WL.store (o := 4) (c' := [.int .i64 a0.ref.kind, .string a0.ref.space, .string a0.ref.name, .bool false, a0.labels.v, .slice none 0 0, .string (⟨#[]⟩ : ByteArray), .slice none 0 0, .slice none 0 0, .slice none 0 0, .slice none 0 0, .slice none 0 0, .slice none 0 0]) rfl rfl rfl rfl ty24 rfl (one1 rfl rfl) rfl rfl st ?_
     intro W18 st
     refine WL.nt (CW.reg (WL.pv (Pu.fa rfl fo32_2) (WL.pv (Pu.load rfl ty24 ((f5.drop 4).w st.sub) rfl) ?_)))
     refine WL.callv rfl rfl en83 rfl rfl st (c83 a0.labels st.sub (k0p.labels.le l4)) ?_
     intro W19 st
     refine WL.as rfl ?_
     refine WL.nil (QX.blkN (QX.thenN ?_))
     refine CW.seq (CW.reg (WL.mv rfl (WL.mv rfl ?_)))
     refine WL.splitP 113 rfl rT rF (fun h20 => ?_) (fun h20 => ?_)
     ·refine WL.pv (Pu.load (v := Object.v (⟨a0.ref, false, a0.labels, (Sl.nil : Sl Int), (⟨#[]⟩ : ByteArray), (Sl.nil : Sl Listener), (Sl.nil : Sl Parent), (Sl.nil : Sl ByteArray), (Sl.nil : Sl Rule), (Sl.nil : Sl Side), (Sl.nil : Sl Side)⟩ : Object)) rfl ty32 (AtW.block (st.own _ (.head _)).1.2) rfl) (WL.pv (Pu.load (v := Object.v a0) rfl ty32 (f5.w st.sub) rfl) ?_)
      refine WL.callv rfl rfl en25 rfl rfl st (c25 (⟨a0.ref, false, a0.labels, (Sl.nil : Sl Int), (⟨#[]⟩ : ByteArray), (Sl.nil : Sl Listener), (Sl.nil : Sl Parent), (Sl.nil : Sl ByteArray), (Sl.nil : Sl Rule), (Sl.nil : Sl Side), (Sl.nil : Sl Side)⟩ : Object) a0 st.sub ⟨(k0p.ref.le l4), (k0p.labels.le l4), Sl.Ok.nil, (by first|omega|simp<;>omega), Sl.Ok.nil, Sl.Ok.nil, Sl.Ok.nil, Sl.Ok.nil, Sl.Ok.nil, Sl.Ok.nil⟩ (k0p.le l4)) ?_
      intro W21 st
      refine WL.pv (Pu.pickT rfl rfl) (WL.as rfl (WL.nt ?_))
      refine CW.ret (finA Tryz.results18 st (.tmp rfl .nil) ?_)
      exact vb ((if_pos h7).trans ((if_neg h11).trans ((if_neg h14).trans ((if_pos h17).trans (if_pos h20)))))
     ·refine WL.of (WL.of (WL.of (WL.pv (Pu.pickF rfl rfl) (WL.as rfl (WL.nt ?_)))))
      refine CW.ret (finA Tryz.results18 st (.tmp rfl .nil) ?_)
      exact vb ((if_pos h7).trans ((if_neg h11).trans ((if_neg h14).trans ((if_pos h17).trans (if_neg h20)))))
    ·refine CW.seq (CW.reg (WL.pv (Pu.ieq rfl rfl) (WL.as rfl (WL.nt ?_))))
     refine CW.condP 30 rfl dT dF (fun h22 => ?_) (fun h22 => ?_)
     ·refine CW.seq (CW.reg (WL.pv (Pu.fa rfl fo32_3) (WL.pv (Pu.load rfl ty25 ((f5.drop 5).w st.sub) rfl) (WL.pv (Pu.fa rfl fo32_3) ?_))))
      refine WL.store (o := 5) (c' := [.int .i64 a0.ref.kind, .string a0.ref.space, .string a0.ref.name, .bool false, .slice none 0 0, a0.ports.v, .string (⟨#[]⟩ : ByteArray), .slice none 0 0, .slice none 0 0, .slice none 0 0, .slice none 0 0, .slice none 0 0, .slice none 0 0]) rfl rfl rfl rfl ty25 rfl (one1 rfl rfl) rfl rfl st ?_
      intro W23 st
      refine WL.nt (CW.seq (CW.reg (WL.pv (Pu.fa rfl fo32_3) (WL.pv (Pu.load rfl ty25 ((f5.drop 5).w st.sub) rfl) ?_))))
      have z24 : a0.ports.l.length ≤ 1048576 := (k0p.ports.le l4).top
      refine WL.pv (Pu.lens (n := a0.ports.l.length) rfl sl25) (WL.pv (Pu.ile rfl rfl) (WL.mv rfl ?_))
      refine WL.splitP 39 rfl dT dF (fun h25 => ?_) (fun h25 => ?_)
      ·refine WL.pv (Pu.fa rfl fo32_3) (WL.pv (Pu.load rfl ty25 ((f5.drop 5).w st.sub) rfl) ?_)
       have z26 : a0.ports.l.length ≤ 1048576 := (k0p.ports.le l4).top
       refine WL.pv (Pu.lens (n := a0.ports.l.length) rfl sl25) (WL.pv (Pu.ile rfl rfl) (WL.pv (Pu.pickT rfl rfl) (WL.as rfl (WL.nt (CW.seq (CW.reg (WL.as rfl (WL.nt ?_))))))))
       refine (CW.cuts (fun (s : Bool) W => (∃ H', St w W H H' [Own.box b8 (.cells #[.int .i64 a0.ref.kind, .string a0.ref.space, .string a0.ref.name, .bool false, .slice none 0 0, a0.ports.v, .string (⟨#[]⟩ : ByteArray), .slice none 0 0, .slice none 0 0, .slice none 0 0, .slice none 0 0, .slice none 0 0, .slice none 0 0] 32 (0, 0))] ∧ Le H3 H') ∧ m18_l0 a0 (((a0.ports.l.length : Int) - 0).toNat) (decide ((a0.ports.l.length : Int) ≤ 8)) 0 = s) (fun (s : Bool) => [(1, Value.pointer (some (⟨b1, 0, none⟩ : Addr))), (3, Value.pointer (some (⟨b8, 0, none⟩ : Addr))), (4, Value.bool s)]) ?_ ?_)
       ·refine CW.blk (CW.loop (fun (s : Nat × Bool × Int) W => (∃ H', St w W H H' [Own.box b8 (.cells #[.int .i64 a0.ref.kind, .string a0.ref.space, .string a0.ref.name, .bool false, .slice none 0 0, a0.ports.v, .string (⟨#[]⟩ : ByteArray), .slice none 0 0, .slice none 0 0, .slice none 0 0, .slice none 0 0, .slice none 0 0, .slice none 0 0] 32 (0, 0))] ∧ Le H3 H') ∧ 0 ≤ s.2.2 ∧ s.2.2 ≤ (a0.ports.l.length : Int) ∧ s.1 = ((a0.ports.l.length : Int) - s.2.2).toNat ∧ m18_l0 a0 s.1 s.2.1 s.2.2 = m18_l0 a0 (((a0.ports.l.length : Int) - 0).toNat) (decide ((a0.ports.l.length : Int) ≤ 8)) 0) (fun (s : Nat × Bool × Int) => [(1, Value.pointer (some (⟨b1, 0, none⟩ : Addr))), (3, Value.pointer (some (⟨b8, 0, none⟩ : Addr))), (4, Value.bool s.2.1), (5, Value.int .i64 s.2.2)]) (fun s => s.1) ⟨((a0.ports.l.length : Int) - 0).toNat, decide ((a0.ports.l.length : Int) ≤ 8), 0⟩ ⟨⟨_, st, Le.refl _⟩, (by first|omega|simp<;>omega), (by first|omega|simp<;>omega), rfl, rfl⟩ (.cons rfl (.cons rfl (.cons rfl (.cons rfl (.nil _))))) ?_)
        rintro ⟨N38, r27, r28⟩ W33 ⟨⟨H31, st, l32⟩, g71, g72, g37, e34⟩
        replace g71 : 0 ≤ r28 := g71
        replace g72 : r28 ≤ (a0.ports.l.length : Int) := g72
        replace g37 : N38 = ((a0.ports.l.length : Int) - r28).toNat := g37
        replace e34 : m18_l0 a0 N38 r27 r28 = m18_l0 a0 (((a0.ports.l.length : Int) - 0).toNat) (decide ((a0.ports.l.length : Int) ≤ 8)) 0 := e34
        show CW _ _ _ _ [(1, Value.pointer (some (⟨b1, 0, none⟩ : Addr))), (3, Value.pointer (some (⟨b8, 0, none⟩ : Addr))), (4, Value.bool r27), (5, Value.int .i64 r28)] _
        refine CW.seq (CW.seq (CW.reg (WL.mv rfl (WL.pv (Pu.fa rfl fo32_3) (WL.pv (Pu.load rfl ty25 (((f5.le l32).drop 5).w st.sub) rfl) ?_)))))
        have z39 : a0.ports.l.length ≤ 1048576 := (k0p.ports.le (l4.trans l32)).top
        refine WL.pv (Pu.lens (n := a0.ports.l.length) rfl sl25) (WL.pv (Pu.ilt rfl rfl) (WL.nt ?_))
        refine CW.condP 49 rfl dT dF (fun h40 => ?_) (fun h40 => ?_)
        ·obtain ⟨n29, rfl⟩ : ∃ k, N38 = k + 1 := ⟨N38 - 1, by omega⟩
         refine CW.skip (QX.thenN ?_)
         refine CW.seq ?_
         refine CW.blk ?_
         refine CW.regS (C := Cl w H31 [Own.box b8 (.cells #[.int .i64 a0.ref.kind, .string a0.ref.space, .string a0.ref.name, .bool false, .slice none 0 0, a0.ports.v, .string (⟨#[]⟩ : ByteArray), .slice none 0 0, .slice none 0 0, .slice none 0 0, .slice none 0 0, .slice none 0 0, .slice none 0 0] 32 (0, 0))]) (tail := []) (S := Grew w H H31 [Own.box b8 (.cells #[.int .i64 a0.ref.kind, .string a0.ref.space, .string a0.ref.name, .bool false, .slice none 0 0, a0.ports.v, .string (⟨#[]⟩ : ByteArray), .slice none 0 0, .slice none 0 0, .slice none 0 0, .slice none 0 0, .slice none 0 0, .slice none 0 0] 32 (0, 0))]) mixed (fun W' h1 h2 h3 h4 => grew_start st h1 h2 h3 h4) (n := 28) rfl ?_
         refine WS.pk 0 rfl gg (fun W hC => Pu.move rfl) ?_
         refine WS.pk 1 rfl gg (fun W hC => Pu.move rfl) ?_
         refine WS.split 53 rfl rT rF (fun h41 => ?_) (fun h41 => ?_)
         ·refine WS.pk 2 rfl gg (fun W hC => Pu.fa rfl fo32_3) ?_
          refine WS.pk 3 rfl gg (fun W hC => Pu.load rfl ty25 (((f5.le l32).drop 5).w hC.1) rfl) ?_
          refine WS.pk 4 rfl gg (fun W hC => Pu.move rfl) ?_
          have y42 := lg_get (l := a0.ports.l) (i := r28) (by omega) (by omega)
          obtain ⟨ad43, qa46, f44⟩ := ((k0p.ports.le (l4.trans l32)).get _ _ y42).1
          refine WS.pk 5 rfl gg (fun W hC => Pu.idx0 rfl rfl sl25 (by first|omega|simp<;>omega) (by first|omega|simp<;>omega) qa46) ?_
          refine WS.pk 6 rfl gg (fun W hC => Pu.load rfl ty3 (f44.w hC.1) rfl) ?_
          refine WS.callv (by kernel_rfl) (.blk (.then (.then (.blk (.then (.blk (.then .body))))))) 7 rfl (by kernel_rfl) (good_grew (Le.refl _) (fun _ h => h)) rfl rfl en84 rfl rfl (fun W hC => ⟨_, c84 (lg a0.ports.l r28) hC.1 ⟩) ?_
          refine WS.pk 8 rfl gg (fun W hC => Pu.pickT rfl rfl) ?_
          refine WS.pk 9 rfl gg (fun W hC => Pu.move rfl) ?_
          refine WS.split 61 rfl rT rF (fun h47 => ?_) (fun h47 => ?_)
          ·refine WS.pk 10 rfl gg (fun W hC => Pu.move rfl) ?_
           refine WS.pk 11 rfl gg (fun W hC => Pu.ieq rfl rfl) ?_
           refine WS.pk 12 rfl gg (fun W hC => Pu.move rfl) ?_
           refine WS.split 64 rfl dT dF (fun h48 => ?_) (fun h48 => ?_)
           ·refine WS.ok 13 rfl gg ?_
            refine WS.ok 14 rfl gg ?_
            refine WS.ok 15 rfl gg ?_
            refine WS.ok 16 rfl gg ?_
            refine WS.ok 17 rfl gg ?_
            refine WS.ok 18 rfl gg ?_
            refine WS.ok 19 rfl gg ?_
            refine WS.ok 20 rfl gg ?_
            refine WS.ok 21 rfl gg ?_
            refine WS.ok 22 rfl gg ?_
            refine WS.ok 23 rfl gg ?_
            refine WS.ok 24 rfl gg ?_
            refine WS.pk 25 rfl gg (fun W hC => Pu.pickT rfl rfl) ?_
            refine WS.pk 26 rfl gg (fun W hC => Pu.pickT rfl rfl) ?_
            refine WS.pk 27 rfl gg (fun W hC => Pu.assign rfl) ?_
            refine WS.fin (by kernel_rfl) (fun W51 H49 st l50 => ?_)
            refine QX.blkN (QX.thenN ?_)
            refine CW.reg (WL.mv rfl (WL.pv (Pu.iadd rfl rfl (c := r28 + 1) (w64 (by omega) (by omega))) (WL.as rfl ?_)))
            refine WL.nil (QX.round ⟨n29, true, r28 + 1⟩ ?_ (Nat.lt_succ_self _) (.cons rfl (.cons rfl (.cons rfl (.cons rfl (.nil _))))))
            exact ⟨⟨_, st, (l32.trans l50)⟩, (by first|omega|simp<;>omega), (by first|omega|simp<;>omega), (by first|omega|simp<;>omega), Eq.symm ((Eq.symm e34).trans ((if_pos h41).trans ((if_pos h47).trans (if_pos h48))))⟩
           ·refine WS.pk 13 rfl gg (fun W hC => Pu.fa rfl fo32_3) ?_
            refine WS.pk 14 rfl gg (fun W hC => Pu.load rfl ty25 (((f5.le l32).drop 5).w hC.1) rfl) ?_
            refine WS.pk 15 rfl gg (fun W hC => Pu.move rfl) ?_
            refine WS.pk 16 rfl gg (fun W hC => Pu.isub rfl rfl (c := r28 - 1) (w64 (by omega) (by omega))) ?_
            have y52 := lg_get (l := a0.ports.l) (i := r28 - 1) (by omega) (by omega)
            obtain ⟨ad53, qa56, f54⟩ := ((k0p.ports.le (l4.trans l32)).get _ _ y52).1
            refine WS.pk 17 rfl gg (fun W hC => Pu.idx0 rfl rfl sl25 (by first|omega|simp<;>omega) (by first|omega|simp<;>omega) qa56) ?_
            refine WS.pk 18 rfl gg (fun W hC => Pu.load rfl ty3 (f54.w hC.1) rfl) ?_
            refine WS.pk 19 rfl gg (fun W hC => Pu.fa rfl fo32_3) ?_
            refine WS.pk 20 rfl gg (fun W hC => Pu.load rfl ty25 (((f5.le l32).drop 5).w hC.1) rfl) ?_
            refine WS.pk 21 rfl gg (fun W hC => Pu.move rfl) ?_
            have y57 := lg_get (l := a0.ports.l) (i := r28) (by omega) (by omega)
            obtain ⟨ad58, qa61, f59⟩ := ((k0p.ports.le (l4.trans l32)).get _ _ y57).1
            refine WS.pk 22 rfl gg (fun W hC => Pu.idx0 rfl rfl sl25 (by first|omega|simp<;>omega) (by first|omega|simp<;>omega) qa61) ?_
            refine WS.pk 23 rfl gg (fun W hC => Pu.load rfl ty3 (f59.w hC.1) rfl) ?_
            refine WS.pk 24 rfl gg (fun W hC => Pu.ilt rfl rfl) ?_
            refine WS.pk 25 rfl gg (fun W hC => Pu.pickF rfl rfl) ?_
            refine WS.pk 26 rfl gg (fun W hC => Pu.pickT rfl rfl) ?_
            refine WS.pk 27 rfl gg (fun W hC => Pu.assign rfl) ?_
            refine WS.fin (by kernel_rfl) (fun W64 H62 st l63 => ?_)
            refine QX.blkN (QX.thenN ?_)
            refine CW.reg (WL.mv rfl (WL.pv (Pu.iadd rfl rfl (c := r28 + 1) (w64 (by omega) (by omega))) (WL.as rfl ?_)))
            refine WL.nil (QX.round ⟨n29, decide ((lg a0.ports.l (r28 - 1)) < lg a0.ports.l r28), r28 + 1⟩ ?_ (Nat.lt_succ_self _) (.cons rfl (.cons rfl (.cons rfl (.cons rfl (.nil _))))))
            exact ⟨⟨_, st, (l32.trans l63)⟩, (by first|omega|simp<;>omega), (by first|omega|simp<;>omega), (by first|omega|simp<;>omega), Eq.symm ((Eq.symm e34).trans ((if_pos h41).trans ((if_pos h47).trans (if_neg h48))))⟩
          ·refine WS.ok 10 rfl gg ?_
           refine WS.ok 11 rfl gg ?_
           refine WS.ok 12 rfl gg ?_
           refine WS.ok 13 rfl gg ?_
           refine WS.ok 14 rfl gg ?_
           refine WS.ok 15 rfl gg ?_
           refine WS.ok 16 rfl gg ?_
           refine WS.ok 17 rfl gg ?_
           refine WS.ok 18 rfl gg ?_
           refine WS.ok 19 rfl gg ?_
           refine WS.ok 20 rfl gg ?_
           refine WS.ok 21 rfl gg ?_
           refine WS.ok 22 rfl gg ?_
           refine WS.ok 23 rfl gg ?_
           refine WS.ok 24 rfl gg ?_
           refine WS.ok 25 rfl gg ?_
           refine WS.pk 26 rfl gg (fun W hC => Pu.pickF rfl rfl) ?_
           refine WS.pk 27 rfl gg (fun W hC => Pu.assign rfl) ?_
           refine WS.fin (by kernel_rfl) (fun W67 H65 st l66 => ?_)
           refine QX.blkN (QX.thenN ?_)
           refine CW.reg (WL.mv rfl (WL.pv (Pu.iadd rfl rfl (c := r28 + 1) (w64 (by omega) (by omega))) (WL.as rfl ?_)))
           refine WL.nil (QX.round ⟨n29, false, r28 + 1⟩ ?_ (Nat.lt_succ_self _) (.cons rfl (.cons rfl (.cons rfl (.cons rfl (.nil _))))))
           exact ⟨⟨_, st, (l32.trans l66)⟩, (by first|omega|simp<;>omega), (by first|omega|simp<;>omega), (by first|omega|simp<;>omega), Eq.symm ((Eq.symm e34).trans ((if_pos h41).trans (if_neg h47)))⟩
         ·refine WS.ok 2 rfl gg ?_
          refine WS.ok 3 rfl gg ?_
          refine WS.ok 4 rfl gg ?_
          refine WS.ok 5 rfl gg ?_
          refine WS.ok 6 rfl gg ?_
          refine WS.ok 7 rfl gg ?_
          refine WS.pk 8 rfl gg (fun W hC => Pu.pickF rfl rfl) ?_
          refine WS.pk 9 rfl gg (fun W hC => Pu.move rfl) ?_
          refine WS.ok 10 rfl gg ?_
          refine WS.ok 11 rfl gg ?_
          refine WS.ok 12 rfl gg ?_
          refine WS.ok 13 rfl gg ?_
          refine WS.ok 14 rfl gg ?_
          refine WS.ok 15 rfl gg ?_
          refine WS.ok 16 rfl gg ?_
          refine WS.ok 17 rfl gg ?_
          refine WS.ok 18 rfl gg ?_
          refine WS.ok 19 rfl gg ?_
          refine WS.ok 20 rfl gg ?_
          refine WS.ok 21 rfl gg ?_
          refine WS.ok 22 rfl gg ?_
          refine WS.ok 23 rfl gg ?_
          refine WS.ok 24 rfl gg ?_
          refine WS.ok 25 rfl gg ?_
          refine WS.pk 26 rfl gg (fun W hC => Pu.pickF rfl rfl) ?_
          refine WS.pk 27 rfl gg (fun W hC => Pu.assign rfl) ?_
          refine WS.fin (by kernel_rfl) (fun W70 H68 st l69 => ?_)
          refine QX.blkN (QX.thenN ?_)
          refine CW.reg (WL.mv rfl (WL.pv (Pu.iadd rfl rfl (c := r28 + 1) (w64 (by omega) (by omega))) (WL.as rfl ?_)))
          refine WL.nil (QX.round ⟨n29, false, r28 + 1⟩ ?_ (Nat.lt_succ_self _) (.cons rfl (.cons rfl (.cons rfl (.cons rfl (.nil _))))))
          exact ⟨⟨_, st, (l32.trans l69)⟩, (by first|omega|simp<;>omega), (by first|omega|simp<;>omega), (by first|omega|simp<;>omega), Eq.symm ((Eq.symm e34).trans (if_neg h41))⟩
        ·obtain rfl : N38 = 0 := by omega
         refine CW.exit (QX.thenE (QX.thenE (QX.hit (QX.meets r27 ?_ (.cons rfl (.cons rfl (.cons rfl (.nil _))))))))
         exact ⟨⟨_, st, l32⟩, Eq.symm e34⟩
       rintro r30 W75 ⟨⟨H73, st, l74⟩, e76⟩
       replace st : St w _ _ _ [Own.box b8 (.cells #[.int .i64 a0.ref.kind, .string a0.ref.space, .string a0.ref.name, .bool false, .slice none 0 0, a0.ports.v, .string (⟨#[]⟩ : ByteArray), .slice none 0 0, .slice none 0 0, .slice none 0 0, .slice none 0 0, .slice none 0 0, .slice none 0 0] 32 (0, 0))] := st
       replace e76 : m18_l0 a0 (((a0.ports.l.length : Int) - 0).toNat) (decide ((a0.ports.l.length : Int) ≤ 8)) 0 = r30 := e76
       show QX _ _ _ [(1, Value.pointer (some (⟨b1, 0, none⟩ : Addr))), (3, Value.pointer (some (⟨b8, 0, none⟩ : Addr))), (4, Value.bool r30)] _
       refine QX.blkN (QX.thenN ?_)
       refine CW.seq (CW.reg (WL.mv rfl (WL.mv rfl ?_)))
       refine WL.splitP 113 rfl rT rF (fun h77 => ?_) (fun h77 => ?_)
       ·refine WL.pv (Pu.load (v := Object.v (⟨a0.ref, false, (Sl.nil : Sl Pair), a0.ports, (⟨#[]⟩ : ByteArray), (Sl.nil : Sl Listener), (Sl.nil : Sl Parent), (Sl.nil : Sl ByteArray), (Sl.nil : Sl Rule), (Sl.nil : Sl Side), (Sl.nil : Sl Side)⟩ : Object)) rfl ty32 (AtW.block (st.own _ (.head _)).1.2) rfl) (WL.pv (Pu.load (v := Object.v a0) rfl ty32 ((f5.le l74).w st.sub) rfl) ?_)
        refine WL.callv rfl rfl en25 rfl rfl st (c25 (⟨a0.ref, false, (Sl.nil : Sl Pair), a0.ports, (⟨#[]⟩ : ByteArray), (Sl.nil : Sl Listener), (Sl.nil : Sl Parent), (Sl.nil : Sl ByteArray), (Sl.nil : Sl Rule), (Sl.nil : Sl Side), (Sl.nil : Sl Side)⟩ : Object) a0 st.sub ⟨(k0p.ref.le (l4.trans l74)), Sl.Ok.nil, (k0p.ports.le (l4.trans l74)), (by first|omega|simp<;>omega), Sl.Ok.nil, Sl.Ok.nil, Sl.Ok.nil, Sl.Ok.nil, Sl.Ok.nil, Sl.Ok.nil⟩ (k0p.le (l4.trans l74))) ?_
        intro W78 st
        refine WL.pv (Pu.pickT rfl rfl) (WL.as rfl (WL.nt ?_))
        refine CW.ret (finA Tryz.results18 st (.tmp rfl .nil) ?_)
        exact vb ((if_pos h7).trans ((if_neg h11).trans ((if_neg h14).trans ((if_neg h17).trans ((if_pos h22).trans ((if_pos h25).trans ((lk1_eq e76).trans (if_pos h77))))))))
       ·refine WL.of (WL.of (WL.of (WL.pv (Pu.pickF rfl rfl) (WL.as rfl (WL.nt ?_)))))
        refine CW.ret (finA Tryz.results18 st (.tmp rfl .nil) ?_)
        exact vb ((if_pos h7).trans ((if_neg h11).trans ((if_neg h14).trans ((if_neg h17).trans ((if_pos h22).trans ((if_pos h25).trans ((lk1_eq e76).trans (if_neg h77))))))))
      ·refine WL.of (WL.of (WL.of (WL.of (WL.pv (Pu.pickF rfl rfl) (WL.as rfl (WL.nt (CW.seq (CW.reg (WL.as rfl ?_)))))))))
       refine WL.nt ?_
       refine (CW.cuts (fun (s : Bool) W => (∃ H', St w W H H' [Own.box b8 (.cells #[.int .i64 a0.ref.kind, .string a0.ref.space, .string a0.ref.name, .bool false, .slice none 0 0, a0.ports.v, .string (⟨#[]⟩ : ByteArray), .slice none 0 0, .slice none 0 0, .slice none 0 0, .slice none 0 0, .slice none 0 0, .slice none 0 0] 32 (0, 0))] ∧ Le H3 H') ∧ m18_l1 a0 (((a0.ports.l.length : Int) - 0).toNat) false 0 = s) (fun (s : Bool) => [(1, Value.pointer (some (⟨b1, 0, none⟩ : Addr))), (3, Value.pointer (some (⟨b8, 0, none⟩ : Addr))), (4, Value.bool s)]) ?_ ?_)
       ·refine CW.blk (CW.loop (fun (s : Nat × Bool × Int) W => (∃ H', St w W H H' [Own.box b8 (.cells #[.int .i64 a0.ref.kind, .string a0.ref.space, .string a0.ref.name, .bool false, .slice none 0 0, a0.ports.v, .string (⟨#[]⟩ : ByteArray), .slice none 0 0, .slice none 0 0, .slice none 0 0, .slice none 0 0, .slice none 0 0, .slice none 0 0] 32 (0, 0))] ∧ Le H3 H') ∧ 0 ≤ s.2.2 ∧ s.2.2 ≤ (a0.ports.l.length : Int) ∧ s.1 = ((a0.ports.l.length : Int) - s.2.2).toNat ∧ m18_l1 a0 s.1 s.2.1 s.2.2 = m18_l1 a0 (((a0.ports.l.length : Int) - 0).toNat) false 0) (fun (s : Nat × Bool × Int) => [(1, Value.pointer (some (⟨b1, 0, none⟩ : Addr))), (3, Value.pointer (some (⟨b8, 0, none⟩ : Addr))), (4, Value.bool s.2.1), (5, Value.int .i64 s.2.2)]) (fun s => s.1) ⟨((a0.ports.l.length : Int) - 0).toNat, false, 0⟩ ⟨⟨_, st, Le.refl _⟩, (by first|omega|simp<;>omega), (by first|omega|simp<;>omega), rfl, rfl⟩ (.cons rfl (.cons rfl (.cons rfl (.cons rfl (.nil _))))) ?_)
        rintro ⟨N90, r79, r80⟩ W85 ⟨⟨H83, st, l84⟩, g123, g124, g89, e86⟩
        replace g123 : 0 ≤ r80 := g123
        replace g124 : r80 ≤ (a0.ports.l.length : Int) := g124
        replace g89 : N90 = ((a0.ports.l.length : Int) - r80).toNat := g89
        replace e86 : m18_l1 a0 N90 r79 r80 = m18_l1 a0 (((a0.ports.l.length : Int) - 0).toNat) false 0 := e86
        show CW _ _ _ _ [(1, Value.pointer (some (⟨b1, 0, none⟩ : Addr))), (3, Value.pointer (some (⟨b8, 0, none⟩ : Addr))), (4, Value.bool r79), (5, Value.int .i64 r80)] _
        refine CW.seq (CW.seq (CW.reg (WL.mv rfl (WL.pv (Pu.fa rfl fo32_3) (WL.pv (Pu.load rfl ty25 (((f5.le l84).drop 5).w st.sub) rfl) ?_)))))
        have z91 : a0.ports.l.length ≤ 1048576 := (k0p.ports.le (l4.trans l84)).top
        refine WL.pv (Pu.lens (n := a0.ports.l.length) rfl sl25) (WL.pv (Pu.ilt rfl rfl) (WL.nt ?_))
        refine CW.condP 49 rfl dT dF (fun h92 => ?_) (fun h92 => ?_)
        ·obtain ⟨n81, rfl⟩ : ∃ k, N90 = k + 1 := ⟨N90 - 1, by omega⟩
         refine CW.skip (QX.thenN ?_)
         refine CW.seq ?_
         refine CW.blk ?_
         refine CW.regS (C := Cl w H83 [Own.box b8 (.cells #[.int .i64 a0.ref.kind, .string a0.ref.space, .string a0.ref.name, .bool false, .slice none 0 0, a0.ports.v, .string (⟨#[]⟩ : ByteArray), .slice none 0 0, .slice none 0 0, .slice none 0 0, .slice none 0 0, .slice none 0 0, .slice none 0 0] 32 (0, 0))]) (tail := []) (S := Grew w H H83 [Own.box b8 (.cells #[.int .i64 a0.ref.kind, .string a0.ref.space, .string a0.ref.name, .bool false, .slice none 0 0, a0.ports.v, .string (⟨#[]⟩ : ByteArray), .slice none 0 0, .slice none 0 0, .slice none 0 0, .slice none 0 0, .slice none 0 0, .slice none 0 0] 32 (0, 0))]) mixed (fun W' h1 h2 h3 h4 => grew_start st h1 h2 h3 h4) (n := 28) rfl ?_
         refine WS.pk 0 rfl gg (fun W hC => Pu.move rfl) ?_
         refine WS.pk 1 rfl gg (fun W hC => Pu.move rfl) ?_
         refine WS.split 53 rfl rT rF (fun h93 => ?_) (fun h93 => ?_)
         ·refine WS.pk 2 rfl gg (fun W hC => Pu.fa rfl fo32_3) ?_
          refine WS.pk 3 rfl gg (fun W hC => Pu.load rfl ty25 (((f5.le l84).drop 5).w hC.1) rfl) ?_
          refine WS.pk 4 rfl gg (fun W hC => Pu.move rfl) ?_
          have y94 := lg_get (l := a0.ports.l) (i := r80) (by omega) (by omega)
          obtain ⟨ad95, qa98, f96⟩ := ((k0p.ports.le (l4.trans l84)).get _ _ y94).1
          refine WS.pk 5 rfl gg (fun W hC => Pu.idx0 rfl rfl sl25 (by first|omega|simp<;>omega) (by first|omega|simp<;>omega) qa98) ?_
          refine WS.pk 6 rfl gg (fun W hC => Pu.load rfl ty3 (f96.w hC.1) rfl) ?_
          refine WS.callv (by kernel_rfl) (.blk (.then (.then (.blk (.then (.blk (.then .body))))))) 7 rfl (by kernel_rfl) (good_grew (Le.refl _) (fun _ h => h)) rfl rfl en84 rfl rfl (fun W hC => ⟨_, c84 (lg a0.ports.l r80) hC.1 ⟩) ?_
          refine WS.pk 8 rfl gg (fun W hC => Pu.pickT rfl rfl) ?_
          refine WS.pk 9 rfl gg (fun W hC => Pu.move rfl) ?_
          refine WS.split 61 rfl rT rF (fun h99 => ?_) (fun h99 => ?_)
          ·refine WS.pk 10 rfl gg (fun W hC => Pu.move rfl) ?_
           refine WS.pk 11 rfl gg (fun W hC => Pu.ieq rfl rfl) ?_
           refine WS.pk 12 rfl gg (fun W hC => Pu.move rfl) ?_
           refine WS.split 64 rfl dT dF (fun h100 => ?_) (fun h100 => ?_)
           ·refine WS.ok 13 rfl gg ?_
            refine WS.ok 14 rfl gg ?_
            refine WS.ok 15 rfl gg ?_
            refine WS.ok 16 rfl gg ?_
            refine WS.ok 17 rfl gg ?_
            refine WS.ok 18 rfl gg ?_
            refine WS.ok 19 rfl gg ?_
            refine WS.ok 20 rfl gg ?_
            refine WS.ok 21 rfl gg ?_
            refine WS.ok 22 rfl gg ?_
            refine WS.ok 23 rfl gg ?_
            refine WS.ok 24 rfl gg ?_
            refine WS.pk 25 rfl gg (fun W hC => Pu.pickT rfl rfl) ?_
            refine WS.pk 26 rfl gg (fun W hC => Pu.pickT rfl rfl) ?_
            refine WS.pk 27 rfl gg (fun W hC => Pu.assign rfl) ?_
            refine WS.fin (by kernel_rfl) (fun W103 H101 st l102 => ?_)
            refine QX.blkN (QX.thenN ?_)
            refine CW.reg (WL.mv rfl (WL.pv (Pu.iadd rfl rfl (c := r80 + 1) (w64 (by omega) (by omega))) (WL.as rfl ?_)))
            refine WL.nil (QX.round ⟨n81, true, r80 + 1⟩ ?_ (Nat.lt_succ_self _) (.cons rfl (.cons rfl (.cons rfl (.cons rfl (.nil _))))))
            exact ⟨⟨_, st, (l84.trans l102)⟩, (by first|omega|simp<;>omega), (by first|omega|simp<;>omega), (by first|omega|simp<;>omega), Eq.symm ((Eq.symm e86).trans ((if_pos h93).trans ((if_pos h99).trans (if_pos h100))))⟩
           ·refine WS.pk 13 rfl gg (fun W hC => Pu.fa rfl fo32_3) ?_
            refine WS.pk 14 rfl gg (fun W hC => Pu.load rfl ty25 (((f5.le l84).drop 5).w hC.1) rfl) ?_
            refine WS.pk 15 rfl gg (fun W hC => Pu.move rfl) ?_
            refine WS.pk 16 rfl gg (fun W hC => Pu.isub rfl rfl (c := r80 - 1) (w64 (by omega) (by omega))) ?_
            have y104 := lg_get (l := a0.ports.l) (i := r80 - 1) (by omega) (by omega)
            obtain ⟨ad105, qa108, f106⟩ := ((k0p.ports.le (l4.trans l84)).get _ _ y104).1
            refine WS.pk 17 rfl gg (fun W hC => Pu.idx0 rfl rfl sl25 (by first|omega|simp<;>omega) (by first|omega|simp<;>omega) qa108) ?_
            refine WS.pk 18 rfl gg (fun W hC => Pu.load rfl ty3 (f106.w hC.1) rfl) ?_
            refine WS.pk 19 rfl gg (fun W hC => Pu.fa rfl fo32_3) ?_
            refine WS.pk 20 rfl gg (fun W hC => Pu.load rfl ty25 (((f5.le l84).drop 5).w hC.1) rfl) ?_
            refine WS.pk 21 rfl gg (fun W hC => Pu.move rfl) ?_
            have y109 := lg_get (l := a0.ports.l) (i := r80) (by omega) (by omega)
            obtain ⟨ad110, qa113, f111⟩ := ((k0p.ports.le (l4.trans l84)).get _ _ y109).1
            refine WS.pk 22 rfl gg (fun W hC => Pu.idx0 rfl rfl sl25 (by first|omega|simp<;>omega) (by first|omega|simp<;>omega) qa113) ?_
            refine WS.pk 23 rfl gg (fun W hC => Pu.load rfl ty3 (f111.w hC.1) rfl) ?_
            refine WS.pk 24 rfl gg (fun W hC => Pu.ilt rfl rfl) ?_
            refine WS.pk 25 rfl gg (fun W hC => Pu.pickF rfl rfl) ?_
            refine WS.pk 26 rfl gg (fun W hC => Pu.pickT rfl rfl) ?_
            refine WS.pk 27 rfl gg (fun W hC => Pu.assign rfl) ?_
            refine WS.fin (by kernel_rfl) (fun W116 H114 st l115 => ?_)
            refine QX.blkN (QX.thenN ?_)
            refine CW.reg (WL.mv rfl (WL.pv (Pu.iadd rfl rfl (c := r80 + 1) (w64 (by omega) (by omega))) (WL.as rfl ?_)))
            refine WL.nil (QX.round ⟨n81, decide ((lg a0.ports.l (r80 - 1)) < lg a0.ports.l r80), r80 + 1⟩ ?_ (Nat.lt_succ_self _) (.cons rfl (.cons rfl (.cons rfl (.cons rfl (.nil _))))))
            exact ⟨⟨_, st, (l84.trans l115)⟩, (by first|omega|simp<;>omega), (by first|omega|simp<;>omega), (by first|omega|simp<;>omega), Eq.symm ((Eq.symm e86).trans ((if_pos h93).trans ((if_pos h99).trans (if_neg h100))))⟩
          ·refine WS.ok 10 rfl gg ?_
           refine WS.ok 11 rfl gg ?_
           refine WS.ok 12 rfl gg ?_
           refine WS.ok 13 rfl gg ?_
           refine WS.ok 14 rfl gg ?_
           refine WS.ok 15 rfl gg ?_
           refine WS.ok 16 rfl gg ?_
           refine WS.ok 17 rfl gg ?_
           refine WS.ok 18 rfl gg ?_
           refine WS.ok 19 rfl gg ?_
           refine WS.ok 20 rfl gg ?_
           refine WS.ok 21 rfl gg ?_
           refine WS.ok 22 rfl gg ?_
           refine WS.ok 23 rfl gg ?_
           refine WS.ok 24 rfl gg ?_
           refine WS.ok 25 rfl gg ?_
           refine WS.pk 26 rfl gg (fun W hC => Pu.pickF rfl rfl) ?_
           refine WS.pk 27 rfl gg (fun W hC => Pu.assign rfl) ?_
           refine WS.fin (by kernel_rfl) (fun W119 H117 st l118 => ?_)
           refine QX.blkN (QX.thenN ?_)
           refine CW.reg (WL.mv rfl (WL.pv (Pu.iadd rfl rfl (c := r80 + 1) (w64 (by omega) (by omega))) (WL.as rfl ?_)))
           refine WL.nil (QX.round ⟨n81, false, r80 + 1⟩ ?_ (Nat.lt_succ_self _) (.cons rfl (.cons rfl (.cons rfl (.cons rfl (.nil _))))))
           exact ⟨⟨_, st, (l84.trans l118)⟩, (by first|omega|simp<;>omega), (by first|omega|simp<;>omega), (by first|omega|simp<;>omega), Eq.symm ((Eq.symm e86).trans ((if_pos h93).trans (if_neg h99)))⟩
         ·refine WS.ok 2 rfl gg ?_
          refine WS.ok 3 rfl gg ?_
          refine WS.ok 4 rfl gg ?_
          refine WS.ok 5 rfl gg ?_
          refine WS.ok 6 rfl gg ?_
          refine WS.ok 7 rfl gg ?_
          refine WS.pk 8 rfl gg (fun W hC => Pu.pickF rfl rfl) ?_
          refine WS.pk 9 rfl gg (fun W hC => Pu.move rfl) ?_
          refine WS.ok 10 rfl gg ?_
          refine WS.ok 11 rfl gg ?_
          refine WS.ok 12 rfl gg ?_
          refine WS.ok 13 rfl gg ?_
          refine WS.ok 14 rfl gg ?_
          refine WS.ok 15 rfl gg ?_
          refine WS.ok 16 rfl gg ?_
          refine WS.ok 17 rfl gg ?_
          refine WS.ok 18 rfl gg ?_
          refine WS.ok 19 rfl gg ?_
          refine WS.ok 20 rfl gg ?_
          refine WS.ok 21 rfl gg ?_
          refine WS.ok 22 rfl gg ?_
          refine WS.ok 23 rfl gg ?_
          refine WS.ok 24 rfl gg ?_
          refine WS.ok 25 rfl gg ?_
          refine WS.pk 26 rfl gg (fun W hC => Pu.pickF rfl rfl) ?_
          refine WS.pk 27 rfl gg (fun W hC => Pu.assign rfl) ?_
          refine WS.fin (by kernel_rfl) (fun W122 H120 st l121 => ?_)
          refine QX.blkN (QX.thenN ?_)
          refine CW.reg (WL.mv rfl (WL.pv (Pu.iadd rfl rfl (c := r80 + 1) (w64 (by omega) (by omega))) (WL.as rfl ?_)))
          refine WL.nil (QX.round ⟨n81, false, r80 + 1⟩ ?_ (Nat.lt_succ_self _) (.cons rfl (.cons rfl (.cons rfl (.cons rfl (.nil _))))))
          exact ⟨⟨_, st, (l84.trans l121)⟩, (by first|omega|simp<;>omega), (by first|omega|simp<;>omega), (by first|omega|simp<;>omega), Eq.symm ((Eq.symm e86).trans (if_neg h93))⟩
        ·obtain rfl : N90 = 0 := by omega
         refine CW.exit (QX.thenE (QX.thenE (QX.hit (QX.meets r79 ?_ (.cons rfl (.cons rfl (.cons rfl (.nil _))))))))
         exact ⟨⟨_, st, l84⟩, Eq.symm e86⟩
       rintro r82 W127 ⟨⟨H125, st, l126⟩, e128⟩
       replace st : St w _ _ _ [Own.box b8 (.cells #[.int .i64 a0.ref.kind, .string a0.ref.space, .string a0.ref.name, .bool false, .slice none 0 0, a0.ports.v, .string (⟨#[]⟩ : ByteArray), .slice none 0 0, .slice none 0 0, .slice none 0 0, .slice none 0 0, .slice none 0 0, .slice none 0 0] 32 (0, 0))] := st
       replace e128 : m18_l1 a0 (((a0.ports.l.length : Int) - 0).toNat) false 0 = r82 := e128
       show QX _ _ _ [(1, Value.pointer (some (⟨b1, 0, none⟩ : Addr))), (3, Value.pointer (some (⟨b8, 0, none⟩ : Addr))), (4, Value.bool r82)] _
       refine QX.blkN (QX.thenN ?_)
       refine CW.seq (CW.reg (WL.mv rfl (WL.mv rfl ?_)))
       refine WL.splitP 113 rfl rT rF (fun h129 => ?_) (fun h129 => ?_)
       ·refine WL.pv (Pu.load (v := Object.v (⟨a0.ref, false, (Sl.nil : Sl Pair), a0.ports, (⟨#[]⟩ : ByteArray), (Sl.nil : Sl Listener), (Sl.nil : Sl Parent), (Sl.nil : Sl ByteArray), (Sl.nil : Sl Rule), (Sl.nil : Sl Side), (Sl.nil : Sl Side)⟩ : Object)) rfl ty32 (AtW.block (st.own _ (.head _)).1.2) rfl) (WL.pv (Pu.load (v := Object.v a0) rfl ty32 ((f5.le l126).w st.sub) rfl) ?_)
        refine WL.callv rfl rfl en25 rfl rfl st (c25 (⟨a0.ref, false, (Sl.nil : Sl Pair), a0.ports, (⟨#[]⟩ : ByteArray), (Sl.nil : Sl Listener), (Sl.nil : Sl Parent), (Sl.nil : Sl ByteArray), (Sl.nil : Sl Rule), (Sl.nil : Sl Side), (Sl.nil : Sl Side)⟩ : Object) a0 st.sub ⟨(k0p.ref.le (l4.trans l126)), Sl.Ok.nil, (k0p.ports.le (l4.trans l126)), (by first|omega|simp<;>omega), Sl.Ok.nil, Sl.Ok.nil, Sl.Ok.nil, Sl.Ok.nil, Sl.Ok.nil, Sl.Ok.nil⟩ (k0p.le (l4.trans l126))) ?_
        intro W130 st
        refine WL.pv (Pu.pickT rfl rfl) (WL.as rfl (WL.nt ?_))
        refine CW.ret (finA Tryz.results18 st (.tmp rfl .nil) ?_)
        exact vb ((if_pos h7).trans ((if_neg h11).trans ((if_neg h14).trans ((if_neg h17).trans ((if_pos h22).trans ((if_neg h25).trans ((lk1_eq e128).trans (if_pos h129))))))))
       ·refine WL.of (WL.of (WL.of (WL.pv (Pu.pickF rfl rfl) (WL.as rfl (WL.nt ?_)))))
        refine CW.ret (finA Tryz.results18 st (.tmp rfl .nil) ?_)
        exact vb ((if_pos h7).trans ((if_neg h11).trans ((if_neg h14).trans ((if_neg h17).trans ((if_pos h22).trans ((if_neg h25).trans ((lk1_eq e128).trans (if_neg h129))))))))
     ·refine CW.seq (CW.reg (WL.pv (Pu.ieq rfl rfl) (WL.as rfl (WL.nt ?_))))
      refine CW.condP 79 rfl dT dF (fun h131 => ?_) (fun h131 => ?_)
      ·refine CW.seq (CW.reg (WL.pv (Pu.fa rfl fo32_4) (WL.pv (Pu.load rfl ty9 ((f5.drop 6).w st.sub) rfl) (WL.pv (Pu.fa rfl fo32_4) ?_))))
       refine WL.store (o := 6) (c' := [.int .i64 a0.ref.kind, .string a0.ref.space, .string a0.ref.name, .bool false, .slice none 0 0, .slice none 0 0, .string a0.cls, .slice none 0 0, .slice none 0 0, .slice none 0 0, .slice none 0 0, .slice none 0 0, .slice none 0 0]) rfl rfl rfl rfl ty9 rfl (one1 rfl rfl) rfl rfl st ?_
       intro W132 st
       refine WL.nt (CW.seq (CW.reg (WL.pv (Pu.fa rfl fo32_5) (WL.pv (Pu.load rfl ty26 ((f5.drop 7).w st.sub) rfl) (WL.pv (Pu.fa rfl fo32_5) ?_)))))
       refine WL.store (o := 7) (c' := [.int .i64 a0.ref.kind, .string a0.ref.space, .string a0.ref.name, .bool false, .slice none 0 0, .slice none 0 0, .string a0.cls, a0.listeners.v, .slice none 0 0, .slice none 0 0, .slice none 0 0, .slice none 0 0, .slice none 0 0]) rfl rfl rfl rfl ty26 rfl (one1 rfl rfl) rfl rfl st ?_
       intro W133 st
       refine WL.nt (CW.reg (WL.pv (Pu.load (v := Object.v a0) rfl ty32 (f5.w st.sub) rfl) ?_))
       refine WL.callv rfl rfl en85 rfl rfl st (c85 a0 st.sub (k0p.le l4)) ?_
       intro W134 st
       refine WL.as rfl ?_
       refine WL.nil (QX.blkN (QX.thenN ?_))
       refine CW.seq (CW.reg (WL.mv rfl (WL.mv rfl ?_)))
       refine WL.splitP 113 rfl rT rF (fun h135 => ?_) (fun h135 => ?_)
       ·refine WL.pv (Pu.load (v := Object.v (⟨a0.ref, false, (Sl.nil : Sl Pair), (Sl.nil : Sl Int), a0.cls, a0.listeners, (Sl.nil : Sl Parent), (Sl.nil : Sl ByteArray), (Sl.nil : Sl Rule), (Sl.nil : Sl Side), (Sl.nil : Sl Side)⟩ : Object)) rfl ty32 (AtW.block (st.own _ (.head _)).1.2) rfl) (WL.pv (Pu.load (v := Object.v a0) rfl ty32 (f5.w st.sub) rfl) ?_)
        refine WL.callv rfl rfl en25 rfl rfl st (c25 (⟨a0.ref, false, (Sl.nil : Sl Pair), (Sl.nil : Sl Int), a0.cls, a0.listeners, (Sl.nil : Sl Parent), (Sl.nil : Sl ByteArray), (Sl.nil : Sl Rule), (Sl.nil : Sl Side), (Sl.nil : Sl Side)⟩ : Object) a0 st.sub ⟨(k0p.ref.le l4), Sl.Ok.nil, Sl.Ok.nil, k0p.cls, (k0p.listeners.le l4), Sl.Ok.nil, Sl.Ok.nil, Sl.Ok.nil, Sl.Ok.nil, Sl.Ok.nil⟩ (k0p.le l4)) ?_
        intro W136 st
        refine WL.pv (Pu.pickT rfl rfl) (WL.as rfl (WL.nt ?_))
        refine CW.ret (finA Tryz.results18 st (.tmp rfl .nil) ?_)
        exact vb ((if_pos h7).trans ((if_neg h11).trans ((if_neg h14).trans ((if_neg h17).trans ((if_neg h22).trans ((if_pos h131).trans (if_pos h135)))))))
       ·refine WL.of (WL.of (WL.of (WL.pv (Pu.pickF rfl rfl) (WL.as rfl (WL.nt ?_)))))
        refine CW.ret (finA Tryz.results18 st (.tmp rfl .nil) ?_)
        exact vb ((if_pos h7).trans ((if_neg h11).trans ((if_neg h14).trans ((if_neg h17).trans ((if_neg h22).trans ((if_pos h131).trans (if_neg h135)))))))
      ·refine CW.seq (CW.reg (WL.pv (Pu.ieq rfl rfl) (WL.as rfl (WL.nt ?_))))
       refine CW.condP 89 rfl dT dF (fun h137 => ?_) (fun h137 => ?_)
       ·refine CW.seq (CW.reg (WL.pv (Pu.fa rfl fo32_6) (WL.pv (Pu.load rfl ty27 ((f5.drop 8).w st.sub) rfl) (WL.pv (Pu.fa rfl fo32_6) ?_))))
        refine WL.store (o := 8) (c' := [.int .i64 a0.ref.kind, .string a0.ref.space, .string a0.ref.name, .bool false, .slice none 0 0, .slice none 0 0, .string (⟨#[]⟩ : ByteArray), .slice none 0 0, a0.parents.v, .slice none 0 0, .slice none 0 0, .slice none 0 0, .slice none 0 0]) rfl rfl rfl rfl ty27 rfl (one1 rfl rfl) rfl rfl st ?_
        intro W138 st
        refine WL.nt (CW.seq (CW.reg (WL.pv (Pu.fa rfl fo32_7) (WL.pv (Pu.load rfl ty28 ((f5.drop 9).w st.sub) rfl) (WL.pv (Pu.fa rfl fo32_7) ?_)))))
        refine WL.store (o := 9) (c' := [.int .i64 a0.ref.kind, .string a0.ref.space, .string a0.ref.name, .bool false, .slice none 0 0, .slice none 0 0, .string (⟨#[]⟩ : ByteArray), .slice none 0 0, a0.parents.v, a0.hosts.v, .slice none 0 0, .slice none 0 0, .slice none 0 0]) rfl rfl rfl rfl ty28 rfl (one1 rfl rfl) rfl rfl st ?_
        intro W139 st
        refine WL.nt (CW.seq (CW.reg (WL.pv (Pu.fa rfl fo32_8) (WL.pv (Pu.load rfl ty29 ((f5.drop 10).w st.sub) rfl) (WL.pv (Pu.fa rfl fo32_8) ?_)))))
        refine WL.store (o := 10) (c' := [.int .i64 a0.ref.kind, .string a0.ref.space, .string a0.ref.name, .bool false, .slice none 0 0, .slice none 0 0, .string (⟨#[]⟩ : ByteArray), .slice none 0 0, a0.parents.v, a0.hosts.v, a0.rules.v, .slice none 0 0, .slice none 0 0]) rfl rfl rfl rfl ty29 rfl (one1 rfl rfl) rfl rfl st ?_
        intro W140 st
        refine WL.nt (CW.reg (WL.pv (Pu.load (v := Object.v a0) rfl ty32 (f5.w st.sub) rfl) ?_))
        refine WL.callv rfl rfl en86 rfl rfl st (c86 a0 st.sub (k0p.le l4)) ?_
        intro W141 st
        refine WL.as rfl ?_
        refine WL.nil (QX.blkN (QX.thenN ?_))
        refine CW.seq (CW.reg (WL.mv rfl (WL.mv rfl ?_)))
        refine WL.splitP 113 rfl rT rF (fun h142 => ?_) (fun h142 => ?_)
        ·refine WL.pv (Pu.load (v := Object.v (⟨a0.ref, false, (Sl.nil : Sl Pair), (Sl.nil : Sl Int), (⟨#[]⟩ : ByteArray), (Sl.nil : Sl Listener), a0.parents, a0.hosts, a0.rules, (Sl.nil : Sl Side), (Sl.nil : Sl Side)⟩ : Object)) rfl ty32 (AtW.block (st.own _ (.head _)).1.2) rfl) (WL.pv (Pu.load (v := Object.v a0) rfl ty32 (f5.w st.sub) rfl) ?_)
         refine WL.callv rfl rfl en25 rfl rfl st (c25 (⟨a0.ref, false, (Sl.nil : Sl Pair), (Sl.nil : Sl Int), (⟨#[]⟩ : ByteArray), (Sl.nil : Sl Listener), a0.parents, a0.hosts, a0.rules, (Sl.nil : Sl Side), (Sl.nil : Sl Side)⟩ : Object) a0 st.sub ⟨(k0p.ref.le l4), Sl.Ok.nil, Sl.Ok.nil, (by first|omega|simp<;>omega), Sl.Ok.nil, (k0p.parents.le l4), (k0p.hosts.le l4), (k0p.rules.le l4), Sl.Ok.nil, Sl.Ok.nil⟩ (k0p.le l4)) ?_
         intro W143 st
         refine WL.pv (Pu.pickT rfl rfl) (WL.as rfl (WL.nt ?_))
         refine CW.ret (finA Tryz.results18 st (.tmp rfl .nil) ?_)
         exact vb ((if_pos h7).trans ((if_neg h11).trans ((if_neg h14).trans ((if_neg h17).trans ((if_neg h22).trans ((if_neg h131).trans ((if_pos h137).trans (if_pos h142))))))))
        ·refine WL.of (WL.of (WL.of (WL.pv (Pu.pickF rfl rfl) (WL.as rfl (WL.nt ?_)))))
         refine CW.ret (finA Tryz.results18 st (.tmp rfl .nil) ?_)
         exact vb ((if_pos h7).trans ((if_neg h11).trans ((if_neg h14).trans ((if_neg h17).trans ((if_neg h22).trans ((if_neg h131).trans ((if_pos h137).trans (if_neg h142))))))))
       ·refine CW.seq (CW.reg (WL.pv (Pu.ieq rfl rfl) (WL.as rfl (WL.nt ?_))))
        refine CW.condP 102 rfl dT dF (fun h144 => ?_) (fun h144 => ?_)
        ·refine CW.seq (CW.reg (WL.pv (Pu.fa rfl fo32_9) (WL.pv (Pu.load rfl ty30 ((f5.drop 11).w st.sub) rfl) (WL.pv (Pu.fa rfl fo32_9) ?_))))
         refine WL.store (o := 11) (c' := [.int .i64 a0.ref.kind, .string a0.ref.space, .string a0.ref.name, .bool false, .slice none 0 0, .slice none 0 0, .string (⟨#[]⟩ : ByteArray), .slice none 0 0, .slice none 0 0, .slice none 0 0, .slice none 0 0, a0.frm.v, .slice none 0 0]) rfl rfl rfl rfl ty30 rfl (one1 rfl rfl) rfl rfl st ?_
         intro W145 st
         refine WL.nt (CW.seq (CW.reg (WL.pv (Pu.fa rfl fo32_10) (WL.pv (Pu.load rfl ty30 ((f5.drop 12).w st.sub) rfl) (WL.pv (Pu.fa rfl fo32_10) ?_)))))
         refine WL.store (o := 12) (c' := [.int .i64 a0.ref.kind, .string a0.ref.space, .string a0.ref.name, .bool false, .slice none 0 0, .slice none 0 0, .string (⟨#[]⟩ : ByteArray), .slice none 0 0, .slice none 0 0, .slice none 0 0, .slice none 0 0, a0.frm.v, a0.to.v]) rfl rfl rfl rfl ty30 rfl (one1 rfl rfl) rfl rfl st ?_
         intro W146 st
         refine WL.nt (CW.reg (WL.pv (Pu.load (v := Object.v a0) rfl ty32 (f5.w st.sub) rfl) ?_))
         refine WL.callv rfl rfl en87 rfl rfl st (c87 a0 st.sub (k0p.le l4)) ?_
         intro W147 st
         refine WL.as rfl ?_
         refine WL.nil (QX.blkN (QX.thenN ?_))
         refine CW.seq (CW.reg (WL.mv rfl (WL.mv rfl ?_)))
         refine WL.splitP 113 rfl rT rF (fun h148 => ?_) (fun h148 => ?_)
         ·refine WL.pv (Pu.load (v := Object.v (⟨a0.ref, false, (Sl.nil : Sl Pair), (Sl.nil : Sl Int), (⟨#[]⟩ : ByteArray), (Sl.nil : Sl Listener), (Sl.nil : Sl Parent), (Sl.nil : Sl ByteArray), (Sl.nil : Sl Rule), a0.frm, a0.to⟩ : Object)) rfl ty32 (AtW.block (st.own _ (.head _)).1.2) rfl) (WL.pv (Pu.load (v := Object.v a0) rfl ty32 (f5.w st.sub) rfl) ?_)
          refine WL.callv rfl rfl en25 rfl rfl st (c25 (⟨a0.ref, false, (Sl.nil : Sl Pair), (Sl.nil : Sl Int), (⟨#[]⟩ : ByteArray), (Sl.nil : Sl Listener), (Sl.nil : Sl Parent), (Sl.nil : Sl ByteArray), (Sl.nil : Sl Rule), a0.frm, a0.to⟩ : Object) a0 st.sub ⟨(k0p.ref.le l4), Sl.Ok.nil, Sl.Ok.nil, (by first|omega|simp<;>omega), Sl.Ok.nil, Sl.Ok.nil, Sl.Ok.nil, Sl.Ok.nil, (k0p.frm.le l4), (k0p.to.le l4)⟩ (k0p.le l4)) ?_
          intro W149 st
          refine WL.pv (Pu.pickT rfl rfl) (WL.as rfl (WL.nt ?_))
          refine CW.ret (finA Tryz.results18 st (.tmp rfl .nil) ?_)
          exact vb ((if_pos h7).trans ((if_neg h11).trans ((if_neg h14).trans ((if_neg h17).trans ((if_neg h22).trans ((if_neg h131).trans ((if_neg h137).trans ((if_pos h144).trans (if_pos h148)))))))))
         ·refine WL.of (WL.of (WL.of (WL.pv (Pu.pickF rfl rfl) (WL.as rfl (WL.nt ?_)))))
          refine CW.ret (finA Tryz.results18 st (.tmp rfl .nil) ?_)
          exact vb ((if_pos h7).trans ((if_neg h11).trans ((if_neg h14).trans ((if_neg h17).trans ((if_neg h22).trans ((if_neg h131).trans ((if_neg h137).trans ((if_pos h144).trans (if_neg h148)))))))))
        ·refine CW.skip (QX.blkN (QX.thenN ?_))
         refine CW.seq (CW.reg (WL.mv rfl (WL.mv rfl (WL.pv (Pu.load (v := Object.v (⟨a0.ref, false, (Sl.nil : Sl Pair), (Sl.nil : Sl Int), (⟨#[]⟩ : ByteArray), (Sl.nil : Sl Listener), (Sl.nil : Sl Parent), (Sl.nil : Sl ByteArray), (Sl.nil : Sl Rule), (Sl.nil : Sl Side), (Sl.nil : Sl Side)⟩ : Object)) rfl ty32 (AtW.block (st.own _ (.head _)).1.2) rfl) (WL.pv (Pu.load (v := Object.v a0) rfl ty32 (f5.w st.sub) rfl) ?_)))))
         refine WL.callv rfl rfl en25 rfl rfl st (c25 (⟨a0.ref, false, (Sl.nil : Sl Pair), (Sl.nil : Sl Int), (⟨#[]⟩ : ByteArray), (Sl.nil : Sl Listener), (Sl.nil : Sl Parent), (Sl.nil : Sl ByteArray), (Sl.nil : Sl Rule), (Sl.nil : Sl Side), (Sl.nil : Sl Side)⟩ : Object) a0 st.sub ⟨(k0p.ref.le l4), Sl.Ok.nil, Sl.Ok.nil, (by first|omega|simp<;>omega), Sl.Ok.nil, Sl.Ok.nil, Sl.Ok.nil, Sl.Ok.nil, Sl.Ok.nil, Sl.Ok.nil⟩ (k0p.le l4)) ?_
         intro W150 st
         refine WL.pv (Pu.pickT rfl rfl) (WL.as rfl (WL.nt ?_))
         refine CW.ret (finA Tryz.results18 st (.tmp rfl .nil) ?_)
         exact vb ((if_pos h7).trans ((if_neg h11).trans ((if_neg h14).trans ((if_neg h17).trans ((if_neg h22).trans ((if_neg h131).trans ((if_neg h137).trans (if_neg h144))))))))
end Go.Proofs.TB
