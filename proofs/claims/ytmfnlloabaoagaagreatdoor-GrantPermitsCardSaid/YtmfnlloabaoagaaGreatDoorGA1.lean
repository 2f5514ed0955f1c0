import Derived.Test.YtmfnlloabaoagaaGreatDoorGA
import Derived.Test.YtmfnlloabaoagaaGreatDoorProg
import Derived.KernelRfl
set_option linter.unusedVariables false
set_option maxRecDepth 100000
namespace Go.Proofs.TB
open Go.RowKit
/-! toll tollref05.Token -/
def m261_j1 (a0 : ByteArray) (r1 : Int) : Bool :=
 if (48 : Int) ≤ bt a0 r1 then (if (bt a0 r1) ≤ 57 then true else if (65 : Int) ≤ bt a0 r1 then (if (bt a0 r1) ≤ 90 then true else if (97 : Int) ≤ bt a0 r1 then (decide ((bt a0 r1) ≤ 122)) else false) else if (97 : Int) ≤ bt a0 r1 then (decide ((bt a0 r1) ≤ 122)) else false) else if (65 : Int) ≤ bt a0 r1 then (if (bt a0 r1) ≤ 90 then true else if (97 : Int) ≤ bt a0 r1 then (decide ((bt a0 r1) ≤ 122)) else false) else if (97 : Int) ≤ bt a0 r1 then (decide ((bt a0 r1) ≤ 122)) else false
def m261_l0 (a0 : ByteArray) : Nat → Int → (Bool ⊕ Unit)
 | 0, _ => .inr ()
 | n2 + 1, r1 => lk1 (m261_j1 a0 r1) (fun r13 => if (bt a0 r1) = 33 then (m261_l0 a0 n2 (r1 + 1)) else if (bt a0 r1) = 35 then (m261_l0 a0 n2 (r1 + 1)) else if (bt a0 r1) = 36 then (m261_l0 a0 n2 (r1 + 1)) else if (bt a0 r1) = 37 then (m261_l0 a0 n2 (r1 + 1)) else if (bt a0 r1) = 38 then (m261_l0 a0 n2 (r1 + 1)) else if (bt a0 r1) = 39 then (m261_l0 a0 n2 (r1 + 1)) else if (bt a0 r1) = 42 then (m261_l0 a0 n2 (r1 + 1)) else if (bt a0 r1) = 43 then (m261_l0 a0 n2 (r1 + 1)) else if (bt a0 r1) = 45 then (m261_l0 a0 n2 (r1 + 1)) else if (bt a0 r1) = 46 then (m261_l0 a0 n2 (r1 + 1)) else if (bt a0 r1) = 94 then (m261_l0 a0 n2 (r1 + 1)) else if (bt a0 r1) = 95 then (m261_l0 a0 n2 (r1 + 1)) else if (bt a0 r1) = 96 then (m261_l0 a0 n2 (r1 + 1)) else if (bt a0 r1) = 124 then (m261_l0 a0 n2 (r1 + 1)) else if (bt a0 r1) = 126 then (m261_l0 a0 n2 (r1 + 1)) else if r13 = true then (m261_l0 a0 n2 (r1 + 1)) else .inl false)
def m261 (a0 : ByteArray) : Bool :=
 lk2 (m261_l0 a0 (((a0.size : Int) - 0).toNat) 0) (fun _ => if (1 : Int) ≤ (a0.size : Int) then (decide ((a0.size : Int) ≤ 40)) else false)
theorem c261 (a0 : ByteArray) {w : World} {H : PH} (hs : Sub H w) (k0p : a0.size < 1048576) : Spec Tryz.prog 261 [.string a0].toArray w H (fun _ v => v = .bool (m261 a0)) := by
 refine Spec.enter Tryz.func261 rfl Tryz.ntmps261 rfl ?_
 have st := St.start hs
 refine CW.seq (CW.reg (WL.as rfl (WL.nt (CW.seq (CW.seq (CW.reg (WL.as rfl (WL.nt ?_))))))))
 refine (CW.cuts (fun (s : Unit) W => (∃ H', St w W H H' [] ∧ Le H H') ∧ m261_l0 a0 (((a0.size : Int) - 0).toNat) 0 = .inr ()) (fun (s : Unit) => [(0, Value.string a0)]) ?_ ?_)
 ·refine CW.blk (CW.loop (fun (s : Nat × Int) W => (∃ H', St w W H H' [] ∧ Le H H') ∧ 0 ≤ s.2 ∧ s.2 ≤ (a0.size : Int) ∧ s.1 = ((a0.size : Int) - s.2).toNat ∧ m261_l0 a0 s.1 s.2 = m261_l0 a0 (((a0.size : Int) - 0).toNat) 0) (fun (s : Nat × Int) => [(0, Value.string a0), (3, Value.int .i64 s.2)]) (fun s => s.1) ⟨((a0.size : Int) - 0).toNat, 0⟩ ⟨⟨_, st, Le.refl _⟩, (by first|omega|simp<;>omega), (by first|omega|simp<;>omega), rfl, rfl⟩ (.cons rfl (.cons rfl (.nil _))) ?_)
  rintro ⟨N10, r1⟩ W5 ⟨⟨H3, st, l4⟩, g44, g45, g9, e6⟩
  replace g44 : 0 ≤ r1 := g44
  replace g45 : r1 ≤ (a0.size : Int) := g45
  replace g9 : N10 = ((a0.size : Int) - r1).toNat := g9
  replace e6 : m261_l0 a0 N10 r1 = m261_l0 a0 (((a0.size : Int) - 0).toNat) 0 := e6
  show CW _ _ _ _ [(0, Value.string a0), (3, Value.int .i64 r1)] _
  refine CW.seq (CW.seq (CW.reg (WL.mv rfl (WL.mv rfl ?_))))
  have z11 := k0p
  refine WL.pv (Pu.lenstr rfl Tryz.underlying9) (WL.pv (Pu.ilt rfl rfl) (WL.nt ?_))
  refine CW.condP 9 rfl dT dF (fun h12 => ?_) (fun h12 => ?_)
  ·obtain ⟨n2, rfl⟩ : ∃ k, N10 = k + 1 := ⟨N10 - 1, by omega⟩
   refine CW.skip (QX.thenN ?_)
   refine CW.seq ?_
   refine CW.blk ?_
   refine CW.seq (CW.reg (WL.mv rfl (WL.mv rfl (WL.pv (Pu.ixs rfl rfl Tryz.underlying9 (by omega) (by omega)) (WL.as rfl (WL.nt ?_))))))
   refine CW.seq (CW.cuts (fun (s : Bool) W => (∃ H', St w W H H' [] ∧ Le H3 H') ∧ m261_j1 a0 r1 = s) (fun (s : Bool) => [(0, Value.string a0), (3, Value.int .i64 r1), (4, Value.int .u8 (bt a0 r1)), (5, Value.bool s)]) ?_ ?_)
   ·refine CW.reg (WL.mv rfl (WL.pv (Pu.ile rfl rfl) (WL.mv rfl ?_)))
    refine WL.splitP 17 rfl dT dF (fun h14 => ?_) (fun h14 => ?_)
    ·refine WL.mv rfl (WL.pv (Pu.ile rfl rfl) (WL.pv (Pu.pickT rfl rfl) (WL.mv rfl ?_)))
     refine WL.splitP 21 rfl dT dF (fun h15 => ?_) (fun h15 => ?_)
     ·refine WL.of (WL.of (WL.of (WL.of (WL.of (WL.of (WL.pv (Pu.pickT rfl rfl) (WL.mv rfl (WL.of (WL.of ?_)))))))))
      refine WL.of (WL.of (WL.of (WL.of (WL.pv (Pu.pickT rfl rfl) (WL.as rfl ?_)))))
      refine WL.nil (QX.meets true ?_ (.cons rfl (.cons rfl (.cons rfl (.cons rfl (.nil _))))))
      exact ⟨⟨_, st, (Le.refl _)⟩, (if_pos h14).trans (if_pos h15)⟩
     ·refine WL.mv rfl (WL.pv (Pu.ile rfl rfl) (WL.mv rfl ?_))
      refine WL.splitP 24 rfl dT dF (fun h16 => ?_) (fun h16 => ?_)
      ·refine WL.mv rfl (WL.pv (Pu.ile rfl rfl) (WL.pv (Pu.pickT rfl rfl) (WL.pv (Pu.pickF rfl rfl) (WL.mv rfl ?_))))
       refine WL.splitP 29 rfl dT dF (fun h17 => ?_) (fun h17 => ?_)
       ·refine WL.of (WL.of (WL.of (WL.of (WL.of (WL.of (WL.pv (Pu.pickT rfl rfl) (WL.as rfl ?_)))))))
        refine WL.nil (QX.meets true ?_ (.cons rfl (.cons rfl (.cons rfl (.cons rfl (.nil _))))))
        exact ⟨⟨_, st, (Le.refl _)⟩, (if_pos h14).trans ((if_neg h15).trans ((if_pos h16).trans (if_pos h17)))⟩
       ·refine WL.mv rfl (WL.pv (Pu.ile rfl rfl) (WL.mv rfl ?_))
        refine WL.splitP 32 rfl dT dF (fun h18 => ?_) (fun h18 => ?_)
        ·refine WL.mv rfl (WL.pv (Pu.ile rfl rfl) (WL.pv (Pu.pickT rfl rfl) (WL.pv (Pu.pickF rfl rfl) (WL.as rfl ?_))))
         refine WL.nil (QX.meets (decide ((bt a0 r1) ≤ 122)) ?_ (.cons rfl (.cons rfl (.cons rfl (.cons rfl (.nil _))))))
         exact ⟨⟨_, st, (Le.refl _)⟩, (if_pos h14).trans ((if_neg h15).trans ((if_pos h16).trans ((if_neg h17).trans (if_pos h18))))⟩
        ·refine WL.of (WL.of (WL.pv (Pu.pickF rfl rfl) (WL.pv (Pu.pickF rfl rfl) (WL.as rfl ?_))))
         refine WL.nil (QX.meets false ?_ (.cons rfl (.cons rfl (.cons rfl (.cons rfl (.nil _))))))
         exact ⟨⟨_, st, (Le.refl _)⟩, (if_pos h14).trans ((if_neg h15).trans ((if_pos h16).trans ((if_neg h17).trans (if_neg h18))))⟩
      ·refine WL.of (WL.of (WL.pv (Pu.pickF rfl rfl) (WL.pv (Pu.pickF rfl rfl) (WL.mv rfl (WL.mv rfl (WL.pv (Pu.ile rfl rfl) (WL.mv rfl ?_)))))))
       refine WL.splitP 32 rfl dT dF (fun h19 => ?_) (fun h19 => ?_)
       ·refine WL.mv rfl (WL.pv (Pu.ile rfl rfl) (WL.pv (Pu.pickT rfl rfl) (WL.pv (Pu.pickF rfl rfl) (WL.as rfl ?_))))
        refine WL.nil (QX.meets (decide ((bt a0 r1) ≤ 122)) ?_ (.cons rfl (.cons rfl (.cons rfl (.cons rfl (.nil _))))))
        exact ⟨⟨_, st, (Le.refl _)⟩, (if_pos h14).trans ((if_neg h15).trans ((if_neg h16).trans (if_pos h19)))⟩
       ·refine WL.of (WL.of (WL.pv (Pu.pickF rfl rfl) (WL.pv (Pu.pickF rfl rfl) (WL.as rfl ?_))))
        refine WL.nil (QX.meets false ?_ (.cons rfl (.cons rfl (.cons rfl (.cons rfl (.nil _))))))
        exact ⟨⟨_, st, (Le.refl _)⟩, (if_pos h14).trans ((if_neg h15).trans ((if_neg h16).trans (if_neg h19)))⟩
    ·refine WL.of (WL.of (WL.pv (Pu.pickF rfl rfl) (WL.mv rfl (WL.mv rfl (WL.pv (Pu.ile rfl rfl) (WL.mv rfl ?_))))))
     refine WL.splitP 24 rfl dT dF (fun h20 => ?_) (fun h20 => ?_)
     ·refine WL.mv rfl (WL.pv (Pu.ile rfl rfl) (WL.pv (Pu.pickT rfl rfl) (WL.pv (Pu.pickF rfl rfl) (WL.mv rfl ?_))))
      refine WL.splitP 29 rfl dT dF (fun h21 => ?_) (fun h21 => ?_)
      ·refine WL.of (WL.of (WL.of (WL.of (WL.of (WL.of (WL.pv (Pu.pickT rfl rfl) (WL.as rfl ?_)))))))
       refine WL.nil (QX.meets true ?_ (.cons rfl (.cons rfl (.cons rfl (.cons rfl (.nil _))))))
       exact ⟨⟨_, st, (Le.refl _)⟩, (if_neg h14).trans ((if_pos h20).trans (if_pos h21))⟩
      ·refine WL.mv rfl (WL.pv (Pu.ile rfl rfl) (WL.mv rfl ?_))
       refine WL.splitP 32 rfl dT dF (fun h22 => ?_) (fun h22 => ?_)
       ·refine WL.mv rfl (WL.pv (Pu.ile rfl rfl) (WL.pv (Pu.pickT rfl rfl) (WL.pv (Pu.pickF rfl rfl) (WL.as rfl ?_))))
        refine WL.nil (QX.meets (decide ((bt a0 r1) ≤ 122)) ?_ (.cons rfl (.cons rfl (.cons rfl (.cons rfl (.nil _))))))
        exact ⟨⟨_, st, (Le.refl _)⟩, (if_neg h14).trans ((if_pos h20).trans ((if_neg h21).trans (if_pos h22)))⟩
       ·refine WL.of (WL.of (WL.pv (Pu.pickF rfl rfl) (WL.pv (Pu.pickF rfl rfl) (WL.as rfl ?_))))
        refine WL.nil (QX.meets false ?_ (.cons rfl (.cons rfl (.cons rfl (.cons rfl (.nil _))))))
        exact ⟨⟨_, st, (Le.refl _)⟩, (if_neg h14).trans ((if_pos h20).trans ((if_neg h21).trans (if_neg h22)))⟩
     ·refine WL.of (WL.of (WL.pv (Pu.pickF rfl rfl) (WL.pv (Pu.pickF rfl rfl) (WL.mv rfl (WL.mv rfl (WL.pv (Pu.ile rfl rfl) (WL.mv rfl ?_)))))))
      refine WL.splitP 32 rfl dT dF (fun h23 => ?_) (fun h23 => ?_)
      ·refine WL.mv rfl (WL.pv (Pu.ile rfl rfl) (WL.pv (Pu.pickT rfl rfl) (WL.pv (Pu.pickF rfl rfl) (WL.as rfl ?_))))
       refine WL.nil (QX.meets (decide ((bt a0 r1) ≤ 122)) ?_ (.cons rfl (.cons rfl (.cons rfl (.cons rfl (.nil _))))))
       exact ⟨⟨_, st, (Le.refl _)⟩, (if_neg h14).trans ((if_neg h20).trans (if_pos h23))⟩
      ·refine WL.of (WL.of (WL.pv (Pu.pickF rfl rfl) (WL.pv (Pu.pickF rfl rfl) (WL.as rfl ?_))))
       refine WL.nil (QX.meets false ?_ (.cons rfl (.cons rfl (.cons rfl (.cons rfl (.nil _))))))
       exact ⟨⟨_, st, (Le.refl _)⟩, (if_neg h14).trans ((if_neg h20).trans (if_neg h23))⟩
   rintro r13 W26 ⟨⟨H24, st, l25⟩, e27⟩
   replace st : St w _ _ _ [] := st
   replace e27 : m261_j1 a0 r1 = r13 := e27
   show QX _ _ _ [(0, Value.string a0), (3, Value.int .i64 r1), (4, Value.int .u8 (bt a0 r1)), (5, Value.bool r13)] _
   refine QX.thenN (CW.seq (CW.seq (CW.reg (WL.mv rfl (WL.nt ?_)))))
   refine CW.blk ?_
   refine CW.seq (CW.seq (CW.reg (WL.pv (Pu.ieq rfl rfl) (WL.as rfl (WL.nt ?_)))))
   refine CW.condP 38 rfl dT dF (fun h28 => ?_) (fun h28 => ?_)
   ·refine CW.skip (QX.thenN ?_)
    refine CW.condT rfl ?_
    refine CW.reg (WL.as rfl ?_)
    refine WL.nil (QX.blkN (QX.thenN ?_))
    refine CW.seq (CW.reg (WL.mv rfl (WL.pv (Pu.notb rfl) (WL.nt ?_))))
    refine CW.condF rfl ?_
    refine CW.skip (QX.blkN (QX.thenN ?_))
    refine CW.reg (WL.mv rfl (WL.pv (Pu.iadd rfl rfl (c := r1 + 1) (w64 (by omega) (by omega))) (WL.as rfl ?_)))
    refine WL.nil (QX.round ⟨n2, r1 + 1⟩ ?_ (Nat.lt_succ_self _) (.cons rfl (.cons rfl (.nil _))))
    exact ⟨⟨_, st, (l4.trans l25)⟩, (by first|omega|simp<;>omega), (by first|omega|simp<;>omega), (by first|omega|simp<;>omega), Eq.symm ((Eq.symm e6).trans ((lk1_eq e27).trans (if_pos h28)))⟩
   ·refine CW.seq (CW.reg (WL.pv (Pu.ieq rfl rfl) (WL.as rfl (WL.nt ?_))))
    refine CW.condP 38 rfl dT dF (fun h29 => ?_) (fun h29 => ?_)
    ·refine CW.skip (QX.thenN ?_)
     refine CW.condT rfl ?_
     refine CW.reg (WL.as rfl ?_)
     refine WL.nil (QX.blkN (QX.thenN ?_))
     refine CW.seq (CW.reg (WL.mv rfl (WL.pv (Pu.notb rfl) (WL.nt ?_))))
     refine CW.condF rfl ?_
     refine CW.skip (QX.blkN (QX.thenN ?_))
     refine CW.reg (WL.mv rfl (WL.pv (Pu.iadd rfl rfl (c := r1 + 1) (w64 (by omega) (by omega))) (WL.as rfl ?_)))
     refine WL.nil (QX.round ⟨n2, r1 + 1⟩ ?_ (Nat.lt_succ_self _) (.cons rfl (.cons rfl (.nil _))))
     exact ⟨⟨_, st, (l4.trans l25)⟩, (by first|omega|simp<;>omega), (by first|omega|simp<;>omega), (by first|omega|simp<;>omega), Eq.symm ((Eq.symm e6).trans ((lk1_eq e27).trans ((if_neg h28).trans (if_pos h29))))⟩
    ·refine CW.seq (CW.reg (WL.pv (Pu.ieq rfl rfl) (WL.as rfl (WL.nt ?_))))
     refine CW.condP 38 rfl dT dF (fun h30 => ?_) (fun h30 => ?_)
     ·refine CW.skip (QX.thenN ?_)
      refine CW.condT rfl ?_
      refine CW.reg (WL.as rfl ?_)
      refine WL.nil (QX.blkN (QX.thenN ?_))
      refine CW.seq (CW.reg (WL.mv rfl (WL.pv (Pu.notb rfl) (WL.nt ?_))))
      refine CW.condF rfl ?_
      refine CW.skip (QX.blkN (QX.thenN ?_))
      refine CW.reg (WL.mv rfl (WL.pv (Pu.iadd rfl rfl (c := r1 + 1) (w64 (by omega) (by omega))) (WL.as rfl ?_)))
      refine WL.nil (QX.round ⟨n2, r1 + 1⟩ ?_ (Nat.lt_succ_self _) (.cons rfl (.cons rfl (.nil _))))
      exact ⟨⟨_, st, (l4.trans l25)⟩, (by first|omega|simp<;>omega), (by first|omega|simp<;>omega), (by first|omega|simp<;>omega), Eq.symm ((Eq.symm e6).trans ((lk1_eq e27).trans ((if_neg h28).trans ((if_neg h29).trans (if_pos h30)))))⟩
     ·refine CW.seq (CW.reg (WL.pv (Pu.ieq rfl rfl) (WL.as rfl (WL.nt ?_))))
      refine CW.condP 38 rfl dT dF (fun h31 => ?_) (fun h31 => ?_)
      ·refine CW.skip (QX.thenN ?_)
       refine CW.condT rfl ?_
       refine CW.reg (WL.as rfl ?_)
       refine WL.nil (QX.blkN (QX.thenN ?_))
       refine CW.seq (CW.reg (WL.mv rfl (WL.pv (Pu.notb rfl) (WL.nt ?_))))
       refine CW.condF rfl ?_
       refine CW.skip (QX.blkN (QX.thenN ?_))
       refine CW.reg (WL.mv rfl (WL.pv (Pu.iadd rfl rfl (c := r1 + 1) (w64 (by omega) (by omega))) (WL.as rfl ?_)))
       refine WL.nil (QX.round ⟨n2, r1 + 1⟩ ?_ (Nat.lt_succ_self _) (.cons rfl (.cons rfl (.nil _))))
       exact ⟨⟨_, st, (l4.trans l25)⟩, (by first|omega|simp<;>omega), (by first|omega|simp<;>omega), (by first|omega|simp<;>omega), Eq.symm ((Eq.symm e6).trans ((lk1_eq e27).trans ((if_neg h28).trans ((if_neg h29).trans ((if_neg h30).trans (if_pos h31))))))⟩
      ·refine CW.seq (CW.reg (WL.pv (Pu.ieq rfl rfl) (WL.as rfl (WL.nt ?_))))
       refine CW.condP 38 rfl dT dF (fun h32 => ?_) (fun h32 => ?_)
       ·refine CW.skip (QX.thenN ?_)
        refine CW.condT rfl ?_
        refine CW.reg (WL.as rfl ?_)
        refine WL.nil (QX.blkN (QX.thenN ?_))
        refine CW.seq (CW.reg (WL.mv rfl (WL.pv (Pu.notb rfl) (WL.nt ?_))))
        refine CW.condF rfl ?_
        refine CW.skip (QX.blkN (QX.thenN ?_))
        refine CW.reg (WL.mv rfl (WL.pv (Pu.iadd rfl rfl (c := r1 + 1) (w64 (by omega) (by omega))) (WL.as rfl ?_)))
        refine WL.nil (QX.round ⟨n2, r1 + 1⟩ ?_ (Nat.lt_succ_self _) (.cons rfl (.cons rfl (.nil _))))
        exact ⟨⟨_, st, (l4.trans l25)⟩, (by first|omega|simp<;>omega), (by first|omega|simp<;>omega), (by first|omega|simp<;>omega), Eq.symm ((Eq.symm e6).trans ((lk1_eq e27).trans ((if_neg h28).trans ((if_neg h29).trans ((if_neg h30).trans ((if_neg h31).trans (if_pos h32)))))))⟩
       ·refine CW.seq (CW.reg (WL.pv (Pu.ieq rfl rfl) (WL.as rfl (WL.nt ?_))))
        refine CW.condP 38 rfl dT dF (fun h33 => ?_) (fun h33 => ?_)
        ·refine CW.skip (QX.thenN ?_)
         refine CW.condT rfl ?_
         refine CW.reg (WL.as rfl ?_)
         refine WL.nil (QX.blkN (QX.thenN ?_))
         refine CW.seq (CW.reg (WL.mv rfl (WL.pv (Pu.notb rfl) (WL.nt ?_))))
         refine CW.condF rfl ?_
         refine CW.skip (QX.blkN (QX.thenN ?_))
         refine CW.reg (WL.mv rfl (WL.pv (Pu.iadd rfl rfl (c := r1 + 1) (w64 (by omega) (by omega))) (WL.as rfl ?_)))
         refine WL.nil (QX.round ⟨n2, r1 + 1⟩ ?_ (Nat.lt_succ_self _) (.cons rfl (.cons rfl (.nil _))))
         exact ⟨⟨_, st, (l4.trans l25)⟩, (by first|omega|simp<;>omega), (by first|omega|simp<;>omega), (by first|omega|simp<;>omega), Eq.symm ((Eq.symm e6).trans ((lk1_eq e27).trans ((if_neg h28).trans ((if_neg h29).trans ((if_neg h30).trans ((if_neg h31).trans ((if_neg h32).trans (if_pos h33))))))))⟩
        ·refine CW.seq (CW.reg (WL.pv (Pu.ieq rfl rfl) (WL.as rfl (WL.nt ?_))))
         refine CW.condP 38 rfl dT dF (fun h34 => ?_) (fun h34 => ?_)
         ·refine CW.skip (QX.thenN ?_)
          refine CW.condT rfl ?_
          refine CW.reg (WL.as rfl ?_)
          refine WL.nil (QX.blkN (QX.thenN ?_))
          refine CW.seq (CW.reg (WL.mv rfl (WL.pv (Pu.notb rfl) (WL.nt ?_))))
          refine CW.condF rfl ?_
          refine CW.skip (QX.blkN (QX.thenN ?_))
          refine CW.reg (WL.mv rfl (WL.pv (Pu.iadd rfl rfl (c := r1 + 1) (w64 (by omega) (by omega))) (WL.as rfl ?_)))
          refine WL.nil (QX.round ⟨n2, r1 + 1⟩ ?_ (Nat.lt_succ_self _) (.cons rfl (.cons rfl (.nil _))))
          exact ⟨⟨_, st, (l4.trans l25)⟩, (by first|omega|simp<;>omega), (by first|omega|simp<;>omega), (by first|omega|simp<;>omega), Eq.symm ((Eq.symm e6).trans ((lk1_eq e27).trans ((if_neg h28).trans ((if_neg h29).trans ((if_neg h30).trans ((if_neg h31).trans ((if_neg h32).trans ((if_neg h33).trans (if_pos h34)))))))))⟩
         ·refine CW.seq (CW.reg (WL.pv (Pu.ieq rfl rfl) (WL.as rfl (WL.nt ?_))))
          refine CW.condP 38 rfl dT dF (fun h35 => ?_) (fun h35 => ?_)
          ·refine CW.skip (QX.thenN ?_)
           refine CW.condT rfl ?_
           refine CW.reg (WL.as rfl ?_)
           refine WL.nil (QX.blkN (QX.thenN ?_))
           refine CW.seq (CW.reg (WL.mv rfl (WL.pv (Pu.notb rfl) (WL.nt ?_))))
           refine CW.condF rfl ?_
           refine CW.skip (QX.blkN (QX.thenN ?_))
           refine CW.reg (WL.mv rfl (WL.pv (Pu.iadd rfl rfl (c := r1 + 1) (w64 (by omega) (by omega))) (WL.as rfl ?_)))
           refine WL.nil (QX.round ⟨n2, r1 + 1⟩ ?_ (Nat.lt_succ_self _) (.cons rfl (.cons rfl (.nil _))))
           exact ⟨⟨_, st, (l4.trans l25)⟩, (by first|omega|simp<;>omega), (by first|omega|simp<;>omega), (by first|omega|simp<;>omega), Eq.symm ((Eq.symm e6).trans ((lk1_eq e27).trans ((if_neg h28).trans ((if_neg h29).trans ((if_neg h30).trans ((if_neg h31).trans ((if_neg h32).trans ((if_neg h33).trans ((if_neg h34).trans (if_pos h35))))))))))⟩
          ·refine CW.seq (CW.reg (WL.pv (Pu.ieq rfl rfl) (WL.as rfl (WL.nt ?_))))
           refine CW.condP 38 rfl dT dF (fun h36 => ?_) (fun h36 => ?_)
           ·refine CW.skip (QX.thenN ?_)
            refine CW.condT rfl ?_
            refine CW.reg (WL.as rfl ?_)
            refine WL.nil (QX.blkN (QX.thenN ?_))
            refine CW.seq (CW.reg (WL.mv rfl (WL.pv (Pu.notb rfl) (WL.nt ?_))))
            refine CW.condF rfl ?_
            refine CW.skip (QX.blkN (QX.thenN ?_))
            refine CW.reg (WL.mv rfl (WL.pv (Pu.iadd rfl rfl (c := r1 + 1) (w64 (by omega) (by omega))) (WL.as rfl ?_)))
            refine WL.nil (QX.round ⟨n2, r1 + 1⟩ ?_ (Nat.lt_succ_self _) (.cons rfl (.cons rfl (.nil _))))
            exact ⟨⟨_, st, (l4.trans l25)⟩, (by first|omega|simp<;>omega), (by first|omega|simp<;>omega), (by first|omega|simp<;>omega), Eq.symm ((Eq.symm e6).trans ((lk1_eq e27).trans ((if_neg h28).trans ((if_neg h29).trans ((if_neg h30).trans ((if_neg h31).trans ((if_neg h32).trans ((if_neg h33).trans ((if_neg h34).trans ((if_neg h35).trans (if_pos h36)))))))))))⟩
           ·refine CW.seq (CW.reg (WL.pv (Pu.ieq rfl rfl) (WL.as rfl (WL.nt ?_))))
            refine CW.condP 38 rfl dT dF (fun h37 => ?_) (fun h37 => ?_)
            ·refine CW.skip (QX.thenN ?_)
             refine CW.condT rfl ?_
             refine CW.reg (WL.as rfl ?_)
             refine WL.nil (QX.blkN (QX.thenN ?_))
             refine CW.seq (CW.reg (WL.mv rfl (WL.pv (Pu.notb rfl) (WL.nt ?_))))
             refine CW.condF rfl ?_
             refine CW.skip (QX.blkN (QX.thenN ?_))
             refine CW.reg (WL.mv rfl (WL.pv (Pu.iadd rfl rfl (c := r1 + 1) (w64 (by omega) (by omega))) (WL.as rfl ?_)))
             refine WL.nil (QX.round ⟨n2, r1 + 1⟩ ?_ (Nat.lt_succ_self _) (.cons rfl (.cons rfl (.nil _))))
             exact ⟨⟨_, st, (l4.trans l25)⟩, (by first|omega|simp<;>omega), (by first|omega|simp<;>omega), (by first|omega|simp<;>omega), Eq.symm ((Eq.symm e6).trans ((lk1_eq e27).trans ((if_neg h28).trans ((if_neg h29).trans ((if_neg h30).trans ((if_neg h31).trans ((if_neg h32).trans ((if_neg h33).trans ((if_neg h34).trans ((if_neg h35).trans ((if_neg h36).trans (if_pos h37))))))))))))⟩
            ·refine CW.seq (CW.reg (WL.pv (Pu.ieq rfl rfl) (WL.as rfl (WL.nt ?_))))
             refine CW.condP 38 rfl dT dF (fun h38 => ?_) (fun h38 => ?_)
             ·refine CW.skip (QX.thenN ?_)
              refine CW.condT rfl ?_
              refine CW.reg (WL.as rfl ?_)
              refine WL.nil (QX.blkN (QX.thenN ?_))
              refine CW.seq (CW.reg (WL.mv rfl (WL.pv (Pu.notb rfl) (WL.nt ?_))))
              refine CW.condF rfl ?_
              refine CW.skip (QX.blkN (QX.thenN ?_))
              refine CW.reg (WL.mv rfl (WL.pv (Pu.iadd rfl rfl (c := r1 + 1) (w64 (by omega) (by omega))) (WL.as rfl ?_)))
              refine WL.nil (QX.round ⟨n2, r1 + 1⟩ ?_ (Nat.lt_succ_self _) (.cons rfl (.cons rfl (.nil _))))
              exact ⟨⟨_, st, (l4.trans l25)⟩, (by first|omega|simp<;>omega), (by first|omega|simp<;>omega), (by first|omega|simp<;>omega), Eq.symm ((Eq.symm e6).trans ((lk1_eq e27).trans ((if_neg h28).trans ((if_neg h29).trans ((if_neg h30).trans ((if_neg h31).trans ((if_neg h32).trans ((if_neg h33).trans ((if_neg h34).trans ((if_neg h35).trans ((if_neg h36).trans ((if_neg h37).trans (if_pos h38)))))))))))))⟩
             ·refine CW.seq (CW.reg (WL.pv (Pu.ieq rfl rfl) (WL.as rfl (WL.nt ?_))))
              refine CW.condP 38 rfl dT dF (fun h39 => ?_) (fun h39 => ?_)
              ·refine CW.skip (QX.thenN ?_)
               refine CW.condT rfl ?_
               refine CW.reg (WL.as rfl ?_)
               refine WL.nil (QX.blkN (QX.thenN ?_))
               refine CW.seq (CW.reg (WL.mv rfl (WL.pv (Pu.notb rfl) (WL.nt ?_))))
               refine CW.condF rfl ?_
               refine CW.skip (QX.blkN (QX.thenN ?_))
               refine CW.reg (WL.mv rfl (WL.pv (Pu.iadd rfl rfl (c := r1 + 1) (w64 (by omega) (by omega))) (WL.as rfl ?_)))
               refine WL.nil (QX.round ⟨n2, r1 + 1⟩ ?_ (Nat.lt_succ_self _) (.cons rfl (.cons rfl (.nil _))))
               exact ⟨⟨_, st, (l4.trans l25)⟩, (by first|omega|simp<;>omega), (by first|omega|simp<;>omega), (by first|omega|simp<;>omega), Eq.symm ((Eq.symm e6).trans ((lk1_eq e27).trans ((if_neg h28).trans ((if_neg h29).trans ((if_neg h30).trans ((if_neg h31).trans ((if_neg h32).trans ((if_neg h33).trans ((if_neg h34).trans ((if_neg h35).trans ((if_neg h36).trans ((if_neg h37).trans ((if_neg h38).trans (if_pos h39))))))))))))))⟩
              ·refine CW.seq (CW.reg (WL.pv (Pu.ieq rfl rfl) (WL.as rfl (WL.nt ?_))))
               refine CW.condP 38 rfl dT dF (fun h40 => ?_) (fun h40 => ?_)
               ·refine CW.skip (QX.thenN ?_)
                refine CW.condT rfl ?_
                refine CW.reg (WL.as rfl ?_)
                refine WL.nil (QX.blkN (QX.thenN ?_))
                refine CW.seq (CW.reg (WL.mv rfl (WL.pv (Pu.notb rfl) (WL.nt ?_))))
                refine CW.condF rfl ?_
                refine CW.skip (QX.blkN (QX.thenN ?_))
                refine CW.reg (WL.mv rfl (WL.pv (Pu.iadd rfl rfl (c := r1 + 1) (w64 (by omega) (by omega))) (WL.as rfl ?_)))
                refine WL.nil (QX.round ⟨n2, r1 + 1⟩ ?_ (Nat.lt_succ_self _) (.cons rfl (.cons rfl (.nil _))))
                exact ⟨⟨_, st, (l4.trans l25)⟩, (by first|omega|simp<;>omega), (by first|omega|simp<;>omega), (by first|omega|simp<;>omega), Eq.symm ((Eq.symm e6).trans ((lk1_eq e27).trans ((if_neg h28).trans ((if_neg h29).trans ((if_neg h30).trans ((if_neg h31).trans ((if_neg h32).trans ((if_neg h33).trans ((if_neg h34).trans ((if_neg h35).trans ((if_neg h36).trans ((if_neg h37).trans ((if_neg h38).trans ((if_neg h39).trans (if_pos h40)))))))))))))))⟩
               ·refine CW.seq (CW.reg (WL.pv (Pu.ieq rfl rfl) (WL.as rfl (WL.nt ?_))))
                refine CW.condP 38 rfl dT dF (fun h41 => ?_) (fun h41 => ?_)
                ·refine CW.skip (QX.thenN ?_)
                 refine CW.condT rfl ?_
                 refine CW.reg (WL.as rfl ?_)
                 refine WL.nil (QX.blkN (QX.thenN ?_))
                 refine CW.seq (CW.reg (WL.mv rfl (WL.pv (Pu.notb rfl) (WL.nt ?_))))
                 refine CW.condF rfl ?_
                 refine CW.skip (QX.blkN (QX.thenN ?_))
                 refine CW.reg (WL.mv rfl (WL.pv (Pu.iadd rfl rfl (c := r1 + 1) (w64 (by omega) (by omega))) (WL.as rfl ?_)))
                 refine WL.nil (QX.round ⟨n2, r1 + 1⟩ ?_ (Nat.lt_succ_self _) (.cons rfl (.cons rfl (.nil _))))
                 exact ⟨⟨_, st, (l4.trans l25)⟩, (by first|omega|simp<;>omega), (by first|omega|simp<;>omega), (by first|omega|simp<;>omega), Eq.symm ((Eq.symm e6).trans ((lk1_eq e27).trans ((if_neg h28).trans ((if_neg h29).trans ((if_neg h30).trans ((if_neg h31).trans ((if_neg h32).trans ((if_neg h33).trans ((if_neg h34).trans ((if_neg h35).trans ((if_neg h36).trans ((if_neg h37).trans ((if_neg h38).trans ((if_neg h39).trans ((if_neg h40).trans (if_pos h41))))))))))))))))⟩
                ·refine CW.reg (WL.pv (Pu.ieq rfl rfl) (WL.as rfl (WL.nt ?_)))
                 refine CW.condP 38 rfl dT dF (fun h42 => ?_) (fun h42 => ?_)
                 ·refine CW.reg (WL.as rfl ?_)
                  refine WL.nil (QX.blkN (QX.thenN ?_))
                  refine CW.seq (CW.reg (WL.mv rfl (WL.pv (Pu.notb rfl) (WL.nt ?_))))
                  refine CW.condF rfl ?_
                  refine CW.skip (QX.blkN (QX.thenN ?_))
                  refine CW.reg (WL.mv rfl (WL.pv (Pu.iadd rfl rfl (c := r1 + 1) (w64 (by omega) (by omega))) (WL.as rfl ?_)))
                  refine WL.nil (QX.round ⟨n2, r1 + 1⟩ ?_ (Nat.lt_succ_self _) (.cons rfl (.cons rfl (.nil _))))
                  exact ⟨⟨_, st, (l4.trans l25)⟩, (by first|omega|simp<;>omega), (by first|omega|simp<;>omega), (by first|omega|simp<;>omega), Eq.symm ((Eq.symm e6).trans ((lk1_eq e27).trans ((if_neg h28).trans ((if_neg h29).trans ((if_neg h30).trans ((if_neg h31).trans ((if_neg h32).trans ((if_neg h33).trans ((if_neg h34).trans ((if_neg h35).trans ((if_neg h36).trans ((if_neg h37).trans ((if_neg h38).trans ((if_neg h39).trans ((if_neg h40).trans ((if_neg h41).trans (if_pos h42)))))))))))))))))⟩
                 ·refine CW.skip (QX.blkN (QX.thenN ?_))
                  refine CW.seq (CW.reg (WL.mv rfl (WL.pv (Pu.notb rfl) (WL.nt ?_))))
                  refine CW.condP 55 rfl mT mF (fun h43 => ?_) (fun h43 => ?_)
                  ·refine CW.seq (CW.reg (WL.as rfl (WL.nt ?_)))
                   refine CW.ret (QX.blkR (QX.thenR (QX.thenR (QX.blkR (QX.thenR (QX.thenR (finA Tryz.results261 st (.tmp rfl .nil) ?_)))))))
                   exact vb (lk_inl ((Eq.symm e6).trans ((lk1_eq e27).trans ((if_neg h28).trans ((if_neg h29).trans ((if_neg h30).trans ((if_neg h31).trans ((if_neg h32).trans ((if_neg h33).trans ((if_neg h34).trans ((if_neg h35).trans ((if_neg h36).trans ((if_neg h37).trans ((if_neg h38).trans ((if_neg h39).trans ((if_neg h40).trans ((if_neg h41).trans ((if_neg h42).trans (if_neg h43)))))))))))))))))))
                  ·refine CW.skip (QX.blkN (QX.thenN ?_))
                   refine CW.reg (WL.mv rfl (WL.pv (Pu.iadd rfl rfl (c := r1 + 1) (w64 (by omega) (by omega))) (WL.as rfl ?_)))
                   refine WL.nil (QX.round ⟨n2, r1 + 1⟩ ?_ (Nat.lt_succ_self _) (.cons rfl (.cons rfl (.nil _))))
                   exact ⟨⟨_, st, (l4.trans l25)⟩, (by first|omega|simp<;>omega), (by first|omega|simp<;>omega), (by first|omega|simp<;>omega), Eq.symm ((Eq.symm e6).trans ((lk1_eq e27).trans ((if_neg h28).trans ((if_neg h29).trans ((if_neg h30).trans ((if_neg h31).trans ((if_neg h32).trans ((if_neg h33).trans ((if_neg h34).trans ((if_neg h35).trans ((if_neg h36).trans ((if_neg h37).trans ((if_neg h38).trans ((if_neg h39).trans ((if_neg h40).trans ((if_neg h41).trans ((if_neg h42).trans (if_pos h43))))))))))))))))))⟩
  ·obtain rfl : N10 = 0 := by omega
   refine CW.exit (QX.thenE (QX.thenE (QX.hit (QX.meets () ?_ (.cons rfl (.nil _))))))
   exact ⟨⟨_, st, l4⟩, Eq.symm e6⟩
 rintro _ W48 ⟨⟨H46, st, l47⟩, e49⟩
 show QX _ _ _ [(0, Value.string a0)] _
 refine QX.thenN (CW.seq (CW.reg (WL.mv rfl ?_)))
 have z50 := k0p
 refine WL.pv (Pu.lenstr rfl Tryz.underlying9) (WL.pv (Pu.ile rfl rfl) (WL.mv rfl ?_))
 refine WL.splitP 59 rfl dT dF (fun h51 => ?_) (fun h51 => ?_)
 ·refine WL.mv rfl ?_
  have z52 := k0p
  refine WL.pv (Pu.lenstr rfl Tryz.underlying9) (WL.pv (Pu.ile rfl rfl) (WL.pv (Pu.pickT rfl rfl) (WL.as rfl (WL.nt ?_))))
  refine CW.ret (finA Tryz.results261 st (.tmp rfl .nil) ?_)
  exact vb ((lk_inr e49).trans (if_pos h51))
 ·refine WL.of (WL.of (WL.of (WL.pv (Pu.pickF rfl rfl) (WL.as rfl (WL.nt ?_)))))
  refine CW.ret (finA Tryz.results261 st (.tmp rfl .nil) ?_)
  exact vb ((lk_inr e49).trans (if_neg h51))
/-! toll tollref05.Value -/
def m262_l0 (a0 : ByteArray) : Nat → Int → (Bool ⊕ Unit)
 | 0, _ => .inr ()
 | n2 + 1, r1 => if r1 = 0 then (if (bt a0 r1) < 32 then (.inl false) else if (126 : Int) < bt a0 r1 then (.inl false) else if (bt a0 r1) = 32 then (.inl false) else m262_l0 a0 n2 (r1 + 1)) else if (bt a0 r1) < 32 then (.inl false) else if (126 : Int) < bt a0 r1 then (.inl false) else if (bt a0 r1) = 32 then (if r1 = (a0.size : Int) - 1 then (.inl false) else m262_l0 a0 n2 (r1 + 1)) else m262_l0 a0 n2 (r1 + 1)
def m262 (a0 : ByteArray) : Bool :=
 lk2 (m262_l0 a0 (((a0.size : Int) - 0).toNat) 0) (fun _ => decide ((a0.size : Int) ≤ 40))
theorem c262 (a0 : ByteArray) {w : World} {H : PH} (hs : Sub H w) (k0p : a0.size < 1048576) : Spec Tryz.prog 262 [.string a0].toArray w H (fun _ v => v = .bool (m262 a0)) := by
 refine Spec.enter Tryz.func262 rfl Tryz.ntmps262 rfl ?_
 have st := St.start hs
 refine CW.seq (CW.reg (WL.as rfl (WL.nt (CW.seq (CW.seq (CW.reg (WL.as rfl (WL.nt ?_))))))))
 refine (CW.cuts (fun (s : Unit) W => (∃ H', St w W H H' [] ∧ Le H H') ∧ m262_l0 a0 (((a0.size : Int) - 0).toNat) 0 = .inr ()) (fun (s : Unit) => [(0, Value.string a0)]) ?_ ?_)
 ·refine CW.blk (CW.loop (fun (s : Nat × Int) W => (∃ H', St w W H H' [] ∧ Le H H') ∧ 0 ≤ s.2 ∧ s.2 ≤ (a0.size : Int) ∧ s.1 = ((a0.size : Int) - s.2).toNat ∧ m262_l0 a0 s.1 s.2 = m262_l0 a0 (((a0.size : Int) - 0).toNat) 0) (fun (s : Nat × Int) => [(0, Value.string a0), (3, Value.int .i64 s.2)]) (fun s => s.1) ⟨((a0.size : Int) - 0).toNat, 0⟩ ⟨⟨_, st, Le.refl _⟩, (by first|omega|simp<;>omega), (by first|omega|simp<;>omega), rfl, rfl⟩ (.cons rfl (.cons rfl (.nil _))) ?_)
  rintro ⟨N10, r1⟩ W5 ⟨⟨H3, st, l4⟩, g22, g23, g9, e6⟩
  replace g22 : 0 ≤ r1 := g22
  replace g23 : r1 ≤ (a0.size : Int) := g23
  replace g9 : N10 = ((a0.size : Int) - r1).toNat := g9
  replace e6 : m262_l0 a0 N10 r1 = m262_l0 a0 (((a0.size : Int) - 0).toNat) 0 := e6
  show CW _ _ _ _ [(0, Value.string a0), (3, Value.int .i64 r1)] _
  refine CW.seq (CW.seq (CW.reg (WL.mv rfl (WL.mv rfl ?_))))
  have z11 := k0p
  refine WL.pv (Pu.lenstr rfl Tryz.underlying9) (WL.pv (Pu.ilt rfl rfl) (WL.nt ?_))
  refine CW.condP 8 rfl dT dF (fun h12 => ?_) (fun h12 => ?_)
  ·obtain ⟨n2, rfl⟩ : ∃ k, N10 = k + 1 := ⟨N10 - 1, by omega⟩
   refine CW.skip (QX.thenN ?_)
   refine CW.seq ?_
   refine CW.blk ?_
   refine CW.seq (CW.reg (WL.mv rfl (WL.pv (Pu.ieq rfl rfl) (WL.mv rfl ?_))))
   refine WL.splitP 13 rfl dT dF (fun h13 => ?_) (fun h13 => ?_)
   ·refine WL.of (WL.of (WL.of (WL.of (WL.of (WL.pv (Pu.pickT rfl rfl) (WL.as rfl (WL.nt (CW.seq (CW.reg ?_)))))))))
    refine WL.mv rfl (WL.mv rfl (WL.pv (Pu.ixs rfl rfl Tryz.underlying9 (by omega) (by omega)) (WL.pv (Pu.ilt rfl rfl) (WL.mv rfl ?_))))
    refine WL.splitP 24 rfl dT dF (fun h14 => ?_) (fun h14 => ?_)
    ·refine WL.of (WL.of (WL.of (WL.of (WL.pv (Pu.pickT rfl rfl) (WL.mv rfl (WL.of (WL.of (WL.of (WL.of ?_)))))))))
     refine WL.of (WL.of (WL.of (WL.pv (Pu.pickT rfl rfl) (WL.nt ?_))))
     refine CW.condT rfl ?_
     refine CW.seq (CW.reg (WL.as rfl (WL.nt ?_)))
     refine CW.ret (QX.blkR (QX.thenR (QX.thenR (QX.blkR (QX.thenR (QX.thenR (finA Tryz.results262 st (.tmp rfl .nil) ?_)))))))
     exact vb (lk_inl ((Eq.symm e6).trans ((if_pos h13).trans (if_pos h14))))
    ·refine WL.mv rfl (WL.mv rfl (WL.pv (Pu.ixs rfl rfl Tryz.underlying9 (by omega) (by omega)) (WL.pv (Pu.igt rfl rfl) (WL.pv (Pu.pickF rfl rfl) (WL.mv rfl ?_)))))
     refine WL.splitP 30 rfl dT dF (fun h15 => ?_) (fun h15 => ?_)
     ·refine WL.of (WL.of (WL.of (WL.of (WL.of (WL.of (WL.of (WL.pv (Pu.pickT rfl rfl) (WL.nt ?_))))))))
      refine CW.condT rfl ?_
      refine CW.seq (CW.reg (WL.as rfl (WL.nt ?_)))
      refine CW.ret (QX.blkR (QX.thenR (QX.thenR (QX.blkR (QX.thenR (QX.thenR (finA Tryz.results262 st (.tmp rfl .nil) ?_)))))))
      exact vb (lk_inl ((Eq.symm e6).trans ((if_pos h13).trans ((if_neg h14).trans (if_pos h15)))))
     ·refine WL.mv rfl (WL.mv rfl (WL.pv (Pu.ixs rfl rfl Tryz.underlying9 (by omega) (by omega)) (WL.pv (Pu.ieq rfl rfl) (WL.mv rfl ?_))))
      refine WL.splitP 35 rfl dT dF (fun h16 => ?_) (fun h16 => ?_)
      ·refine WL.mv rfl (WL.pv (Pu.pickT rfl rfl) (WL.pv (Pu.pickF rfl rfl) (WL.nt ?_)))
       refine CW.condT rfl ?_
       refine CW.seq (CW.reg (WL.as rfl (WL.nt ?_)))
       refine CW.ret (QX.blkR (QX.thenR (QX.thenR (QX.blkR (QX.thenR (QX.thenR (finA Tryz.results262 st (.tmp rfl .nil) ?_)))))))
       exact vb (lk_inl ((Eq.symm e6).trans ((if_pos h13).trans ((if_neg h14).trans ((if_neg h15).trans (if_pos h16))))))
      ·refine WL.of (WL.pv (Pu.pickF rfl rfl) (WL.pv (Pu.pickF rfl rfl) (WL.nt ?_)))
       refine CW.condF rfl ?_
       refine CW.skip (QX.blkN (QX.thenN ?_))
       refine CW.reg (WL.mv rfl (WL.pv (Pu.iadd rfl rfl (c := r1 + 1) (w64 (by omega) (by omega))) (WL.as rfl ?_)))
       refine WL.nil (QX.round ⟨n2, r1 + 1⟩ ?_ (Nat.lt_succ_self _) (.cons rfl (.cons rfl (.nil _))))
       exact ⟨⟨_, st, l4⟩, (by first|omega|simp<;>omega), (by first|omega|simp<;>omega), (by first|omega|simp<;>omega), Eq.symm ((Eq.symm e6).trans ((if_pos h13).trans ((if_neg h14).trans ((if_neg h15).trans (if_neg h16)))))⟩
   ·refine WL.mv rfl ?_
    refine WL.mv rfl ?_
    have z17 := k0p
    refine WL.pv (Pu.lenstr rfl Tryz.underlying9) (WL.pv (Pu.isub rfl rfl (c := (a0.size : Int) - 1) (w64 (by omega) (by omega))) (WL.pv (Pu.ieq rfl rfl) (WL.pv (Pu.pickF rfl rfl) (WL.as rfl (WL.nt (CW.seq (CW.reg (WL.mv rfl (WL.mv rfl ?_)))))))))
    refine WL.pv (Pu.ixs rfl rfl Tryz.underlying9 (by omega) (by omega)) (WL.pv (Pu.ilt rfl rfl) (WL.mv rfl ?_))
    refine WL.splitP 24 rfl dT dF (fun h18 => ?_) (fun h18 => ?_)
    ·refine WL.of (WL.of (WL.of (WL.of (WL.pv (Pu.pickT rfl rfl) (WL.mv rfl (WL.of (WL.of (WL.of (WL.of ?_)))))))))
     refine WL.of (WL.of (WL.of (WL.pv (Pu.pickT rfl rfl) (WL.nt ?_))))
     refine CW.condT rfl ?_
     refine CW.seq (CW.reg (WL.as rfl (WL.nt ?_)))
     refine CW.ret (QX.blkR (QX.thenR (QX.thenR (QX.blkR (QX.thenR (QX.thenR (finA Tryz.results262 st (.tmp rfl .nil) ?_)))))))
     exact vb (lk_inl ((Eq.symm e6).trans ((if_neg h13).trans (if_pos h18))))
    ·refine WL.mv rfl (WL.mv rfl (WL.pv (Pu.ixs rfl rfl Tryz.underlying9 (by omega) (by omega)) (WL.pv (Pu.igt rfl rfl) (WL.pv (Pu.pickF rfl rfl) (WL.mv rfl ?_)))))
     refine WL.splitP 30 rfl dT dF (fun h19 => ?_) (fun h19 => ?_)
     ·refine WL.of (WL.of (WL.of (WL.of (WL.of (WL.of (WL.of (WL.pv (Pu.pickT rfl rfl) (WL.nt ?_))))))))
      refine CW.condT rfl ?_
      refine CW.seq (CW.reg (WL.as rfl (WL.nt ?_)))
      refine CW.ret (QX.blkR (QX.thenR (QX.thenR (QX.blkR (QX.thenR (QX.thenR (finA Tryz.results262 st (.tmp rfl .nil) ?_)))))))
      exact vb (lk_inl ((Eq.symm e6).trans ((if_neg h13).trans ((if_neg h18).trans (if_pos h19)))))
     ·refine WL.mv rfl (WL.mv rfl (WL.pv (Pu.ixs rfl rfl Tryz.underlying9 (by omega) (by omega)) (WL.pv (Pu.ieq rfl rfl) (WL.mv rfl ?_))))
      refine WL.splitP 35 rfl dT dF (fun h20 => ?_) (fun h20 => ?_)
      ·refine WL.mv rfl (WL.pv (Pu.pickT rfl rfl) (WL.pv (Pu.pickF rfl rfl) (WL.nt ?_)))
       refine CW.condP 38 rfl dT dF (fun h21 => ?_) (fun h21 => ?_)
       ·refine CW.seq (CW.reg (WL.as rfl (WL.nt ?_)))
        refine CW.ret (QX.blkR (QX.thenR (QX.thenR (QX.blkR (QX.thenR (QX.thenR (finA Tryz.results262 st (.tmp rfl .nil) ?_)))))))
        exact vb (lk_inl ((Eq.symm e6).trans ((if_neg h13).trans ((if_neg h18).trans ((if_neg h19).trans ((if_pos h20).trans (if_pos h21)))))))
       ·refine CW.skip (QX.blkN (QX.thenN ?_))
        refine CW.reg (WL.mv rfl (WL.pv (Pu.iadd rfl rfl (c := r1 + 1) (w64 (by omega) (by omega))) (WL.as rfl ?_)))
        refine WL.nil (QX.round ⟨n2, r1 + 1⟩ ?_ (Nat.lt_succ_self _) (.cons rfl (.cons rfl (.nil _))))
        exact ⟨⟨_, st, l4⟩, (by first|omega|simp<;>omega), (by first|omega|simp<;>omega), (by first|omega|simp<;>omega), Eq.symm ((Eq.symm e6).trans ((if_neg h13).trans ((if_neg h18).trans ((if_neg h19).trans ((if_pos h20).trans (if_neg h21))))))⟩
      ·refine WL.of (WL.pv (Pu.pickF rfl rfl) (WL.pv (Pu.pickF rfl rfl) (WL.nt ?_)))
       refine CW.condF rfl ?_
       refine CW.skip (QX.blkN (QX.thenN ?_))
       refine CW.reg (WL.mv rfl (WL.pv (Pu.iadd rfl rfl (c := r1 + 1) (w64 (by omega) (by omega))) (WL.as rfl ?_)))
       refine WL.nil (QX.round ⟨n2, r1 + 1⟩ ?_ (Nat.lt_succ_self _) (.cons rfl (.cons rfl (.nil _))))
       exact ⟨⟨_, st, l4⟩, (by first|omega|simp<;>omega), (by first|omega|simp<;>omega), (by first|omega|simp<;>omega), Eq.symm ((Eq.symm e6).trans ((if_neg h13).trans ((if_neg h18).trans ((if_neg h19).trans (if_neg h20)))))⟩
  ·obtain rfl : N10 = 0 := by omega
   refine CW.exit (QX.thenE (QX.thenE (QX.hit (QX.meets () ?_ (.cons rfl (.nil _))))))
   exact ⟨⟨_, st, l4⟩, Eq.symm e6⟩
 rintro _ W26 ⟨⟨H24, st, l25⟩, e27⟩
 show QX _ _ _ [(0, Value.string a0)] _
 refine QX.thenN (CW.seq (CW.reg (WL.mv rfl ?_)))
 have z28 := k0p
 refine WL.pv (Pu.lenstr rfl Tryz.underlying9) (WL.pv (Pu.ile rfl rfl) (WL.as rfl (WL.nt ?_)))
 refine CW.ret (finA Tryz.results262 st (.tmp rfl .nil) ?_)
 exact vb (lk_inr e27)
/-! toll tollref03.Is -/
def m298_l0 (a0 : ByteArray) : Nat → Int → (Bool ⊕ Unit)
 | 0, _ => .inr ()
 | n7 + 1, r6 => if (bt a0 r6) < 33 then (.inl false) else if (126 : Int) < bt a0 r6 then (.inl false) else if (bt a0 r6) = 63 then (.inl false) else if (bt a0 r6) = 35 then (.inl false) else m298_l0 a0 n7 (r6 + 1)
def m298 (a0 : ByteArray) : Bool :=
 if (a0.size : Int) < 1 then false else if (60 : Int) < (a0.size : Int) then false else if (bt a0 0) = 47 then (lk2 (m298_l0 a0 (((a0.size : Int) - 0).toNat) 0) (fun _ => true)) else false
theorem c298 (a0 : ByteArray) {w : World} {H : PH} (hs : Sub H w) (k0p : a0.size < 1048576) : Spec Tryz.prog 298 [.string a0].toArray w H (fun _ v => v = .bool (m298 a0)) := by
 refine Spec.enter Tryz.func298 rfl Tryz.ntmps298 rfl ?_
 have st := St.start hs
 refine CW.seq (CW.reg (WL.as rfl (WL.nt (CW.seq (CW.seq (CW.reg (WL.mv rfl ?_)))))))
 have z1 := k0p
 refine WL.pv (Pu.lenstr rfl Tryz.underlying9) (WL.pv (Pu.ilt rfl rfl) (WL.mv rfl ?_))
 refine WL.splitP 7 rfl dT dF (fun h2 => ?_) (fun h2 => ?_)
 ·refine WL.of (WL.of (WL.of (WL.pv (Pu.pickT rfl rfl) (WL.mv rfl (WL.of (WL.of (WL.of (WL.pv (Pu.pickT rfl rfl) (WL.nt ?_)))))))))
  refine CW.condT rfl ?_
  refine CW.seq (CW.reg (WL.as rfl (WL.nt ?_)))
  refine CW.ret (QX.thenR (finA Tryz.results298 st (.tmp rfl .nil) ?_))
  exact vb (if_pos h2)
 ·refine WL.mv rfl ?_
  have z3 := k0p
  refine WL.pv (Pu.lenstr rfl Tryz.underlying9) (WL.pv (Pu.igt rfl rfl) (WL.pv (Pu.pickF rfl rfl) (WL.mv rfl ?_)))
  refine WL.splitP 12 rfl dT dF (fun h4 => ?_) (fun h4 => ?_)
  ·refine WL.of (WL.of (WL.of (WL.pv (Pu.pickT rfl rfl) (WL.nt ?_))))
   refine CW.condT rfl ?_
   refine CW.seq (CW.reg (WL.as rfl (WL.nt ?_)))
   refine CW.ret (QX.thenR (finA Tryz.results298 st (.tmp rfl .nil) ?_))
   exact vb ((if_neg h2).trans (if_pos h4))
  ·refine WL.mv rfl (WL.pv (Pu.ixs rfl rfl Tryz.underlying9 (by omega) (by omega)) (WL.pv (Pu.ine rfl rfl) (WL.pv (Pu.pickF rfl rfl) (WL.nt ?_))))
   refine CW.condP 16 rfl nT nF (fun h5 => ?_) (fun h5 => ?_)
   ·refine CW.seq (CW.reg (WL.as rfl (WL.nt ?_)))
    refine CW.ret (QX.thenR (finA Tryz.results298 st (.tmp rfl .nil) ?_))
    exact vb ((if_neg h2).trans ((if_neg h4).trans (if_neg h5)))
   ·refine CW.skip (QX.thenN ?_)
    refine CW.seq (CW.seq (CW.reg (WL.as rfl (WL.nt ?_))))
    refine (CW.cuts (fun (s : Unit) W => (∃ H', St w W H H' [] ∧ Le H H') ∧ m298_l0 a0 (((a0.size : Int) - 0).toNat) 0 = .inr ()) (fun (s : Unit) => []) ?_ ?_)
    ·refine CW.blk (CW.loop (fun (s : Nat × Int) W => (∃ H', St w W H H' [] ∧ Le H H') ∧ 0 ≤ s.2 ∧ s.2 ≤ (a0.size : Int) ∧ s.1 = ((a0.size : Int) - s.2).toNat ∧ m298_l0 a0 s.1 s.2 = m298_l0 a0 (((a0.size : Int) - 0).toNat) 0) (fun (s : Nat × Int) => [(0, Value.string a0), (3, Value.int .i64 s.2)]) (fun s => s.1) ⟨((a0.size : Int) - 0).toNat, 0⟩ ⟨⟨_, st, Le.refl _⟩, (by first|omega|simp<;>omega), (by first|omega|simp<;>omega), rfl, rfl⟩ (.cons rfl (.cons rfl (.nil _))) ?_)
     rintro ⟨N15, r6⟩ W10 ⟨⟨H8, st, l9⟩, g22, g23, g14, e11⟩
     replace g22 : 0 ≤ r6 := g22
     replace g23 : r6 ≤ (a0.size : Int) := g23
     replace g14 : N15 = ((a0.size : Int) - r6).toNat := g14
     replace e11 : m298_l0 a0 N15 r6 = m298_l0 a0 (((a0.size : Int) - 0).toNat) 0 := e11
     show CW _ _ _ _ [(0, Value.string a0), (3, Value.int .i64 r6)] _
     refine CW.seq (CW.seq (CW.reg (WL.mv rfl (WL.mv rfl ?_))))
     have z16 := k0p
     refine WL.pv (Pu.lenstr rfl Tryz.underlying9) (WL.pv (Pu.ilt rfl rfl) (WL.nt ?_))
     refine CW.condP 20 rfl dT dF (fun h17 => ?_) (fun h17 => ?_)
     ·obtain ⟨n7, rfl⟩ : ∃ k, N15 = k + 1 := ⟨N15 - 1, by omega⟩
      refine CW.skip (QX.thenN ?_)
      refine CW.seq ?_
      refine CW.blk ?_
      refine CW.seq (CW.reg (WL.mv rfl (WL.mv rfl (WL.pv (Pu.ixs rfl rfl Tryz.underlying9 (by omega) (by omega)) (WL.pv (Pu.ilt rfl rfl) (WL.mv rfl ?_))))))
      refine WL.splitP 27 rfl dT dF (fun h18 => ?_) (fun h18 => ?_)
      ·refine WL.of (WL.of (WL.of (WL.of (WL.pv (Pu.pickT rfl rfl) (WL.mv rfl (WL.of (WL.of (WL.of (WL.of ?_)))))))))
       refine WL.pv (Pu.pickT rfl rfl) (WL.mv rfl (WL.of (WL.of (WL.of (WL.of (WL.pv (Pu.pickT rfl rfl) (WL.nt ?_)))))))
       refine CW.condT rfl ?_
       refine CW.seq (CW.reg (WL.as rfl (WL.nt ?_)))
       refine CW.ret (QX.blkR (QX.thenR (QX.thenR (QX.blkR (QX.thenR (QX.thenR (finA Tryz.results298 st (.tmp rfl .nil) ?_)))))))
       exact vb ((if_neg h2).trans ((if_neg h4).trans ((if_pos h5).trans (lk_inl ((Eq.symm e11).trans (if_pos h18))))))
      ·refine WL.mv rfl (WL.mv rfl (WL.pv (Pu.ixs rfl rfl Tryz.underlying9 (by omega) (by omega)) (WL.pv (Pu.igt rfl rfl) (WL.pv (Pu.pickF rfl rfl) (WL.mv rfl ?_)))))
       refine WL.splitP 33 rfl dT dF (fun h19 => ?_) (fun h19 => ?_)
       ·refine WL.of (WL.of (WL.of (WL.of (WL.pv (Pu.pickT rfl rfl) (WL.mv rfl (WL.of (WL.of (WL.of (WL.of ?_)))))))))
        refine WL.pv (Pu.pickT rfl rfl) (WL.nt ?_)
        refine CW.condT rfl ?_
        refine CW.seq (CW.reg (WL.as rfl (WL.nt ?_)))
        refine CW.ret (QX.blkR (QX.thenR (QX.thenR (QX.blkR (QX.thenR (QX.thenR (finA Tryz.results298 st (.tmp rfl .nil) ?_)))))))
        exact vb ((if_neg h2).trans ((if_neg h4).trans ((if_pos h5).trans (lk_inl ((Eq.symm e11).trans ((if_neg h18).trans (if_pos h19)))))))
       ·refine WL.mv rfl (WL.mv rfl (WL.pv (Pu.ixs rfl rfl Tryz.underlying9 (by omega) (by omega)) (WL.pv (Pu.ieq rfl rfl) (WL.pv (Pu.pickF rfl rfl) (WL.mv rfl ?_)))))
        refine WL.splitP 39 rfl dT dF (fun h20 => ?_) (fun h20 => ?_)
        ·refine WL.of (WL.of (WL.of (WL.of (WL.pv (Pu.pickT rfl rfl) (WL.nt ?_)))))
         refine CW.condT rfl ?_
         refine CW.seq (CW.reg (WL.as rfl (WL.nt ?_)))
         refine CW.ret (QX.blkR (QX.thenR (QX.thenR (QX.blkR (QX.thenR (QX.thenR (finA Tryz.results298 st (.tmp rfl .nil) ?_)))))))
         exact vb ((if_neg h2).trans ((if_neg h4).trans ((if_pos h5).trans (lk_inl ((Eq.symm e11).trans ((if_neg h18).trans ((if_neg h19).trans (if_pos h20))))))))
        ·refine WL.mv rfl (WL.mv rfl (WL.pv (Pu.ixs rfl rfl Tryz.underlying9 (by omega) (by omega)) (WL.pv (Pu.ieq rfl rfl) (WL.pv (Pu.pickF rfl rfl) (WL.nt ?_)))))
         refine CW.condP 44 rfl dT dF (fun h21 => ?_) (fun h21 => ?_)
         ·refine CW.seq (CW.reg (WL.as rfl (WL.nt ?_)))
          refine CW.ret (QX.blkR (QX.thenR (QX.thenR (QX.blkR (QX.thenR (QX.thenR (finA Tryz.results298 st (.tmp rfl .nil) ?_)))))))
          exact vb ((if_neg h2).trans ((if_neg h4).trans ((if_pos h5).trans (lk_inl ((Eq.symm e11).trans ((if_neg h18).trans ((if_neg h19).trans ((if_neg h20).trans (if_pos h21)))))))))
         ·refine CW.skip (QX.blkN (QX.thenN ?_))
          refine CW.reg (WL.mv rfl (WL.pv (Pu.iadd rfl rfl (c := r6 + 1) (w64 (by omega) (by omega))) (WL.as rfl ?_)))
          refine WL.nil (QX.round ⟨n7, r6 + 1⟩ ?_ (Nat.lt_succ_self _) (.cons rfl (.cons rfl (.nil _))))
          exact ⟨⟨_, st, l9⟩, (by first|omega|simp<;>omega), (by first|omega|simp<;>omega), (by first|omega|simp<;>omega), Eq.symm ((Eq.symm e11).trans ((if_neg h18).trans ((if_neg h19).trans ((if_neg h20).trans (if_neg h21)))))⟩
     ·obtain rfl : N15 = 0 := by omega
      refine CW.exit (QX.thenE (QX.thenE (QX.hit (QX.meets () ?_ (.nil _)))))
      exact ⟨⟨_, st, l9⟩, Eq.symm e11⟩
    rintro _ W26 ⟨⟨H24, st, l25⟩, e27⟩
    show QX _ _ _ [] _
    refine QX.thenN (CW.seq (CW.reg (WL.as rfl (WL.nt ?_))))
    refine CW.ret (finA Tryz.results298 st (.tmp rfl .nil) ?_)
    exact vb ((if_neg h2).trans ((if_neg h4).trans ((if_pos h5).trans (lk_inr e27))))
theorem tells298 {a0 : ByteArray} (h : m298 a0 = true) : 1 ≤ a0.size := by
 unfold m298 at h
 by_cases h1 : (a0.size : Int) < 1
 ·rw [if_pos h1] at h; cases h
 ·omega
/-! toll tollref03.Above -/
def m299 (a0 : ByteArray) : Bool :=
 if (m298 a0) = true then (if (a0.size : Int) = 1 then true else !decide ((bt a0 ((a0.size : Int) - 1)) = 47)) else false
theorem c299 (a0 : ByteArray) {w : World} {H : PH} (hs : Sub H w) (k0p : a0.size < 1048576) : Spec Tryz.prog 299 [.string a0].toArray w H (fun _ v => v = .bool (m299 a0)) := by
 refine Spec.enter Tryz.func299 rfl Tryz.ntmps299 rfl ?_
 have st := St.start hs
 refine CW.seq (CW.reg (WL.as rfl (WL.nt (CW.seq (CW.reg (WL.mv rfl ?_))))))
 refine WL.callv rfl rfl en298 rfl rfl st (c298 a0 st.sub k0p) ?_
 intro W1 st
 refine WL.mv rfl ?_
 refine WL.splitP 5 rfl rT rF (fun h2 => ?_) (fun h2 => ?_)
 ·have z3 := tells298 h2
  refine WL.mv rfl ?_
  have z4 := k0p
  refine WL.pv (Pu.lenstr rfl Tryz.underlying9) (WL.pv (Pu.ieq rfl rfl) (WL.mv rfl ?_))
  refine WL.splitP 9 rfl dT dF (fun h5 => ?_) (fun h5 => ?_)
  ·refine WL.of (WL.of (WL.of (WL.of (WL.of (WL.of (WL.pv (Pu.pickT rfl rfl) (WL.pv (Pu.pickT rfl rfl) (WL.as rfl (WL.nt ?_)))))))))
   refine CW.ret (finA Tryz.results299 st (.tmp rfl .nil) ?_)
   exact vb ((if_pos h2).trans (if_pos h5))
  ·refine WL.mv rfl ?_
   refine WL.mv rfl ?_
   have z6 := k0p
   refine WL.pv (Pu.lenstr rfl Tryz.underlying9) (WL.pv (Pu.isub rfl rfl (c := (a0.size : Int) - 1) (w64 (by omega) (by omega))) (WL.pv (Pu.ixs rfl rfl Tryz.underlying9 (by omega) (by omega)) (WL.pv (Pu.ine rfl rfl) (WL.pv (Pu.pickF rfl rfl) (WL.pv (Pu.pickT rfl rfl) (WL.as rfl (WL.nt ?_)))))))
   refine CW.ret (finA Tryz.results299 st (.tmp rfl .nil) ?_)
   exact vb ((if_pos h2).trans (if_neg h5))
 ·refine WL.of ?_
  iterate 9 refine WL.of ?_
  refine WL.of (WL.pv (Pu.pickF rfl rfl) (WL.as rfl (WL.nt ?_)))
  refine CW.ret (finA Tryz.results299 st (.tmp rfl .nil) ?_)
  exact vb (if_neg h2)
/-! toll tollref07.turns -/
def m296 (a0 : Filter) : Bool :=
 if a0.host = (⟨#[]⟩ : ByteArray) then (if a0.path = (⟨#[]⟩ : ByteArray) then (!a0.whole) else if (m298 a0.path) = true then (if a0.whole = true then true else m299 a0.path) else false) else if (m138 a0.host) = true then (if a0.path = (⟨#[]⟩ : ByteArray) then (!a0.whole) else if (m298 a0.path) = true then (if a0.whole = true then true else m299 a0.path) else false) else false
theorem c296 (a0 : Filter) {w : World} {H : PH} (hs : Sub H w) (k0p : Filter.Ok 1048576 H a0) : Spec Tryz.prog 296 [Filter.v a0].toArray w H (fun _ v => v = .bool (m296 a0)) := by
 refine Spec.enter Tryz.func296 rfl Tryz.ntmps296 rfl ?_
 have st := St.start hs
 refine CW.seq (CW.reg ?_)
 refine WL.box rfl rfl rfl rfl st ?_
 intro b1 W2 H3 st l4 f5
 refine WL.as rfl (WL.nt (CW.seq (CW.seq (CW.reg (WL.pv (Pu.fa rfl fo186_3) (WL.pv (Pu.load rfl ty9 ((f5.drop 3).w st.sub) rfl) (WL.pv (Pu.sne rfl rfl) (WL.mv rfl ?_))))))))
 refine WL.splitP 6 rfl nT nF (fun h6 => ?_) (fun h6 => ?_)
 ·have z7 := size_ne h6
  refine WL.pv (Pu.fa rfl fo186_3) (WL.pv (Pu.load rfl ty9 ((f5.drop 3).w st.sub) rfl) ?_)
  refine WL.callv rfl rfl en138 rfl rfl st (c138 a0.host st.sub k0p.host) ?_
  intro W8 st
  refine WL.pv (Pu.notb rfl) (WL.pv (Pu.pickT rfl rfl) (WL.nt ?_))
  refine CW.condP 11 rfl mT mF (fun h9 => ?_) (fun h9 => ?_)
  ·refine CW.seq (CW.reg (WL.as rfl (WL.nt ?_)))
   refine CW.ret (QX.thenR (finA Tryz.results296 st (.tmp rfl .nil) ?_))
   exact vb ((if_neg h6).trans (if_neg h9))
  ·refine CW.skip (QX.thenN ?_)
   refine CW.seq (CW.seq (CW.reg (WL.pv (Pu.fa rfl fo186_5) (WL.pv (Pu.load rfl ty9 ((f5.drop 5).w st.sub) rfl) (WL.pv (Pu.seq rfl rfl) (WL.nt ?_))))))
   refine CW.condP 14 rfl dT dF (fun h10 => ?_) (fun h10 => ?_)
   ·refine CW.seq (CW.reg (WL.pv (Pu.fa rfl fo186_6) (WL.pv (Pu.load rfl ty4 ((f5.drop 6).w st.sub) rfl) (WL.pv (Pu.notb rfl) (WL.as rfl (WL.nt ?_))))))
    refine CW.ret (QX.thenR (finA Tryz.results296 st (.tmp rfl .nil) ?_))
    exact vb ((if_neg h6).trans ((if_pos h9).trans (if_pos h10)))
   ·have z11 := size_ne h10
    refine CW.skip (QX.thenN ?_)
    refine CW.seq (CW.reg (WL.pv (Pu.fa rfl fo186_5) (WL.pv (Pu.load rfl ty9 ((f5.drop 5).w st.sub) rfl) ?_)))
    refine WL.callv rfl rfl en298 rfl rfl st (c298 a0.path st.sub k0p.path) ?_
    intro W12 st
    refine WL.mv rfl ?_
    refine WL.splitP 21 rfl rT rF (fun h13 => ?_) (fun h13 => ?_)
    ·have z14 := tells298 h13
     refine WL.pv (Pu.fa rfl fo186_6) (WL.pv (Pu.load rfl ty4 ((f5.drop 6).w st.sub) rfl) (WL.mv rfl ?_))
     refine WL.splitP 24 rfl rT rF (fun h15 => ?_) (fun h15 => ?_)
     ·refine WL.of (WL.of (WL.of (WL.pv (Pu.pickT rfl rfl) (WL.pv (Pu.pickT rfl rfl) (WL.as rfl (WL.nt ?_))))))
      refine CW.ret (finA Tryz.results296 st (.tmp rfl .nil) ?_)
      exact vb ((if_neg h6).trans ((if_pos h9).trans ((if_neg h10).trans ((if_pos h13).trans (if_pos h15)))))
     ·refine WL.pv (Pu.fa rfl fo186_5) (WL.pv (Pu.load rfl ty9 ((f5.drop 5).w st.sub) rfl) ?_)
      refine WL.callv rfl rfl en299 rfl rfl st (c299 a0.path st.sub k0p.path) ?_
      intro W16 st
      refine WL.pv (Pu.pickF rfl rfl) (WL.pv (Pu.pickT rfl rfl) (WL.as rfl (WL.nt ?_)))
      refine CW.ret (finA Tryz.results296 st (.tmp rfl .nil) ?_)
      exact vb ((if_neg h6).trans ((if_pos h9).trans ((if_neg h10).trans ((if_pos h13).trans (if_neg h15)))))
    ·refine WL.of (WL.of (WL.of (WL.of (WL.of (WL.of (WL.of (WL.pv (Pu.pickF rfl rfl) (WL.as rfl (WL.nt ?_)))))))))
     refine CW.ret (finA Tryz.results296 st (.tmp rfl .nil) ?_)
     exact vb ((if_neg h6).trans ((if_pos h9).trans ((if_neg h10).trans (if_neg h13))))
 ·refine WL.of (WL.of (WL.of (WL.of (WL.pv (Pu.pickF rfl rfl) (WL.nt ?_)))))
  refine CW.condF rfl ?_
  refine CW.skip (QX.thenN ?_)
  refine CW.seq (CW.seq (CW.reg (WL.pv (Pu.fa rfl fo186_5) (WL.pv (Pu.load rfl ty9 ((f5.drop 5).w st.sub) rfl) (WL.pv (Pu.seq rfl rfl) (WL.nt ?_))))))
  refine CW.condP 14 rfl dT dF (fun h17 => ?_) (fun h17 => ?_)
  ·refine CW.seq (CW.reg (WL.pv (Pu.fa rfl fo186_6) (WL.pv (Pu.load rfl ty4 ((f5.drop 6).w st.sub) rfl) (WL.pv (Pu.notb rfl) (WL.as rfl (WL.nt ?_))))))
   refine CW.ret (QX.thenR (finA Tryz.results296 st (.tmp rfl .nil) ?_))
   exact vb ((if_pos h6).trans (if_pos h17))
  ·have z18 := size_ne h17
   refine CW.skip (QX.thenN ?_)
   refine CW.seq (CW.reg (WL.pv (Pu.fa rfl fo186_5) (WL.pv (Pu.load rfl ty9 ((f5.drop 5).w st.sub) rfl) ?_)))
   refine WL.callv rfl rfl en298 rfl rfl st (c298 a0.path st.sub k0p.path) ?_
   intro W19 st
   refine WL.mv rfl ?_
   refine WL.splitP 21 rfl rT rF (fun h20 => ?_) (fun h20 => ?_)
   ·have z21 := tells298 h20
    refine WL.pv (Pu.fa rfl fo186_6) (WL.pv (Pu.load rfl ty4 ((f5.drop 6).w st.sub) rfl) (WL.mv rfl ?_))
    refine WL.splitP 24 rfl rT rF (fun h22 => ?_) (fun h22 => ?_)
    ·refine WL.of (WL.of (WL.of (WL.pv (Pu.pickT rfl rfl) (WL.pv (Pu.pickT rfl rfl) (WL.as rfl (WL.nt ?_))))))
     refine CW.ret (finA Tryz.results296 st (.tmp rfl .nil) ?_)
     exact vb ((if_pos h6).trans ((if_neg h17).trans ((if_pos h20).trans (if_pos h22))))
    ·refine WL.pv (Pu.fa rfl fo186_5) (WL.pv (Pu.load rfl ty9 ((f5.drop 5).w st.sub) rfl) ?_)
     refine WL.callv rfl rfl en299 rfl rfl st (c299 a0.path st.sub k0p.path) ?_
     intro W23 st
     refine WL.pv (Pu.pickF rfl rfl) (WL.pv (Pu.pickT rfl rfl) (WL.as rfl (WL.nt ?_)))
     refine CW.ret (finA Tryz.results296 st (.tmp rfl .nil) ?_)
     exact vb ((if_pos h6).trans ((if_neg h17).trans ((if_pos h20).trans (if_neg h22))))
   ·refine WL.of (WL.of (WL.of (WL.of (WL.of (WL.of (WL.of (WL.pv (Pu.pickF rfl rfl) (WL.as rfl (WL.nt ?_)))))))))
    refine CW.ret (finA Tryz.results296 st (.tmp rfl .nil) ?_)
    exact vb ((if_pos h6).trans ((if_neg h17).trans (if_neg h20)))
/-! toll tollref07.May -/
def m256_j0 (a0 : Filter) : Bool :=
 if a0.host = (⟨#[]⟩ : ByteArray) then (if a0.port = 0 then (if a0.path = (⟨#[]⟩ : ByteArray) then (if a0.whole = true then false else decide (a0.code = 0)) else false) else false) else false
def m256_j1 (a0 : Filter) : Bool :=
 if a0.kind = 1 then true else decide (a0.kind = 2)
def m256 (a0 : Filter) : Bool :=
 lk1 (m256_j0 a0) (fun r6 => lk1 (m256_j1 a0) (fun r17 => if r17 = true then (if r6 = true then (if (m261 a0.name) = true then (m262 a0.val) else false) else false) else if a0.kind = 3 then (if r6 = true then (if (m261 a0.name) = true then (decide (a0.val = (⟨#[]⟩ : ByteArray))) else false) else false) else if a0.kind = 4 then (if a0.name = (⟨#[]⟩ : ByteArray) then (if a0.val = (⟨#[]⟩ : ByteArray) then (if (m296 a0) = true then (if (0 : Int) ≤ a0.port then (if a0.port ≤ 65535 then (if a0.code = 301 then true else decide (a0.code = 302)) else false) else false) else false) else false) else false) else if a0.kind = 5 then (if a0.name = (⟨#[]⟩ : ByteArray) then (if a0.val = (⟨#[]⟩ : ByteArray) then (if a0.port = 0 then (if a0.code = 0 then (if (m296 a0) = true then (!decide (a0.host ++ a0.path = (⟨#[]⟩ : ByteArray))) else false) else false) else false) else false) else false) else false))
theorem c256 (a0 : Filter) {w : World} {H : PH} (hs : Sub H w) (k0p : Filter.Ok 1048576 H a0) : Spec Tryz.prog 256 [Filter.v a0].toArray w H (fun _ v => v = .bool (m256 a0)) := by
 refine Spec.enter Tryz.func256 rfl Tryz.ntmps256 rfl ?_
 have st := St.start hs
 refine CW.seq (CW.reg ?_)
 refine WL.box rfl rfl rfl rfl st ?_
 intro b1 W2 H3 st l4 f5
 refine WL.as rfl (WL.nt ?_)
 refine CW.seq (CW.cuts (fun (s : Bool) W => (∃ H', St w W H H' [] ∧ Le H3 H') ∧ m256_j0 a0 = s) (fun (s : Bool) => [(1, Value.pointer (some (⟨b1, 0, none⟩ : Addr))), (3, Value.bool s)]) ?_ ?_)
 ·refine CW.reg (WL.pv (Pu.fa rfl fo186_3) (WL.pv (Pu.load rfl ty9 ((f5.drop 3).w st.sub) rfl) (WL.pv (Pu.seq rfl rfl) (WL.mv rfl ?_))))
  refine WL.splitP 7 rfl dT dF (fun h7 => ?_) (fun h7 => ?_)
  ·refine WL.pv (Pu.fa rfl fo186_4) (WL.pv (Pu.load rfl ty3 ((f5.drop 4).w st.sub) rfl) (WL.pv (Pu.ieq rfl rfl) (WL.pv (Pu.pickT rfl rfl) (WL.mv rfl ?_))))
   refine WL.splitP 12 rfl dT dF (fun h9 => ?_) (fun h9 => ?_)
   ·refine WL.pv (Pu.fa rfl fo186_5) (WL.pv (Pu.load rfl ty9 ((f5.drop 5).w st.sub) rfl) (WL.pv (Pu.seq rfl rfl) (WL.pv (Pu.pickT rfl rfl) (WL.mv rfl ?_))))
    refine WL.splitP 17 rfl dT dF (fun h10 => ?_) (fun h10 => ?_)
    ·refine WL.pv (Pu.fa rfl fo186_6) (WL.pv (Pu.load rfl ty4 ((f5.drop 6).w st.sub) rfl) (WL.pv (Pu.notb rfl) (WL.pv (Pu.pickT rfl rfl) (WL.mv rfl ?_))))
     refine WL.splitP 22 rfl mT mF (fun h12 => ?_) (fun h12 => ?_)
     ·refine WL.pv (Pu.fa rfl fo186_7) (WL.pv (Pu.load rfl ty3 ((f5.drop 7).w st.sub) rfl) (WL.pv (Pu.ieq rfl rfl) (WL.pv (Pu.pickT rfl rfl) (WL.as rfl ?_))))
      refine WL.nil (QX.meets (decide (a0.code = 0)) ?_ (.cons rfl (.cons rfl (.nil _))))
      exact ⟨⟨_, st, (Le.refl _)⟩, (if_pos h7).trans ((if_pos h9).trans ((if_pos h10).trans (if_neg h12)))⟩
     ·refine WL.of (WL.of (WL.of (WL.pv (Pu.pickF rfl rfl) (WL.as rfl ?_))))
      refine WL.nil (QX.meets false ?_ (.cons rfl (.cons rfl (.nil _))))
      exact ⟨⟨_, st, (Le.refl _)⟩, (if_pos h7).trans ((if_pos h9).trans ((if_pos h10).trans (if_pos h12)))⟩
    ·have z11 := size_ne h10
     refine WL.of (WL.of (WL.of (WL.pv (Pu.pickF rfl rfl) (WL.mv rfl (WL.of (WL.of (WL.of (WL.pv (Pu.pickF rfl rfl) (WL.as rfl ?_)))))))))
     refine WL.nil (QX.meets false ?_ (.cons rfl (.cons rfl (.nil _))))
     exact ⟨⟨_, st, (Le.refl _)⟩, (if_pos h7).trans ((if_pos h9).trans (if_neg h10))⟩
   ·refine WL.of (WL.of (WL.of (WL.pv (Pu.pickF rfl rfl) (WL.mv rfl (WL.of (WL.of (WL.of (WL.pv (Pu.pickF rfl rfl) (WL.mv rfl ?_)))))))))
    refine WL.of (WL.of (WL.of (WL.pv (Pu.pickF rfl rfl) (WL.as rfl ?_))))
    refine WL.nil (QX.meets false ?_ (.cons rfl (.cons rfl (.nil _))))
    exact ⟨⟨_, st, (Le.refl _)⟩, (if_pos h7).trans (if_neg h9)⟩
  ·have z8 := size_ne h7
   refine WL.of (WL.of (WL.of (WL.pv (Pu.pickF rfl rfl) (WL.mv rfl (WL.of (WL.of (WL.of (WL.pv (Pu.pickF rfl rfl) (WL.mv rfl ?_)))))))))
   refine WL.of (WL.of (WL.of (WL.pv (Pu.pickF rfl rfl) (WL.mv rfl (WL.of (WL.of (WL.of (WL.pv (Pu.pickF rfl rfl) (WL.as rfl ?_)))))))))
   refine WL.nil (QX.meets false ?_ (.cons rfl (.cons rfl (.nil _))))
   exact ⟨⟨_, st, (Le.refl _)⟩, if_neg h7⟩
 rintro r6 W15 ⟨⟨H13, st, l14⟩, e16⟩
 replace st : St w _ _ _ [] := st
 replace e16 : m256_j0 a0 = r6 := e16
 show QX _ _ _ [(1, Value.pointer (some (⟨b1, 0, none⟩ : Addr))), (3, Value.bool r6)] _
 refine QX.thenN (CW.seq (CW.seq (CW.reg (WL.pv (Pu.fa rfl fo186_0) (WL.pv (Pu.load rfl ty3 (((f5.le l14).drop 0).w st.sub) rfl) (WL.nt ?_))))))
 refine CW.blk ?_
 refine CW.seq (CW.cuts (fun (s : Bool) W => (∃ H', St w W H H' [] ∧ Le H13 H') ∧ m256_j1 a0 = s) (fun (s : Bool) => [(1, Value.pointer (some (⟨b1, 0, none⟩ : Addr))), (3, Value.bool r6), (28, Value.int .i64 a0.kind), (29, Value.bool s)]) ?_ ?_)
 ·refine CW.seq (CW.reg (WL.pv (Pu.ieq rfl rfl) (WL.as rfl (WL.nt ?_))))
  refine CW.condP 29 rfl dT dF (fun h18 => ?_) (fun h18 => ?_)
  ·refine CW.skip (QX.meets true ?_ (.cons rfl (.cons rfl (.cons rfl (.cons rfl (.nil _))))))
   exact ⟨⟨_, st, (Le.refl _)⟩, if_pos h18⟩
  ·refine CW.reg (WL.pv (Pu.ieq rfl rfl) (WL.as rfl ?_))
   refine WL.nil (QX.meets (decide (a0.kind = 2)) ?_ (.cons rfl (.cons rfl (.cons rfl (.cons rfl (.nil _))))))
   exact ⟨⟨_, st, (Le.refl _)⟩, if_neg h18⟩
 rintro r17 W21 ⟨⟨H19, st, l20⟩, e22⟩
 replace st : St w _ _ _ [] := st
 replace e22 : m256_j1 a0 = r17 := e22
 show QX _ _ _ [(1, Value.pointer (some (⟨b1, 0, none⟩ : Addr))), (3, Value.bool r6), (28, Value.int .i64 a0.kind), (29, Value.bool r17)] _
 refine QX.thenN ?_
 refine CW.condP 29 rfl rT rF (fun h23 => ?_) (fun h23 => ?_)
 ·refine CW.seq (CW.reg (WL.mv rfl (WL.mv rfl ?_)))
  refine WL.splitP 33 rfl rT rF (fun h24 => ?_) (fun h24 => ?_)
  ·refine WL.pv (Pu.fa rfl fo186_1) (WL.pv (Pu.load rfl ty9 (((f5.le (l14.trans l20)).drop 1).w st.sub) rfl) ?_)
   refine WL.callv rfl rfl en261 rfl rfl st (c261 a0.name st.sub k0p.name) ?_
   intro W25 st
   refine WL.pv (Pu.pickT rfl rfl) (WL.mv rfl ?_)
   refine WL.splitP 38 rfl rT rF (fun h26 => ?_) (fun h26 => ?_)
   ·refine WL.pv (Pu.fa rfl fo186_2) (WL.pv (Pu.load rfl ty9 (((f5.le (l14.trans l20)).drop 2).w st.sub) rfl) ?_)
    refine WL.callv rfl rfl en262 rfl rfl st (c262 a0.val st.sub k0p.val) ?_
    intro W27 st
    refine WL.pv (Pu.pickT rfl rfl) (WL.as rfl (WL.nt ?_))
    refine CW.ret (QX.blkR (QX.thenR (finA Tryz.results256 st (.tmp rfl .nil) ?_)))
    exact vb ((lk1_eq e16).trans ((lk1_eq e22).trans ((if_pos h23).trans ((if_pos h24).trans (if_pos h26)))))
   ·refine WL.of (WL.of (WL.of (WL.pv (Pu.pickF rfl rfl) (WL.as rfl (WL.nt ?_)))))
    refine CW.ret (QX.blkR (QX.thenR (finA Tryz.results256 st (.tmp rfl .nil) ?_)))
    exact vb ((lk1_eq e16).trans ((lk1_eq e22).trans ((if_pos h23).trans ((if_pos h24).trans (if_neg h26)))))
  ·refine WL.of (WL.of (WL.of (WL.pv (Pu.pickF rfl rfl) (WL.mv rfl (WL.of (WL.of (WL.of (WL.pv (Pu.pickF rfl rfl) (WL.as rfl ?_)))))))))
   refine WL.nt ?_
   refine CW.ret (QX.blkR (QX.thenR (finA Tryz.results256 st (.tmp rfl .nil) ?_)))
   exact vb ((lk1_eq e16).trans ((lk1_eq e22).trans ((if_pos h23).trans (if_neg h24))))
 ·refine CW.seq (CW.reg (WL.pv (Pu.ieq rfl rfl) (WL.as rfl (WL.nt ?_))))
  refine CW.condP 43 rfl dT dF (fun h28 => ?_) (fun h28 => ?_)
  ·refine CW.seq (CW.reg (WL.mv rfl (WL.mv rfl ?_)))
   refine WL.splitP 46 rfl rT rF (fun h29 => ?_) (fun h29 => ?_)
   ·refine WL.pv (Pu.fa rfl fo186_1) (WL.pv (Pu.load rfl ty9 (((f5.le (l14.trans l20)).drop 1).w st.sub) rfl) ?_)
    refine WL.callv rfl rfl en261 rfl rfl st (c261 a0.name st.sub k0p.name) ?_
    intro W30 st
    refine WL.pv (Pu.pickT rfl rfl) (WL.mv rfl ?_)
    refine WL.splitP 51 rfl rT rF (fun h31 => ?_) (fun h31 => ?_)
    ·refine WL.pv (Pu.fa rfl fo186_2) (WL.pv (Pu.load rfl ty9 (((f5.le (l14.trans l20)).drop 2).w st.sub) rfl) (WL.pv (Pu.seq rfl rfl) (WL.pv (Pu.pickT rfl rfl) (WL.as rfl (WL.nt ?_)))))
     refine CW.ret (QX.blkR (QX.thenR (finA Tryz.results256 st (.tmp rfl .nil) ?_)))
     exact vb ((lk1_eq e16).trans ((lk1_eq e22).trans ((if_neg h23).trans ((if_pos h28).trans ((if_pos h29).trans (if_pos h31))))))
    ·refine WL.of (WL.of (WL.of (WL.pv (Pu.pickF rfl rfl) (WL.as rfl (WL.nt ?_)))))
     refine CW.ret (QX.blkR (QX.thenR (finA Tryz.results256 st (.tmp rfl .nil) ?_)))
     exact vb ((lk1_eq e16).trans ((lk1_eq e22).trans ((if_neg h23).trans ((if_pos h28).trans ((if_pos h29).trans (if_neg h31))))))
   ·refine WL.of (WL.of (WL.of (WL.pv (Pu.pickF rfl rfl) (WL.mv rfl (WL.of (WL.of (WL.of (WL.pv (Pu.pickF rfl rfl) (WL.as rfl ?_)))))))))
    refine WL.nt ?_
    refine CW.ret (QX.blkR (QX.thenR (finA Tryz.results256 st (.tmp rfl .nil) ?_)))
    exact vb ((lk1_eq e16).trans ((lk1_eq e22).trans ((if_neg h23).trans ((if_pos h28).trans (if_neg h29)))))
  ·refine CW.seq (CW.reg (WL.pv (Pu.ieq rfl rfl) (WL.as rfl (WL.nt ?_))))
   refine CW.condP 56 rfl dT dF (fun h32 => ?_) (fun h32 => ?_)
   ·refine CW.seq (CW.reg (WL.pv (Pu.fa rfl fo186_1) (WL.pv (Pu.load rfl ty9 (((f5.le (l14.trans l20)).drop 1).w st.sub) rfl) (WL.pv (Pu.seq rfl rfl) (WL.mv rfl ?_)))))
    refine WL.splitP 61 rfl dT dF (fun h33 => ?_) (fun h33 => ?_)
    ·refine WL.pv (Pu.fa rfl fo186_2) (WL.pv (Pu.load rfl ty9 (((f5.le (l14.trans l20)).drop 2).w st.sub) rfl) (WL.pv (Pu.seq rfl rfl) (WL.pv (Pu.pickT rfl rfl) (WL.mv rfl ?_))))
     refine WL.splitP 66 rfl dT dF (fun h35 => ?_) (fun h35 => ?_)
     ·refine WL.pv (Pu.load (v := Filter.v a0) rfl ty186 ((f5.le (l14.trans l20)).w st.sub) rfl) ?_
      refine WL.callv rfl rfl en296 rfl rfl st (c296 a0 st.sub (k0p.le ((l4.trans l14).trans l20))) ?_
      intro W37 st
      refine WL.pv (Pu.pickT rfl rfl) (WL.mv rfl ?_)
      refine WL.splitP 70 rfl rT rF (fun h38 => ?_) (fun h38 => ?_)
      ·refine WL.pv (Pu.fa rfl fo186_4) (WL.pv (Pu.load rfl ty3 (((f5.le (l14.trans l20)).drop 4).w st.sub) rfl) (WL.pv (Pu.ile rfl rfl) (WL.pv (Pu.pickT rfl rfl) (WL.mv rfl ?_))))
       refine WL.splitP 75 rfl dT dF (fun h39 => ?_) (fun h39 => ?_)
       ·refine WL.pv (Pu.fa rfl fo186_4) (WL.pv (Pu.load rfl ty3 (((f5.le (l14.trans l20)).drop 4).w st.sub) rfl) (WL.pv (Pu.ile rfl rfl) (WL.pv (Pu.pickT rfl rfl) (WL.mv rfl ?_))))
        refine WL.splitP 80 rfl dT dF (fun h40 => ?_) (fun h40 => ?_)
        ·refine WL.pv (Pu.fa rfl fo186_7) (WL.pv (Pu.load rfl ty3 (((f5.le (l14.trans l20)).drop 7).w st.sub) rfl) (WL.pv (Pu.ieq rfl rfl) (WL.mv rfl ?_)))
         refine WL.splitP 84 rfl dT dF (fun h41 => ?_) (fun h41 => ?_)
         ·refine WL.of (WL.of (WL.of (WL.pv (Pu.pickT rfl rfl) (WL.pv (Pu.pickT rfl rfl) (WL.as rfl (WL.nt ?_))))))
          refine CW.ret (QX.blkR (QX.thenR (finA Tryz.results256 st (.tmp rfl .nil) ?_)))
          exact vb ((lk1_eq e16).trans ((lk1_eq e22).trans ((if_neg h23).trans ((if_neg h28).trans ((if_pos h32).trans ((if_pos h33).trans ((if_pos h35).trans ((if_pos h38).trans ((if_pos h39).trans ((if_pos h40).trans (if_pos h41)))))))))))
         ·refine WL.pv (Pu.fa rfl fo186_7) (WL.pv (Pu.load rfl ty3 (((f5.le (l14.trans l20)).drop 7).w st.sub) rfl) (WL.pv (Pu.ieq rfl rfl) (WL.pv (Pu.pickF rfl rfl) (WL.pv (Pu.pickT rfl rfl) (WL.as rfl (WL.nt ?_))))))
          refine CW.ret (QX.blkR (QX.thenR (finA Tryz.results256 st (.tmp rfl .nil) ?_)))
          exact vb ((lk1_eq e16).trans ((lk1_eq e22).trans ((if_neg h23).trans ((if_neg h28).trans ((if_pos h32).trans ((if_pos h33).trans ((if_pos h35).trans ((if_pos h38).trans ((if_pos h39).trans ((if_pos h40).trans (if_neg h41)))))))))))
        ·refine WL.of (WL.of (WL.of (WL.of (WL.of (WL.of (WL.of (WL.of (WL.pv (Pu.pickF rfl rfl) (WL.as rfl ?_)))))))))
         refine WL.nt ?_
         refine CW.ret (QX.blkR (QX.thenR (finA Tryz.results256 st (.tmp rfl .nil) ?_)))
         exact vb ((lk1_eq e16).trans ((lk1_eq e22).trans ((if_neg h23).trans ((if_neg h28).trans ((if_pos h32).trans ((if_pos h33).trans ((if_pos h35).trans ((if_pos h38).trans ((if_pos h39).trans (if_neg h40))))))))))
       ·refine WL.of (WL.of (WL.of (WL.pv (Pu.pickF rfl rfl) (WL.mv rfl (WL.of (WL.of (WL.of (WL.of (WL.of ?_)))))))))
        refine WL.of (WL.of (WL.of (WL.pv (Pu.pickF rfl rfl) (WL.as rfl (WL.nt ?_)))))
        refine CW.ret (QX.blkR (QX.thenR (finA Tryz.results256 st (.tmp rfl .nil) ?_)))
        exact vb ((lk1_eq e16).trans ((lk1_eq e22).trans ((if_neg h23).trans ((if_neg h28).trans ((if_pos h32).trans ((if_pos h33).trans ((if_pos h35).trans ((if_pos h38).trans (if_neg h39)))))))))
      ·refine WL.of (WL.of (WL.of (WL.pv (Pu.pickF rfl rfl) (WL.mv rfl (WL.of (WL.of (WL.of (WL.pv (Pu.pickF rfl rfl) (WL.mv rfl ?_)))))))))
       refine WL.of (WL.of (WL.of (WL.of (WL.of (WL.of (WL.of (WL.of (WL.pv (Pu.pickF rfl rfl) (WL.as rfl ?_)))))))))
       refine WL.nt ?_
       refine CW.ret (QX.blkR (QX.thenR (finA Tryz.results256 st (.tmp rfl .nil) ?_)))
       exact vb ((lk1_eq e16).trans ((lk1_eq e22).trans ((if_neg h23).trans ((if_neg h28).trans ((if_pos h32).trans ((if_pos h33).trans ((if_pos h35).trans (if_neg h38))))))))
     ·have z36 := size_ne h35
      refine WL.of (WL.of (WL.pv (Pu.pickF rfl rfl) (WL.mv rfl (WL.of (WL.of (WL.of (WL.pv (Pu.pickF rfl rfl) (WL.mv rfl (WL.of ?_)))))))))
      refine WL.of (WL.of (WL.pv (Pu.pickF rfl rfl) (WL.mv rfl (WL.of (WL.of (WL.of (WL.of (WL.of (WL.of ?_)))))))))
      refine WL.of (WL.of (WL.pv (Pu.pickF rfl rfl) (WL.as rfl (WL.nt ?_))))
      refine CW.ret (QX.blkR (QX.thenR (finA Tryz.results256 st (.tmp rfl .nil) ?_)))
      exact vb ((lk1_eq e16).trans ((lk1_eq e22).trans ((if_neg h23).trans ((if_neg h28).trans ((if_pos h32).trans ((if_pos h33).trans (if_neg h35)))))))
    ·have z34 := size_ne h33
     refine WL.of (WL.of (WL.of (WL.pv (Pu.pickF rfl rfl) (WL.mv rfl (WL.of (WL.of (WL.pv (Pu.pickF rfl rfl) (WL.mv rfl (WL.of ?_)))))))))
     refine WL.of (WL.of (WL.pv (Pu.pickF rfl rfl) (WL.mv rfl (WL.of (WL.of (WL.of (WL.pv (Pu.pickF rfl rfl) (WL.mv rfl (WL.of ?_)))))))))
     refine WL.of (WL.of (WL.of (WL.of (WL.of (WL.of (WL.of (WL.pv (Pu.pickF rfl rfl) (WL.as rfl (WL.nt ?_)))))))))
     refine CW.ret (QX.blkR (QX.thenR (finA Tryz.results256 st (.tmp rfl .nil) ?_)))
     exact vb ((lk1_eq e16).trans ((lk1_eq e22).trans ((if_neg h23).trans ((if_neg h28).trans ((if_pos h32).trans (if_neg h33))))))
   ·refine CW.seq (CW.reg (WL.pv (Pu.ieq rfl rfl) (WL.as rfl (WL.nt ?_))))
    refine CW.condP 90 rfl dT dF (fun h42 => ?_) (fun h42 => ?_)
    ·refine CW.seq (CW.reg (WL.pv (Pu.fa rfl fo186_1) (WL.pv (Pu.load rfl ty9 (((f5.le (l14.trans l20)).drop 1).w st.sub) rfl) (WL.pv (Pu.seq rfl rfl) (WL.mv rfl ?_)))))
     refine WL.splitP 95 rfl dT dF (fun h43 => ?_) (fun h43 => ?_)
     ·refine WL.pv (Pu.fa rfl fo186_2) (WL.pv (Pu.load rfl ty9 (((f5.le (l14.trans l20)).drop 2).w st.sub) rfl) (WL.pv (Pu.seq rfl rfl) (WL.pv (Pu.pickT rfl rfl) (WL.mv rfl ?_))))
      refine WL.splitP 100 rfl dT dF (fun h45 => ?_) (fun h45 => ?_)
      ·refine WL.pv (Pu.fa rfl fo186_4) (WL.pv (Pu.load rfl ty3 (((f5.le (l14.trans l20)).drop 4).w st.sub) rfl) (WL.pv (Pu.ieq rfl rfl) (WL.pv (Pu.pickT rfl rfl) (WL.mv rfl ?_))))
       refine WL.splitP 105 rfl dT dF (fun h47 => ?_) (fun h47 => ?_)
       ·refine WL.pv (Pu.fa rfl fo186_7) (WL.pv (Pu.load rfl ty3 (((f5.le (l14.trans l20)).drop 7).w st.sub) rfl) (WL.pv (Pu.ieq rfl rfl) (WL.pv (Pu.pickT rfl rfl) (WL.mv rfl ?_))))
        refine WL.splitP 110 rfl dT dF (fun h48 => ?_) (fun h48 => ?_)
        ·refine WL.pv (Pu.load (v := Filter.v a0) rfl ty186 ((f5.le (l14.trans l20)).w st.sub) rfl) ?_
         refine WL.callv rfl rfl en296 rfl rfl st (c296 a0 st.sub (k0p.le ((l4.trans l14).trans l20))) ?_
         intro W49 st
         refine WL.pv (Pu.pickT rfl rfl) (WL.mv rfl ?_)
         refine WL.splitP 114 rfl rT rF (fun h50 => ?_) (fun h50 => ?_)
         ·refine WL.pv (Pu.fa rfl fo186_3) (WL.pv (Pu.load rfl ty9 (((f5.le (l14.trans l20)).drop 3).w st.sub) rfl) (WL.pv (Pu.fa rfl fo186_5) (WL.pv (Pu.load rfl ty9 (((f5.le (l14.trans l20)).drop 5).w st.sub) rfl) ?_)))
          have z51 : a0.host.size < 1048576 := k0p.host
          have z52 : a0.path.size < 1048576 := k0p.path
          refine WL.pv (Pu.sadd rfl rfl (by first|omega|simp<;>omega)) (WL.pv (Pu.sne rfl rfl) (WL.pv (Pu.pickT rfl rfl) (WL.as rfl (WL.nt ?_))))
          refine CW.ret (QX.blkR (QX.thenR (finA Tryz.results256 st (.tmp rfl .nil) ?_)))
          exact vb ((lk1_eq e16).trans ((lk1_eq e22).trans ((if_neg h23).trans ((if_neg h28).trans ((if_neg h32).trans ((if_pos h42).trans ((if_pos h43).trans ((if_pos h45).trans ((if_pos h47).trans ((if_pos h48).trans (if_pos h50)))))))))))
         ·refine WL.of (WL.of (WL.of (WL.of (WL.of (WL.of (WL.pv (Pu.pickF rfl rfl) (WL.as rfl (WL.nt ?_))))))))
          refine CW.ret (QX.blkR (QX.thenR (finA Tryz.results256 st (.tmp rfl .nil) ?_)))
          exact vb ((lk1_eq e16).trans ((lk1_eq e22).trans ((if_neg h23).trans ((if_neg h28).trans ((if_neg h32).trans ((if_pos h42).trans ((if_pos h43).trans ((if_pos h45).trans ((if_pos h47).trans ((if_pos h48).trans (if_neg h50)))))))))))
        ·refine WL.of (WL.of (WL.pv (Pu.pickF rfl rfl) (WL.mv rfl (WL.of (WL.of (WL.of (WL.of (WL.of (WL.of ?_)))))))))
         refine WL.pv (Pu.pickF rfl rfl) (WL.as rfl (WL.nt ?_))
         refine CW.ret (QX.blkR (QX.thenR (finA Tryz.results256 st (.tmp rfl .nil) ?_)))
         exact vb ((lk1_eq e16).trans ((lk1_eq e22).trans ((if_neg h23).trans ((if_neg h28).trans ((if_neg h32).trans ((if_pos h42).trans ((if_pos h43).trans ((if_pos h45).trans ((if_pos h47).trans (if_neg h48))))))))))
       ·refine WL.of (WL.of (WL.of (WL.pv (Pu.pickF rfl rfl) (WL.mv rfl (WL.of (WL.of (WL.pv (Pu.pickF rfl rfl) (WL.mv rfl (WL.of ?_)))))))))
        refine WL.of (WL.of (WL.of (WL.of (WL.of (WL.pv (Pu.pickF rfl rfl) (WL.as rfl (WL.nt ?_)))))))
        refine CW.ret (QX.blkR (QX.thenR (finA Tryz.results256 st (.tmp rfl .nil) ?_)))
        exact vb ((lk1_eq e16).trans ((lk1_eq e22).trans ((if_neg h23).trans ((if_neg h28).trans ((if_neg h32).trans ((if_pos h42).trans ((if_pos h43).trans ((if_pos h45).trans (if_neg h47)))))))))
      ·have z46 := size_ne h45
       refine WL.of (WL.of (WL.of (WL.pv (Pu.pickF rfl rfl) (WL.mv rfl (WL.of (WL.of (WL.of (WL.pv (Pu.pickF rfl rfl) (WL.mv rfl ?_)))))))))
       refine WL.of (WL.of (WL.pv (Pu.pickF rfl rfl) (WL.mv rfl (WL.of (WL.of (WL.of (WL.of (WL.of (WL.of ?_)))))))))
       refine WL.pv (Pu.pickF rfl rfl) (WL.as rfl (WL.nt ?_))
       refine CW.ret (QX.blkR (QX.thenR (finA Tryz.results256 st (.tmp rfl .nil) ?_)))
       exact vb ((lk1_eq e16).trans ((lk1_eq e22).trans ((if_neg h23).trans ((if_neg h28).trans ((if_neg h32).trans ((if_pos h42).trans ((if_pos h43).trans (if_neg h45))))))))
     ·have z44 := size_ne h43
      refine WL.of (WL.of (WL.of (WL.pv (Pu.pickF rfl rfl) (WL.mv rfl (WL.of (WL.of (WL.of (WL.pv (Pu.pickF rfl rfl) (WL.mv rfl ?_)))))))))
      refine WL.of (WL.of (WL.of (WL.pv (Pu.pickF rfl rfl) (WL.mv rfl (WL.of (WL.of (WL.pv (Pu.pickF rfl rfl) (WL.mv rfl (WL.of ?_)))))))))
      refine WL.of (WL.of (WL.of (WL.of (WL.of (WL.pv (Pu.pickF rfl rfl) (WL.as rfl (WL.nt ?_)))))))
      refine CW.ret (QX.blkR (QX.thenR (finA Tryz.results256 st (.tmp rfl .nil) ?_)))
      exact vb ((lk1_eq e16).trans ((lk1_eq e22).trans ((if_neg h23).trans ((if_neg h28).trans ((if_neg h32).trans ((if_pos h42).trans (if_neg h43)))))))
    ·refine CW.skip (QX.blkN (QX.thenN ?_))
     refine CW.seq (CW.reg (WL.as rfl (WL.nt ?_)))
     refine CW.ret (finA Tryz.results256 st (.tmp rfl .nil) ?_)
     exact vb ((lk1_eq e16).trans ((lk1_eq e22).trans ((if_neg h23).trans ((if_neg h28).trans ((if_neg h32).trans (if_neg h42))))))
/-! toll tollref01.Fold -/
def m297_l0 (a0 : ByteArray) : Nat → ByteArray → Int → ByteArray
 | 0, r1, _ => r1
 | n3 + 1, r1, r2 => if (65 : Int) ≤ bt a0 r2 then (if (bt a0 r2) ≤ 90 then (m297_l0 a0 n3 (r1 ++ (bsS ([(⟨IntKind.u8.wrap ((bt a0 r2) + 32)⟩ : U8)] : List U8))) (r2 + 1)) else m297_l0 a0 n3 (r1 ++ (bsS ([(⟨bt a0 r2⟩ : U8)] : List U8))) (r2 + 1)) else m297_l0 a0 n3 (r1 ++ (bsS ([(⟨bt a0 r2⟩ : U8)] : List U8))) (r2 + 1)
def m297 (a0 : ByteArray) : ByteArray :=
 lk1 (m297_l0 a0 (((a0.size : Int) - 0).toNat) (⟨#[]⟩ : ByteArray) 0) (fun r4 => r4)
theorem c297 (a0 : ByteArray) {w : World} {H : PH} (hs : Sub H w) (k0p : a0.size < 1048576) : Spec Tryz.prog 297 [.string a0].toArray w H (fun H' v => ∃ (x0 : ByteArray), v = .string x0 ∧ x0.size < 1048576 ∧ x0 = m297 a0) := by
 refine Spec.enter Tryz.func297 rfl Tryz.ntmps297 rfl ?_
 have st := St.start hs
 refine CW.seq (CW.reg (WL.as rfl (WL.nt (CW.seq (CW.reg (WL.as rfl (WL.nt (CW.seq (CW.seq ?_)))))))))
 refine CW.reg (WL.as rfl (WL.nt ?_))
 refine (CW.cuts (fun (s : ByteArray) W => (∃ H', St w W H H' [] ∧ Le H H' ∧ s.size < 1048576 ∧ s.size ≤ ((a0.size : Int))) ∧ m297_l0 a0 (((a0.size : Int) - 0).toNat) (⟨#[]⟩ : ByteArray) 0 = s) (fun (s : ByteArray) => [(3, Value.string s)]) ?_ ?_)
 ·refine CW.blk (CW.loop (fun (s : Nat × ByteArray × Int) W => (∃ H', St w W H H' [] ∧ Le H H' ∧ s.2.1.size < 1048576 ∧ s.2.1.size ≤ s.2.2) ∧ 0 ≤ s.2.2 ∧ s.2.2 ≤ (a0.size : Int) ∧ s.1 = ((a0.size : Int) - s.2.2).toNat ∧ m297_l0 a0 s.1 s.2.1 s.2.2 = m297_l0 a0 (((a0.size : Int) - 0).toNat) (⟨#[]⟩ : ByteArray) 0) (fun (s : Nat × ByteArray × Int) => [(0, Value.string a0), (3, Value.string s.2.1), (4, Value.int .i64 s.2.2)]) (fun s => s.1) ⟨((a0.size : Int) - 0).toNat, (⟨#[]⟩ : ByteArray), 0⟩ ⟨⟨_, st, Le.refl _, (by first|omega|simp<;>omega), (by first|omega|simp<;>omega)⟩, (by first|omega|simp<;>omega), (by first|omega|simp<;>omega), rfl, rfl⟩ (.cons rfl (.cons rfl (.cons rfl (.nil _)))) ?_)
  rintro ⟨N14, r1, r2⟩ W7 ⟨⟨H5, st, l6, k12, g13⟩, g37, g38, g11, e8⟩
  replace g37 : 0 ≤ r2 := g37
  replace g38 : r2 ≤ (a0.size : Int) := g38
  replace g11 : N14 = ((a0.size : Int) - r2).toNat := g11
  replace e8 : m297_l0 a0 N14 r1 r2 = m297_l0 a0 (((a0.size : Int) - 0).toNat) (⟨#[]⟩ : ByteArray) 0 := e8
  replace g13 : r1.size ≤ r2 := g13
  show CW _ _ _ _ [(0, Value.string a0), (3, Value.string r1), (4, Value.int .i64 r2)] _
  refine CW.seq (CW.seq (CW.reg (WL.mv rfl (WL.mv rfl ?_))))
  have z15 := k0p
  refine WL.pv (Pu.lenstr rfl Tryz.underlying9) (WL.pv (Pu.ilt rfl rfl) (WL.nt ?_))
  refine CW.condP 9 rfl dT dF (fun h16 => ?_) (fun h16 => ?_)
  ·obtain ⟨n3, rfl⟩ : ∃ k, N14 = k + 1 := ⟨N14 - 1, by omega⟩
   refine CW.skip (QX.thenN ?_)
   refine CW.seq ?_
   refine CW.blk ?_
   refine CW.seq (CW.reg (WL.mv rfl (WL.mv rfl (WL.pv (Pu.ixs rfl rfl Tryz.underlying9 (by omega) (by omega)) (WL.as rfl (WL.nt (CW.seq (CW.seq (CW.reg ?_)))))))))
   refine WL.mv rfl (WL.pv (Pu.ile rfl rfl) (WL.mv rfl ?_))
   refine WL.splitP 17 rfl dT dF (fun h17 => ?_) (fun h17 => ?_)
   ·refine WL.mv rfl (WL.pv (Pu.ile rfl rfl) (WL.pv (Pu.pickT rfl rfl) (WL.nt ?_)))
    refine CW.condP 20 rfl dT dF (fun h18 => ?_) (fun h18 => ?_)
    ·refine CW.reg (WL.mv rfl (WL.pv (Pu.iadd rfl rfl (c := IntKind.u8.wrap ((bt a0 r2) + 32)) rfl) (WL.as rfl (WL.nt (CW.reg (WL.mv rfl (WL.mv rfl ?_)))))))
     refine WL.lit (M := 1048576) ([(⟨IntKind.u8.wrap ((bt a0 r2) + 32)⟩ : U8)] : List U8) rfl rfl ap302 rfl rfl rfl rfl rfl rfl rfl rfl rfl (by decide) (OkL.cons trivial OkL.nil) st ?_
     intro b20 W19 H21 st l22 k23
     refine WL.pv (Pu.convb (s := (⟨some ⟨b20, 0, none⟩, 1, ([(⟨IntKind.u8.wrap ((bt a0 r2) + 32)⟩ : U8)] : List U8)⟩ : Sl U8)) rfl Tryz.underlying302 Tryz.underlying5 Tryz.underlying9 k23 st.sub) ?_
     have z24 : r1.size < 1048576 := k12
     refine WL.pv (Pu.sadd rfl rfl (by first|omega|simp<;>omega)) (WL.as rfl ?_)
     refine WL.nil (QX.blkN (QX.thenN ?_))
     refine CW.reg (WL.mv rfl (WL.pv (Pu.iadd rfl rfl (c := r2 + 1) (w64 (by omega) (by omega))) (WL.as rfl ?_)))
     refine WL.nil (QX.round ⟨n3, r1 ++ (bsS ([(⟨IntKind.u8.wrap ((bt a0 r2) + 32)⟩ : U8)] : List U8)), r2 + 1⟩ ?_ (Nat.lt_succ_self _) (.cons rfl (.cons rfl (.cons rfl (.nil _)))))
     exact ⟨⟨_, st, (l6.trans l22), (by first|omega|simp<;>omega), (by first|omega|simp<;>omega)⟩, (by first|omega|simp<;>omega), (by first|omega|simp<;>omega), (by first|omega|simp<;>omega), Eq.symm ((Eq.symm e8).trans ((if_pos h17).trans (if_pos h18)))⟩
    ·refine CW.skip (QX.thenN ?_)
     refine CW.reg (WL.mv rfl (WL.mv rfl ?_))
     refine WL.lit (M := 1048576) ([(⟨bt a0 r2⟩ : U8)] : List U8) rfl rfl ap302 rfl rfl rfl rfl rfl rfl rfl rfl rfl (by decide) (OkL.cons trivial OkL.nil) st ?_
     intro b26 W25 H27 st l28 k29
     refine WL.pv (Pu.convb (s := (⟨some ⟨b26, 0, none⟩, 1, ([(⟨bt a0 r2⟩ : U8)] : List U8)⟩ : Sl U8)) rfl Tryz.underlying302 Tryz.underlying5 Tryz.underlying9 k29 st.sub) ?_
     have z30 : r1.size < 1048576 := k12
     refine WL.pv (Pu.sadd rfl rfl (by first|omega|simp<;>omega)) (WL.as rfl ?_)
     refine WL.nil (QX.blkN (QX.thenN ?_))
     refine CW.reg (WL.mv rfl (WL.pv (Pu.iadd rfl rfl (c := r2 + 1) (w64 (by omega) (by omega))) (WL.as rfl ?_)))
     refine WL.nil (QX.round ⟨n3, r1 ++ (bsS ([(⟨bt a0 r2⟩ : U8)] : List U8)), r2 + 1⟩ ?_ (Nat.lt_succ_self _) (.cons rfl (.cons rfl (.cons rfl (.nil _)))))
     exact ⟨⟨_, st, (l6.trans l28), (by first|omega|simp<;>omega), (by first|omega|simp<;>omega)⟩, (by first|omega|simp<;>omega), (by first|omega|simp<;>omega), (by first|omega|simp<;>omega), Eq.symm ((Eq.symm e8).trans ((if_pos h17).trans (if_neg h18)))⟩
   ·refine WL.of (WL.of (WL.pv (Pu.pickF rfl rfl) (WL.nt ?_)))
    refine CW.condF rfl ?_
    refine CW.skip (QX.thenN ?_)
    refine CW.reg (WL.mv rfl (WL.mv rfl ?_))
    refine WL.lit (M := 1048576) ([(⟨bt a0 r2⟩ : U8)] : List U8) rfl rfl ap302 rfl rfl rfl rfl rfl rfl rfl rfl rfl (by decide) (OkL.cons trivial OkL.nil) st ?_
    intro b32 W31 H33 st l34 k35
    refine WL.pv (Pu.convb (s := (⟨some ⟨b32, 0, none⟩, 1, ([(⟨bt a0 r2⟩ : U8)] : List U8)⟩ : Sl U8)) rfl Tryz.underlying302 Tryz.underlying5 Tryz.underlying9 k35 st.sub) ?_
    have z36 : r1.size < 1048576 := k12
    refine WL.pv (Pu.sadd rfl rfl (by first|omega|simp<;>omega)) (WL.as rfl ?_)
    refine WL.nil (QX.blkN (QX.thenN ?_))
    refine CW.reg (WL.mv rfl (WL.pv (Pu.iadd rfl rfl (c := r2 + 1) (w64 (by omega) (by omega))) (WL.as rfl ?_)))
    refine WL.nil (QX.round ⟨n3, r1 ++ (bsS ([(⟨bt a0 r2⟩ : U8)] : List U8)), r2 + 1⟩ ?_ (Nat.lt_succ_self _) (.cons rfl (.cons rfl (.cons rfl (.nil _)))))
    exact ⟨⟨_, st, (l6.trans l34), (by first|omega|simp<;>omega), (by first|omega|simp<;>omega)⟩, (by first|omega|simp<;>omega), (by first|omega|simp<;>omega), (by first|omega|simp<;>omega), Eq.symm ((Eq.symm e8).trans (if_neg h17))⟩
  ·obtain rfl : N14 = 0 := by omega
   refine CW.exit (QX.thenE (QX.thenE (QX.hit (QX.meets r1 ?_ (.cons rfl (.nil _))))))
   exact ⟨⟨_, st, l6, k12, (by first|omega|simp<;>omega)⟩, Eq.symm e8⟩
 rintro r4 W41 ⟨⟨H39, st, l40, k43, g44⟩, e42⟩
 replace st : St w _ _ _ [] := st
 replace k43 : r4.size < 1048576 := k43
 replace g44 : r4.size ≤ ((a0.size : Int)) := g44
 replace e42 : m297_l0 a0 (((a0.size : Int) - 0).toNat) (⟨#[]⟩ : ByteArray) 0 = r4 := e42
 show QX _ _ _ [(3, Value.string r4)] _
 refine QX.thenN (CW.seq (CW.reg (WL.mv rfl (WL.as rfl (WL.nt ?_)))))
 refine CW.ret (finA Tryz.results297 st (.tmp rfl .nil) ?_)
 exact ⟨r4, rfl, k43, Eq.symm (lk1_eq e42)⟩
/-! toll tollref05.Same -/
def m257 (a0 : ByteArray) (a1 : ByteArray) : Bool :=
 decide (m297 a0 = m297 a1)
theorem c257 (a0 : ByteArray) (a1 : ByteArray) {w : World} {H : PH} (hs : Sub H w) (k0p : a0.size < 1048576) (k1p : a1.size < 1048576) : Spec Tryz.prog 257 [.string a0, .string a1].toArray w H (fun _ v => v = .bool (m257 a0 a1)) := by
 refine Spec.enter Tryz.func257 rfl Tryz.ntmps257 rfl ?_
 have st := St.start hs
 refine CW.seq (CW.reg (WL.as rfl (WL.nt (CW.seq (CW.reg (WL.mv rfl ?_))))))
 refine WL.call rfl rfl en297 rfl rfl st (c297 a0 st.sub k0p) ?_
 rintro _ W1 H2 st l3 ⟨x4, rfl, k5, e6⟩
 subst e6
 refine WL.mv rfl ?_
 refine WL.call rfl rfl en297 rfl rfl st (c297 a1 st.sub k1p) ?_
 rintro _ W7 H8 st l9 ⟨x10, rfl, k11, e12⟩
 subst e12
 refine WL.pv (Pu.seq rfl rfl) (WL.as rfl (WL.nt ?_))
 refine CW.ret (finA Tryz.results257 st (.tmp rfl .nil) ?_)
 exact congrArg (fun z => Value.bool z) (Eq.symm rfl)
/-! toll tollref07.All -/
def m209_l1 (a0 : List Filter) (r2 : Int) : Nat → Int → (Bool ⊕ Unit)
 | 0, _ => .inr ()
 | n28 + 1, r27 => if ((lg a0 r27).kind) = (lg a0 r2).kind then (if (m257 ((lg a0 r27).name) ((lg a0 r2).name)) = true then (.inl false) else m209_l1 a0 r2 n28 (r27 + 1)) else m209_l1 a0 r2 n28 (r27 + 1)
def m209_l2 (a0 : List Filter) (r2 : Int) : Nat → Int → (Bool ⊕ Unit)
 | 0, _ => .inr ()
 | n72 + 1, r71 => if ((lg a0 r71).kind) = (lg a0 r2).kind then (if (m257 ((lg a0 r71).name) ((lg a0 r2).name)) = true then (.inl false) else m209_l2 a0 r2 n72 (r71 + 1)) else m209_l2 a0 r2 n72 (r71 + 1)
def m209_l0 (a0 : List Filter) : Nat → Int → Int → (Bool ⊕ Int)
 | 0, r1, _ => .inr r1
 | n3 + 1, r1, r2 => if (m256 (lg a0 r2)) = true then (if (3 : Int) < (lg a0 r2).kind then (lkR (m209_l1 a0 r2 ((r2 - 0).toNat) 0) (fun _ => m209_l0 a0 n3 (r1 + 1) (r2 + 1))) else lkR (m209_l2 a0 r2 ((r2 - 0).toNat) 0) (fun _ => m209_l0 a0 n3 r1 (r2 + 1))) else .inl false
def m209 (a0 : List Filter) : Bool :=
 lk2 (m209_l0 a0 (((a0.length : Int) - 0).toNat) 0 0) (fun r4 => if r4 ≤ 1 then (decide ((a0.length : Int) ≤ 8)) else false)
theorem c209 (a0 : Sl Filter) {w : World} {H : PH} (hs : Sub H w) (k0p : Sl.Ok 1048576 H a0) : Spec Tryz.prog 209 [a0.v].toArray w H (fun _ v => v = .bool (m209 a0.l)) := by
 refine Spec.enter Tryz.func209 rfl Tryz.ntmps209 rfl ?_
 have st := St.start hs
 refine CW.seq (CW.reg (WL.as rfl (WL.nt (CW.seq (CW.reg (WL.as rfl (WL.nt (CW.seq (CW.seq ?_)))))))))
 refine CW.reg (WL.as rfl (WL.nt ?_))
 refine (CW.cuts (fun (s : Int) W => (∃ H', St w W H H' [] ∧ Le H H' ∧ 0 ≤ s ∧ s ≤ ((a0.l.length : Int)) + 0) ∧ m209_l0 a0.l (((a0.l.length : Int) - 0).toNat) 0 0 = .inr s) (fun (s : Int) => [(0, a0.v), (3, Value.int .i64 s)]) ?_ ?_)
 ·refine CW.blk (CW.loop (fun (s : Nat × Int × Int) W => (∃ H', St w W H H' [] ∧ Le H H' ∧ 0 ≤ s.2.1 ∧ s.2.1 ≤ s.2.2 + 0) ∧ 0 ≤ s.2.2 ∧ s.2.2 ≤ (a0.l.length : Int) ∧ s.1 = ((a0.l.length : Int) - s.2.2).toNat ∧ m209_l0 a0.l s.1 s.2.1 s.2.2 = m209_l0 a0.l (((a0.l.length : Int) - 0).toNat) 0 0) (fun (s : Nat × Int × Int) => [(0, a0.v), (3, Value.int .i64 s.2.1), (4, Value.int .i64 s.2.2)]) (fun s => s.1) ⟨((a0.l.length : Int) - 0).toNat, 0, 0⟩ ⟨⟨_, st, Le.refl _, (by first|omega|simp<;>omega)⟩, (by first|omega|simp<;>omega), (by first|omega|simp<;>omega), rfl, rfl⟩ (.cons rfl (.cons rfl (.cons rfl (.nil _)))) ?_)
  rintro ⟨N13, r1, r2⟩ W7 ⟨⟨H5, st, l6, g12⟩, g115, g116, g11, e8⟩
  replace g115 : 0 ≤ r2 := g115
  replace g116 : r2 ≤ (a0.l.length : Int) := g116
  replace g11 : N13 = ((a0.l.length : Int) - r2).toNat := g11
  replace e8 : m209_l0 a0.l N13 r1 r2 = m209_l0 a0.l (((a0.l.length : Int) - 0).toNat) 0 0 := e8
  replace g12 : 0 ≤ r1 ∧ r1 ≤ r2 + 0 := g12
  show CW _ _ _ _ [(0, a0.v), (3, Value.int .i64 r1), (4, Value.int .i64 r2)] _
  refine CW.seq (CW.seq (CW.reg (WL.mv rfl (WL.mv rfl ?_))))
  have z14 : a0.l.length ≤ 1048576 := (k0p.le l6).top
  refine WL.pv (Pu.lens (n := a0.l.length) rfl sl63) (WL.pv (Pu.ilt rfl rfl) (WL.nt ?_))
  refine CW.condP 9 rfl dT dF (fun h15 => ?_) (fun h15 => ?_)
  ·obtain ⟨n3, rfl⟩ : ∃ k, N13 = k + 1 := ⟨N13 - 1, by omega⟩
   refine CW.skip (QX.thenN ?_)
   refine CW.seq ?_
   refine CW.blk ?_
   refine CW.seq (CW.seq (CW.reg (WL.mv rfl (WL.mv rfl ?_))))
   have y16 := lg_get (l := a0.l) (i := r2) (by omega) (by omega)
   have k19 : Filter.Ok 1048576 H5 (lg a0.l r2) := ((k0p.le l6).get _ _ y16).2
   refine WL.idx (s := a0) rfl rfl rfl rfl sl63 (k0p.le l6) (by omega) y16 ?_
   intro ad17 f18
   refine WL.pv (Pu.load (v := Filter.v (lg a0.l r2)) rfl ty186 (f18.w st.sub) rfl) ?_
   refine WL.callv rfl rfl en256 rfl rfl st (c256 (lg a0.l r2) st.sub k19) ?_
   intro W20 st
   refine WL.pv (Pu.notb rfl) (WL.nt ?_)
   refine CW.condP 17 rfl mT mF (fun h21 => ?_) (fun h21 => ?_)
   ·refine CW.seq (CW.reg (WL.as rfl (WL.nt ?_)))
    refine CW.ret (QX.thenR (QX.blkR (QX.thenR (QX.thenR (QX.blkR (QX.thenR (QX.thenR (finA Tryz.results209 st (.tmp rfl .nil) ?_))))))))
    exact vb (lk_inl ((Eq.symm e8).trans (if_neg h21)))
   ·refine CW.skip (QX.thenN ?_)
    refine CW.seq (CW.seq (CW.reg (WL.mv rfl (WL.mv rfl ?_))))
    have y22 := lg_get (l := a0.l) (i := r2) (by omega) (by omega)
    have k25 : Filter.Ok 1048576 H5 (lg a0.l r2) := ((k0p.le l6).get _ _ y22).2
    refine WL.idx (s := a0) rfl rfl rfl rfl sl63 (k0p.le l6) (by omega) y22 ?_
    intro ad23 f24
    refine WL.pv (Pu.fa rfl fo186_0) (WL.pv (Pu.load rfl ty3 ((f24.drop 0).w st.sub) rfl) (WL.pv (Pu.igt rfl rfl) (WL.nt ?_)))
    refine CW.condP 23 rfl dT dF (fun h26 => ?_) (fun h26 => ?_)
    ·refine CW.reg (WL.mv rfl (WL.pv (Pu.iadd rfl rfl (c := r1 + 1) (w64 (by omega) (by omega))) (WL.as rfl (WL.nt (CW.seq (CW.reg (WL.as rfl (WL.nt ?_))))))))
     refine (CW.cuts (fun (s : Unit) W => (∃ H', St w W H H' [] ∧ Le H5 H') ∧ m209_l1 a0.l r2 ((r2 - 0).toNat) 0 = .inr ()) (fun (s : Unit) => [(0, a0.v), (3, Value.int .i64 (r1 + 1)), (4, Value.int .i64 r2)]) ?_ ?_)
     ·refine CW.blk (CW.loop (fun (s : Nat × Int) W => (∃ H', St w W H H' [] ∧ Le H5 H') ∧ 0 ≤ s.2 ∧ s.1 = (r2 - s.2).toNat ∧ m209_l1 a0.l r2 s.1 s.2 = m209_l1 a0.l r2 ((r2 - 0).toNat) 0) (fun (s : Nat × Int) => [(0, a0.v), (3, Value.int .i64 (r1 + 1)), (4, Value.int .i64 r2), (5, Value.int .i64 s.2)]) (fun s => s.1) ⟨(r2 - 0).toNat, 0⟩ ⟨⟨_, st, Le.refl _⟩, (by first|omega|simp<;>omega), rfl, rfl⟩ (.cons rfl (.cons rfl (.cons rfl (.cons rfl (.nil _))))) ?_)
      rintro ⟨N36, r27⟩ W31 ⟨⟨H29, st, l30⟩, g66, g35, e32⟩
      replace g66 : 0 ≤ r27 := g66
      replace g35 : N36 = (r2 - r27).toNat := g35
      replace e32 : m209_l1 a0.l r2 N36 r27 = m209_l1 a0.l r2 ((r2 - 0).toNat) 0 := e32
      show CW _ _ _ _ [(0, a0.v), (3, Value.int .i64 (r1 + 1)), (4, Value.int .i64 r2), (5, Value.int .i64 r27)] _
      refine CW.seq (CW.seq (CW.reg (WL.mv rfl (WL.mv rfl (WL.pv (Pu.ilt rfl rfl) (WL.nt ?_))))))
      refine CW.condP 28 rfl dT dF (fun h37 => ?_) (fun h37 => ?_)
      ·obtain ⟨n28, rfl⟩ : ∃ k, N36 = k + 1 := ⟨N36 - 1, by omega⟩
       refine CW.skip (QX.thenN ?_)
       refine CW.seq ?_
       refine CW.blk ?_
       refine CW.seq ?_
       refine CW.regS (C := Cl w H29 []) (tail := []) (S := Grew w H H29 []) mixed (fun W' h1 h2 h3 h4 => grew_start st h1 h2 h3 h4) (n := 24) rfl ?_
       refine WS.pk 0 rfl gg (fun W hC => Pu.move rfl) ?_
       refine WS.pk 1 rfl gg (fun W hC => Pu.move rfl) ?_
       have y38 := lg_get (l := a0.l) (i := r27) (by omega) (by omega)
       have k41 : Filter.Ok 1048576 H29 (lg a0.l r27) := ((k0p.le (l6.trans l30)).get _ _ y38).2
       obtain ⟨ad39, qa42, f40⟩ := ((k0p.le (l6.trans l30)).get _ _ y38).1
       refine WS.pk 2 rfl gg (fun W hC => Pu.idx0 rfl rfl sl63 (by first|omega|simp<;>omega) (by first|omega|simp<;>omega) qa42) ?_
       refine WS.pk 3 rfl gg (fun W hC => Pu.fa rfl fo186_0) ?_
       refine WS.pk 4 rfl gg (fun W hC => Pu.load rfl ty3 ((f40.drop 0).w hC.1) rfl) ?_
       refine WS.pk 5 rfl gg (fun W hC => Pu.move rfl) ?_
       refine WS.pk 6 rfl gg (fun W hC => Pu.move rfl) ?_
       have y43 := lg_get (l := a0.l) (i := r2) (by omega) (by omega)
       have k46 : Filter.Ok 1048576 H29 (lg a0.l r2) := ((k0p.le (l6.trans l30)).get _ _ y43).2
       obtain ⟨ad44, qa47, f45⟩ := ((k0p.le (l6.trans l30)).get _ _ y43).1
       refine WS.pk 7 rfl gg (fun W hC => Pu.idx0 rfl rfl sl63 (by first|omega|simp<;>omega) (by first|omega|simp<;>omega) qa47) ?_
       refine WS.pk 8 rfl gg (fun W hC => Pu.fa rfl fo186_0) ?_
       refine WS.pk 9 rfl gg (fun W hC => Pu.load rfl ty3 ((f45.drop 0).w hC.1) rfl) ?_
       refine WS.pk 10 rfl gg (fun W hC => Pu.ieq rfl rfl) ?_
       refine WS.pk 11 rfl gg (fun W hC => Pu.move rfl) ?_
       refine WS.split 42 rfl dT dF (fun h48 => ?_) (fun h48 => ?_)
       ·refine WS.pk 12 rfl gg (fun W hC => Pu.move rfl) ?_
        refine WS.pk 13 rfl gg (fun W hC => Pu.move rfl) ?_
        have y49 := lg_get (l := a0.l) (i := r27) (by omega) (by omega)
        have k52 : Filter.Ok 1048576 H29 (lg a0.l r27) := ((k0p.le (l6.trans l30)).get _ _ y49).2
        obtain ⟨ad50, qa53, f51⟩ := ((k0p.le (l6.trans l30)).get _ _ y49).1
        refine WS.pk 14 rfl gg (fun W hC => Pu.idx0 rfl rfl sl63 (by first|omega|simp<;>omega) (by first|omega|simp<;>omega) qa53) ?_
        refine WS.pk 15 rfl gg (fun W hC => Pu.fa rfl fo186_1) ?_
        refine WS.pk 16 rfl gg (fun W hC => Pu.load rfl ty9 ((f51.drop 1).w hC.1) rfl) ?_
        refine WS.pk 17 rfl gg (fun W hC => Pu.move rfl) ?_
        refine WS.pk 18 rfl gg (fun W hC => Pu.move rfl) ?_
        have y54 := lg_get (l := a0.l) (i := r2) (by omega) (by omega)
        have k57 : Filter.Ok 1048576 H29 (lg a0.l r2) := ((k0p.le (l6.trans l30)).get _ _ y54).2
        obtain ⟨ad55, qa58, f56⟩ := ((k0p.le (l6.trans l30)).get _ _ y54).1
        refine WS.pk 19 rfl gg (fun W hC => Pu.idx0 rfl rfl sl63 (by first|omega|simp<;>omega) (by first|omega|simp<;>omega) qa58) ?_
        refine WS.pk 20 rfl gg (fun W hC => Pu.fa rfl fo186_1) ?_
        refine WS.pk 21 rfl gg (fun W hC => Pu.load rfl ty9 ((f56.drop 1).w hC.1) rfl) ?_
        refine WS.callv (by kernel_rfl) (.then (.blk (.then (.then (.blk (.then (.blk (.then (.then (.blk (.then (.then .body)))))))))))) 22 rfl (by kernel_rfl) (good_grew (Le.refl _) (fun _ h => h)) rfl rfl en257 rfl rfl (fun W hC => ⟨_, c257 ((lg a0.l r27).name) ((lg a0.l r2).name) hC.1 k52.name k57.name⟩) ?_
        refine WS.pk 23 rfl gg (fun W hC => Pu.pickT rfl rfl) ?_
        refine WS.fin (by kernel_rfl) (fun W61 H59 st l60 => ?_)
        refine QX.thenN ?_
        refine CW.condP 54 rfl rT rF (fun h62 => ?_) (fun h62 => ?_)
        ·refine CW.seq (CW.reg (WL.as rfl (WL.nt ?_)))
         refine CW.ret (QX.blkR (QX.thenR (QX.thenR (QX.blkR (QX.thenR (QX.blkR (QX.thenR (QX.thenR (QX.blkR (QX.thenR (QX.thenR (finA Tryz.results209 st (.tmp rfl .nil) ?_))))))))))))
         exact vb (lk_inl ((Eq.symm e8).trans ((if_pos h21).trans ((if_pos h26).trans (lkR_inl ((Eq.symm e32).trans ((if_pos h48).trans (if_pos h62))))))))
        ·refine CW.skip (QX.blkN (QX.thenN ?_))
         refine CW.reg (WL.mv rfl (WL.pv (Pu.iadd rfl rfl (c := r27 + 1) (w64 (by omega) (by omega))) (WL.as rfl ?_)))
         refine WL.nil (QX.round ⟨n28, r27 + 1⟩ ?_ (Nat.lt_succ_self _) (.cons rfl (.cons rfl (.cons rfl (.cons rfl (.nil _))))))
         exact ⟨⟨_, st, (l30.trans l60)⟩, (by first|omega|simp<;>omega), (by first|omega|simp<;>omega), Eq.symm ((Eq.symm e32).trans ((if_pos h48).trans (if_neg h62)))⟩
       ·refine WS.ok 12 rfl gg ?_
        refine WS.ok 13 rfl gg ?_
        refine WS.ok 14 rfl gg ?_
        refine WS.ok 15 rfl gg ?_
        refine WS.ok 16 rfl gg ?_
        refine WS.ok 17 rfl gg ?_
        refine WS.ok 18 rfl gg ?_
        refine WS.ok 19 rfl gg ?_
        refine WS.ok 20 rfl gg ?_
        refine WS.ok 21 rfl gg ?_
        refine WS.ok 22 rfl gg ?_
        refine WS.pk 23 rfl gg (fun W hC => Pu.pickF rfl rfl) ?_
        refine WS.fin (by kernel_rfl) (fun W65 H63 st l64 => ?_)
        refine QX.thenN ?_
        refine CW.condF rfl ?_
        refine CW.skip (QX.blkN (QX.thenN ?_))
        refine CW.reg (WL.mv rfl (WL.pv (Pu.iadd rfl rfl (c := r27 + 1) (w64 (by omega) (by omega))) (WL.as rfl ?_)))
        refine WL.nil (QX.round ⟨n28, r27 + 1⟩ ?_ (Nat.lt_succ_self _) (.cons rfl (.cons rfl (.cons rfl (.cons rfl (.nil _))))))
        exact ⟨⟨_, st, (l30.trans l64)⟩, (by first|omega|simp<;>omega), (by first|omega|simp<;>omega), Eq.symm ((Eq.symm e32).trans (if_neg h48))⟩
      ·obtain rfl : N36 = 0 := by omega
       refine CW.exit (QX.thenE (QX.thenE (QX.hit (QX.meets () ?_ (.cons rfl (.cons rfl (.cons rfl (.nil _))))))))
       exact ⟨⟨_, st, l30⟩, Eq.symm e32⟩
     rintro _ W69 ⟨⟨H67, st, l68⟩, e70⟩
     show QX _ _ _ [(0, a0.v), (3, Value.int .i64 (r1 + 1)), (4, Value.int .i64 r2)] _
     refine QX.blkN (QX.thenN ?_)
     refine CW.reg (WL.mv rfl (WL.pv (Pu.iadd rfl rfl (c := r2 + 1) (w64 (by omega) (by omega))) (WL.as rfl ?_)))
     refine WL.nil (QX.round ⟨n3, r1 + 1, r2 + 1⟩ ?_ (Nat.lt_succ_self _) (.cons rfl (.cons rfl (.cons rfl (.nil _)))))
     exact ⟨⟨_, st, (l6.trans l68), (by first|omega|simp<;>omega)⟩, (by first|omega|simp<;>omega), (by first|omega|simp<;>omega), (by first|omega|simp<;>omega), Eq.symm ((Eq.symm e8).trans ((if_pos h21).trans ((if_pos h26).trans (lkR_inr e70))))⟩
    ·refine CW.skip (QX.thenN ?_)
     refine CW.seq (CW.reg (WL.as rfl (WL.nt ?_)))
     refine (CW.cuts (fun (s : Unit) W => (∃ H', St w W H H' [] ∧ Le H5 H') ∧ m209_l2 a0.l r2 ((r2 - 0).toNat) 0 = .inr ()) (fun (s : Unit) => [(0, a0.v), (3, Value.int .i64 r1), (4, Value.int .i64 r2)]) ?_ ?_)
     ·refine CW.blk (CW.loop (fun (s : Nat × Int) W => (∃ H', St w W H H' [] ∧ Le H5 H') ∧ 0 ≤ s.2 ∧ s.1 = (r2 - s.2).toNat ∧ m209_l2 a0.l r2 s.1 s.2 = m209_l2 a0.l r2 ((r2 - 0).toNat) 0) (fun (s : Nat × Int) => [(0, a0.v), (3, Value.int .i64 r1), (4, Value.int .i64 r2), (5, Value.int .i64 s.2)]) (fun s => s.1) ⟨(r2 - 0).toNat, 0⟩ ⟨⟨_, st, Le.refl _⟩, (by first|omega|simp<;>omega), rfl, rfl⟩ (.cons rfl (.cons rfl (.cons rfl (.cons rfl (.nil _))))) ?_)
      rintro ⟨N80, r71⟩ W75 ⟨⟨H73, st, l74⟩, g110, g79, e76⟩
      replace g110 : 0 ≤ r71 := g110
      replace g79 : N80 = (r2 - r71).toNat := g79
      replace e76 : m209_l2 a0.l r2 N80 r71 = m209_l2 a0.l r2 ((r2 - 0).toNat) 0 := e76
      show CW _ _ _ _ [(0, a0.v), (3, Value.int .i64 r1), (4, Value.int .i64 r2), (5, Value.int .i64 r71)] _
      refine CW.seq (CW.seq (CW.reg (WL.mv rfl (WL.mv rfl (WL.pv (Pu.ilt rfl rfl) (WL.nt ?_))))))
      refine CW.condP 28 rfl dT dF (fun h81 => ?_) (fun h81 => ?_)
      ·obtain ⟨n72, rfl⟩ : ∃ k, N80 = k + 1 := ⟨N80 - 1, by omega⟩
       refine CW.skip (QX.thenN ?_)
       refine CW.seq ?_
       refine CW.blk ?_
       refine CW.seq ?_
       refine CW.regS (C := Cl w H73 []) (tail := []) (S := Grew w H H73 []) mixed (fun W' h1 h2 h3 h4 => grew_start st h1 h2 h3 h4) (n := 24) rfl ?_
       refine WS.pk 0 rfl gg (fun W hC => Pu.move rfl) ?_
       refine WS.pk 1 rfl gg (fun W hC => Pu.move rfl) ?_
       have y82 := lg_get (l := a0.l) (i := r71) (by omega) (by omega)
       have k85 : Filter.Ok 1048576 H73 (lg a0.l r71) := ((k0p.le (l6.trans l74)).get _ _ y82).2
       obtain ⟨ad83, qa86, f84⟩ := ((k0p.le (l6.trans l74)).get _ _ y82).1
       refine WS.pk 2 rfl gg (fun W hC => Pu.idx0 rfl rfl sl63 (by first|omega|simp<;>omega) (by first|omega|simp<;>omega) qa86) ?_
       refine WS.pk 3 rfl gg (fun W hC => Pu.fa rfl fo186_0) ?_
       refine WS.pk 4 rfl gg (fun W hC => Pu.load rfl ty3 ((f84.drop 0).w hC.1) rfl) ?_
       refine WS.pk 5 rfl gg (fun W hC => Pu.move rfl) ?_
       refine WS.pk 6 rfl gg (fun W hC => Pu.move rfl) ?_
       have y87 := lg_get (l := a0.l) (i := r2) (by omega) (by omega)
       have k90 : Filter.Ok 1048576 H73 (lg a0.l r2) := ((k0p.le (l6.trans l74)).get _ _ y87).2
       obtain ⟨ad88, qa91, f89⟩ := ((k0p.le (l6.trans l74)).get _ _ y87).1
       refine WS.pk 7 rfl gg (fun W hC => Pu.idx0 rfl rfl sl63 (by first|omega|simp<;>omega) (by first|omega|simp<;>omega) qa91) ?_
       refine WS.pk 8 rfl gg (fun W hC => Pu.fa rfl fo186_0) ?_
       refine WS.pk 9 rfl gg (fun W hC => Pu.load rfl ty3 ((f89.drop 0).w hC.1) rfl) ?_
       refine WS.pk 10 rfl gg (fun W hC => Pu.ieq rfl rfl) ?_
       refine WS.pk 11 rfl gg (fun W hC => Pu.move rfl) ?_
       refine WS.split 42 rfl dT dF (fun h92 => ?_) (fun h92 => ?_)
       ·refine WS.pk 12 rfl gg (fun W hC => Pu.move rfl) ?_
        refine WS.pk 13 rfl gg (fun W hC => Pu.move rfl) ?_
        have y93 := lg_get (l := a0.l) (i := r71) (by omega) (by omega)
        have k96 : Filter.Ok 1048576 H73 (lg a0.l r71) := ((k0p.le (l6.trans l74)).get _ _ y93).2
        obtain ⟨ad94, qa97, f95⟩ := ((k0p.le (l6.trans l74)).get _ _ y93).1
        refine WS.pk 14 rfl gg (fun W hC => Pu.idx0 rfl rfl sl63 (by first|omega|simp<;>omega) (by first|omega|simp<;>omega) qa97) ?_
        refine WS.pk 15 rfl gg (fun W hC => Pu.fa rfl fo186_1) ?_
        refine WS.pk 16 rfl gg (fun W hC => Pu.load rfl ty9 ((f95.drop 1).w hC.1) rfl) ?_
        refine WS.pk 17 rfl gg (fun W hC => Pu.move rfl) ?_
        refine WS.pk 18 rfl gg (fun W hC => Pu.move rfl) ?_
        have y98 := lg_get (l := a0.l) (i := r2) (by omega) (by omega)
        have k101 : Filter.Ok 1048576 H73 (lg a0.l r2) := ((k0p.le (l6.trans l74)).get _ _ y98).2
        obtain ⟨ad99, qa102, f100⟩ := ((k0p.le (l6.trans l74)).get _ _ y98).1
        refine WS.pk 19 rfl gg (fun W hC => Pu.idx0 rfl rfl sl63 (by first|omega|simp<;>omega) (by first|omega|simp<;>omega) qa102) ?_
        refine WS.pk 20 rfl gg (fun W hC => Pu.fa rfl fo186_1) ?_
        refine WS.pk 21 rfl gg (fun W hC => Pu.load rfl ty9 ((f100.drop 1).w hC.1) rfl) ?_
        refine WS.callv (by kernel_rfl) (.then (.blk (.then (.then (.blk (.then (.blk (.then (.then (.blk (.then (.then .body)))))))))))) 22 rfl (by kernel_rfl) (good_grew (Le.refl _) (fun _ h => h)) rfl rfl en257 rfl rfl (fun W hC => ⟨_, c257 ((lg a0.l r71).name) ((lg a0.l r2).name) hC.1 k96.name k101.name⟩) ?_
        refine WS.pk 23 rfl gg (fun W hC => Pu.pickT rfl rfl) ?_
        refine WS.fin (by kernel_rfl) (fun W105 H103 st l104 => ?_)
        refine QX.thenN ?_
        refine CW.condP 54 rfl rT rF (fun h106 => ?_) (fun h106 => ?_)
        ·refine CW.seq (CW.reg (WL.as rfl (WL.nt ?_)))
         refine CW.ret (QX.blkR (QX.thenR (QX.thenR (QX.blkR (QX.thenR (QX.blkR (QX.thenR (QX.thenR (QX.blkR (QX.thenR (QX.thenR (finA Tryz.results209 st (.tmp rfl .nil) ?_))))))))))))
         exact vb (lk_inl ((Eq.symm e8).trans ((if_pos h21).trans ((if_neg h26).trans (lkR_inl ((Eq.symm e76).trans ((if_pos h92).trans (if_pos h106))))))))
        ·refine CW.skip (QX.blkN (QX.thenN ?_))
         refine CW.reg (WL.mv rfl (WL.pv (Pu.iadd rfl rfl (c := r71 + 1) (w64 (by omega) (by omega))) (WL.as rfl ?_)))
         refine WL.nil (QX.round ⟨n72, r71 + 1⟩ ?_ (Nat.lt_succ_self _) (.cons rfl (.cons rfl (.cons rfl (.cons rfl (.nil _))))))
         exact ⟨⟨_, st, (l74.trans l104)⟩, (by first|omega|simp<;>omega), (by first|omega|simp<;>omega), Eq.symm ((Eq.symm e76).trans ((if_pos h92).trans (if_neg h106)))⟩
       ·refine WS.ok 12 rfl gg ?_
        refine WS.ok 13 rfl gg ?_
        refine WS.ok 14 rfl gg ?_
        refine WS.ok 15 rfl gg ?_
        refine WS.ok 16 rfl gg ?_
        refine WS.ok 17 rfl gg ?_
        refine WS.ok 18 rfl gg ?_
        refine WS.ok 19 rfl gg ?_
        refine WS.ok 20 rfl gg ?_
        refine WS.ok 21 rfl gg ?_
        refine WS.ok 22 rfl gg ?_
        refine WS.pk 23 rfl gg (fun W hC => Pu.pickF rfl rfl) ?_
        refine WS.fin (by kernel_rfl) (fun W109 H107 st l108 => ?_)
        refine QX.thenN ?_
        refine CW.condF rfl ?_
        refine CW.skip (QX.blkN (QX.thenN ?_))
        refine CW.reg (WL.mv rfl (WL.pv (Pu.iadd rfl rfl (c := r71 + 1) (w64 (by omega) (by omega))) (WL.as rfl ?_)))
        refine WL.nil (QX.round ⟨n72, r71 + 1⟩ ?_ (Nat.lt_succ_self _) (.cons rfl (.cons rfl (.cons rfl (.cons rfl (.nil _))))))
        exact ⟨⟨_, st, (l74.trans l108)⟩, (by first|omega|simp<;>omega), (by first|omega|simp<;>omega), Eq.symm ((Eq.symm e76).trans (if_neg h92))⟩
      ·obtain rfl : N80 = 0 := by omega
       refine CW.exit (QX.thenE (QX.thenE (QX.hit (QX.meets () ?_ (.cons rfl (.cons rfl (.cons rfl (.nil _))))))))
       exact ⟨⟨_, st, l74⟩, Eq.symm e76⟩
     rintro _ W113 ⟨⟨H111, st, l112⟩, e114⟩
     show QX _ _ _ [(0, a0.v), (3, Value.int .i64 r1), (4, Value.int .i64 r2)] _
     refine QX.blkN (QX.thenN ?_)
     refine CW.reg (WL.mv rfl (WL.pv (Pu.iadd rfl rfl (c := r2 + 1) (w64 (by omega) (by omega))) (WL.as rfl ?_)))
     refine WL.nil (QX.round ⟨n3, r1, r2 + 1⟩ ?_ (Nat.lt_succ_self _) (.cons rfl (.cons rfl (.cons rfl (.nil _)))))
     exact ⟨⟨_, st, (l6.trans l112), (by first|omega|simp<;>omega)⟩, (by first|omega|simp<;>omega), (by first|omega|simp<;>omega), (by first|omega|simp<;>omega), Eq.symm ((Eq.symm e8).trans ((if_pos h21).trans ((if_neg h26).trans (lkR_inr e114))))⟩
  ·obtain rfl : N13 = 0 := by omega
   refine CW.exit (QX.thenE (QX.thenE (QX.hit (QX.meets r1 ?_ (.cons rfl (.cons rfl (.nil _)))))))
   exact ⟨⟨_, st, l6, (by first|omega|simp<;>omega)⟩, Eq.symm e8⟩
 rintro r4 W119 ⟨⟨H117, st, l118, g121⟩, e120⟩
 replace st : St w _ _ _ [] := st
 replace g121 : 0 ≤ r4 ∧ r4 ≤ ((a0.l.length : Int)) + 0 := g121
 replace e120 : m209_l0 a0.l (((a0.l.length : Int) - 0).toNat) 0 0 = .inr r4 := e120
 show QX _ _ _ [(0, a0.v), (3, Value.int .i64 r4)] _
 refine QX.thenN (CW.seq (CW.reg (WL.mv rfl (WL.pv (Pu.ile rfl rfl) (WL.mv rfl ?_)))))
 refine WL.splitP 57 rfl dT dF (fun h122 => ?_) (fun h122 => ?_)
 ·refine WL.mv rfl ?_
  have z123 : a0.l.length ≤ 1048576 := (k0p.le l118).top
  refine WL.pv (Pu.lens (n := a0.l.length) rfl sl63) (WL.pv (Pu.ile rfl rfl) (WL.pv (Pu.pickT rfl rfl) (WL.as rfl (WL.nt ?_))))
  refine CW.ret (finA Tryz.results209 st (.tmp rfl .nil) ?_)
  exact vb ((lk_inr e120).trans (if_pos h122))
 ·refine WL.of (WL.of (WL.of (WL.pv (Pu.pickF rfl rfl) (WL.as rfl (WL.nt ?_)))))
  refine CW.ret (finA Tryz.results209 st (.tmp rfl .nil) ?_)
  exact vb ((lk_inr e120).trans (if_neg h122))
/-! toll tollref03.May -/
def m258 (a0 : Path) : Bool :=
 if a0.kind = 1 then (m298 a0.val) else if a0.kind = 2 then (m299 a0.val) else false
theorem c258 (a0 : Path) {w : World} {H : PH} (hs : Sub H w) (k0p : Path.Ok 1048576 H a0) : Spec Tryz.prog 258 [Path.v a0].toArray w H (fun _ v => v = .bool (m258 a0)) := by
 refine Spec.enter Tryz.func258 rfl Tryz.ntmps258 rfl ?_
 have st := St.start hs
 refine CW.seq (CW.reg ?_)
 refine WL.box rfl rfl rfl rfl st ?_
 intro b1 W2 H3 st l4 f5
 refine WL.as rfl (WL.nt (CW.seq (CW.seq (CW.reg (WL.pv (Pu.fa rfl fo122_0) (WL.pv (Pu.load rfl ty3 ((f5.drop 0).w st.sub) rfl) (WL.pv (Pu.ieq rfl rfl) (WL.nt ?_))))))))
 refine CW.condP 5 rfl dT dF (fun h6 => ?_) (fun h6 => ?_)
 ·refine CW.seq (CW.reg (WL.pv (Pu.fa rfl fo122_1) (WL.pv (Pu.load rfl ty9 ((f5.drop 1).w st.sub) rfl) ?_)))
  refine WL.callv rfl rfl en298 rfl rfl st (c298 a0.val st.sub k0p.val) ?_
  intro W7 st
  refine WL.as rfl (WL.nt ?_)
  refine CW.ret (QX.thenR (finA Tryz.results258 st (.tmp rfl .nil) ?_))
  exact vb (if_pos h6)
 ·refine CW.skip (QX.thenN ?_)
  refine CW.seq (CW.reg (WL.pv (Pu.fa rfl fo122_0) (WL.pv (Pu.load rfl ty3 ((f5.drop 0).w st.sub) rfl) (WL.pv (Pu.ieq rfl rfl) (WL.mv rfl ?_)))))
  refine WL.splitP 12 rfl dT dF (fun h8 => ?_) (fun h8 => ?_)
  ·refine WL.pv (Pu.fa rfl fo122_1) (WL.pv (Pu.load rfl ty9 ((f5.drop 1).w st.sub) rfl) ?_)
   refine WL.callv rfl rfl en299 rfl rfl st (c299 a0.val st.sub k0p.val) ?_
   intro W9 st
   refine WL.pv (Pu.pickT rfl rfl) (WL.as rfl (WL.nt ?_))
   refine CW.ret (finA Tryz.results258 st (.tmp rfl .nil) ?_)
   exact vb ((if_neg h6).trans (if_pos h8))
  ·refine WL.of (WL.of (WL.of (WL.pv (Pu.pickF rfl rfl) (WL.as rfl (WL.nt ?_)))))
   refine CW.ret (finA Tryz.results258 st (.tmp rfl .nil) ?_)
   exact vb ((if_neg h6).trans (if_neg h8))
/-! toll tollref06.Method -/
def m259_l0 (a0 : ByteArray) : Nat → Int → (Bool ⊕ Unit)
 | 0, _ => .inr ()
 | n2 + 1, r1 => if (bt a0 r1) < 65 then (.inl false) else if (90 : Int) < bt a0 r1 then (.inl false) else m259_l0 a0 n2 (r1 + 1)
def m259 (a0 : ByteArray) : Bool :=
 lk2 (m259_l0 a0 (((a0.size : Int) - 0).toNat) 0) (fun _ => if (1 : Int) ≤ (a0.size : Int) then (decide ((a0.size : Int) ≤ 10)) else false)
theorem c259 (a0 : ByteArray) {w : World} {H : PH} (hs : Sub H w) (k0p : a0.size < 1048576) : Spec Tryz.prog 259 [.string a0].toArray w H (fun _ v => v = .bool (m259 a0)) := by
 refine Spec.enter Tryz.func259 rfl Tryz.ntmps259 rfl ?_
 have st := St.start hs
 refine CW.seq (CW.reg (WL.as rfl (WL.nt (CW.seq (CW.seq (CW.reg (WL.as rfl (WL.nt ?_))))))))
 refine (CW.cuts (fun (s : Unit) W => (∃ H', St w W H H' [] ∧ Le H H') ∧ m259_l0 a0 (((a0.size : Int) - 0).toNat) 0 = .inr ()) (fun (s : Unit) => [(0, Value.string a0)]) ?_ ?_)
 ·refine CW.blk (CW.loop (fun (s : Nat × Int) W => (∃ H', St w W H H' [] ∧ Le H H') ∧ 0 ≤ s.2 ∧ s.2 ≤ (a0.size : Int) ∧ s.1 = ((a0.size : Int) - s.2).toNat ∧ m259_l0 a0 s.1 s.2 = m259_l0 a0 (((a0.size : Int) - 0).toNat) 0) (fun (s : Nat × Int) => [(0, Value.string a0), (3, Value.int .i64 s.2)]) (fun s => s.1) ⟨((a0.size : Int) - 0).toNat, 0⟩ ⟨⟨_, st, Le.refl _⟩, (by first|omega|simp<;>omega), (by first|omega|simp<;>omega), rfl, rfl⟩ (.cons rfl (.cons rfl (.nil _))) ?_)
  rintro ⟨N10, r1⟩ W5 ⟨⟨H3, st, l4⟩, g15, g16, g9, e6⟩
  replace g15 : 0 ≤ r1 := g15
  replace g16 : r1 ≤ (a0.size : Int) := g16
  replace g9 : N10 = ((a0.size : Int) - r1).toNat := g9
  replace e6 : m259_l0 a0 N10 r1 = m259_l0 a0 (((a0.size : Int) - 0).toNat) 0 := e6
  show CW _ _ _ _ [(0, Value.string a0), (3, Value.int .i64 r1)] _
  refine CW.seq (CW.seq (CW.reg (WL.mv rfl (WL.mv rfl ?_))))
  have z11 := k0p
  refine WL.pv (Pu.lenstr rfl Tryz.underlying9) (WL.pv (Pu.ilt rfl rfl) (WL.nt ?_))
  refine CW.condP 7 rfl dT dF (fun h12 => ?_) (fun h12 => ?_)
  ·obtain ⟨n2, rfl⟩ : ∃ k, N10 = k + 1 := ⟨N10 - 1, by omega⟩
   refine CW.skip (QX.thenN ?_)
   refine CW.seq ?_
   refine CW.blk ?_
   refine CW.seq (CW.reg (WL.mv rfl (WL.mv rfl (WL.pv (Pu.ixs rfl rfl Tryz.underlying9 (by omega) (by omega)) (WL.pv (Pu.ilt rfl rfl) (WL.mv rfl ?_))))))
   refine WL.splitP 14 rfl dT dF (fun h13 => ?_) (fun h13 => ?_)
   ·refine WL.of (WL.of (WL.of (WL.of (WL.pv (Pu.pickT rfl rfl) (WL.nt ?_)))))
    refine CW.condT rfl ?_
    refine CW.seq (CW.reg (WL.as rfl (WL.nt ?_)))
    refine CW.ret (QX.blkR (QX.thenR (QX.thenR (QX.blkR (QX.thenR (QX.thenR (finA Tryz.results259 st (.tmp rfl .nil) ?_)))))))
    exact vb (lk_inl ((Eq.symm e6).trans (if_pos h13)))
   ·refine WL.mv rfl (WL.mv rfl (WL.pv (Pu.ixs rfl rfl Tryz.underlying9 (by omega) (by omega)) (WL.pv (Pu.igt rfl rfl) (WL.pv (Pu.pickF rfl rfl) (WL.nt ?_)))))
    refine CW.condP 19 rfl dT dF (fun h14 => ?_) (fun h14 => ?_)
    ·refine CW.seq (CW.reg (WL.as rfl (WL.nt ?_)))
     refine CW.ret (QX.blkR (QX.thenR (QX.thenR (QX.blkR (QX.thenR (QX.thenR (finA Tryz.results259 st (.tmp rfl .nil) ?_)))))))
     exact vb (lk_inl ((Eq.symm e6).trans ((if_neg h13).trans (if_pos h14))))
    ·refine CW.skip (QX.blkN (QX.thenN ?_))
     refine CW.reg (WL.mv rfl (WL.pv (Pu.iadd rfl rfl (c := r1 + 1) (w64 (by omega) (by omega))) (WL.as rfl ?_)))
     refine WL.nil (QX.round ⟨n2, r1 + 1⟩ ?_ (Nat.lt_succ_self _) (.cons rfl (.cons rfl (.nil _))))
     exact ⟨⟨_, st, l4⟩, (by first|omega|simp<;>omega), (by first|omega|simp<;>omega), (by first|omega|simp<;>omega), Eq.symm ((Eq.symm e6).trans ((if_neg h13).trans (if_neg h14)))⟩
  ·obtain rfl : N10 = 0 := by omega
   refine CW.exit (QX.thenE (QX.thenE (QX.hit (QX.meets () ?_ (.cons rfl (.nil _))))))
   exact ⟨⟨_, st, l4⟩, Eq.symm e6⟩
 rintro _ W19 ⟨⟨H17, st, l18⟩, e20⟩
 show QX _ _ _ [(0, Value.string a0)] _
 refine QX.thenN (CW.seq (CW.reg (WL.mv rfl ?_)))
 have z21 := k0p
 refine WL.pv (Pu.lenstr rfl Tryz.underlying9) (WL.pv (Pu.ile rfl rfl) (WL.mv rfl ?_))
 refine WL.splitP 23 rfl dT dF (fun h22 => ?_) (fun h22 => ?_)
 ·refine WL.mv rfl ?_
  have z23 := k0p
  refine WL.pv (Pu.lenstr rfl Tryz.underlying9) (WL.pv (Pu.ile rfl rfl) (WL.pv (Pu.pickT rfl rfl) (WL.as rfl (WL.nt ?_))))
  refine CW.ret (finA Tryz.results259 st (.tmp rfl .nil) ?_)
  exact vb ((lk_inr e20).trans (if_pos h22))
 ·refine WL.of (WL.of (WL.of (WL.pv (Pu.pickF rfl rfl) (WL.as rfl (WL.nt ?_)))))
  refine CW.ret (finA Tryz.results259 st (.tmp rfl .nil) ?_)
  exact vb ((lk_inr e20).trans (if_neg h22))
/-! toll tollref04.May -/
def m260_l0 (a0 : List Pair) : Nat → Int → (Bool ⊕ Unit)
 | 0, _ => .inr ()
 | n2 + 1, r1 => if (((lg a0 r1).name).size : Int) < 1 then (.inl false) else if (40 : Int) < (((lg a0 r1).name).size : Int) then (.inl false) else if (40 : Int) < (((lg a0 r1).val).size : Int) then (.inl false) else m260_l0 a0 n2 (r1 + 1)
def m260 (a0 : List Pair) : Bool :=
 lk2 (m260_l0 a0 (((a0.length : Int) - 0).toNat) 0) (fun _ => decide ((a0.length : Int) ≤ 20))
theorem c260 (a0 : Sl Pair) {w : World} {H : PH} (hs : Sub H w) (k0p : Sl.Ok 1048576 H a0) : Spec Tryz.prog 260 [a0.v].toArray w H (fun _ v => v = .bool (m260 a0.l)) := by
 refine Spec.enter Tryz.func260 rfl Tryz.ntmps260 rfl ?_
 have st := St.start hs
 refine CW.seq (CW.reg (WL.as rfl (WL.nt (CW.seq (CW.seq (CW.reg (WL.as rfl (WL.nt ?_))))))))
 refine (CW.cuts (fun (s : Unit) W => (∃ H', St w W H H' [] ∧ Le H H') ∧ m260_l0 a0.l (((a0.l.length : Int) - 0).toNat) 0 = .inr ()) (fun (s : Unit) => [(0, a0.v)]) ?_ ?_)
 ·refine CW.blk (CW.loop (fun (s : Nat × Int) W => (∃ H', St w W H H' [] ∧ Le H H') ∧ 0 ≤ s.2 ∧ s.2 ≤ (a0.l.length : Int) ∧ s.1 = ((a0.l.length : Int) - s.2).toNat ∧ m260_l0 a0.l s.1 s.2 = m260_l0 a0.l (((a0.l.length : Int) - 0).toNat) 0) (fun (s : Nat × Int) => [(0, a0.v), (3, Value.int .i64 s.2)]) (fun s => s.1) ⟨((a0.l.length : Int) - 0).toNat, 0⟩ ⟨⟨_, st, Le.refl _⟩, (by first|omega|simp<;>omega), (by first|omega|simp<;>omega), rfl, rfl⟩ (.cons rfl (.cons rfl (.nil _))) ?_)
  rintro ⟨N10, r1⟩ W5 ⟨⟨H3, st, l4⟩, g31, g32, g9, e6⟩
  replace g31 : 0 ≤ r1 := g31
  replace g32 : r1 ≤ (a0.l.length : Int) := g32
  replace g9 : N10 = ((a0.l.length : Int) - r1).toNat := g9
  replace e6 : m260_l0 a0.l N10 r1 = m260_l0 a0.l (((a0.l.length : Int) - 0).toNat) 0 := e6
  show CW _ _ _ _ [(0, a0.v), (3, Value.int .i64 r1)] _
  refine CW.seq (CW.seq (CW.reg (WL.mv rfl (WL.mv rfl ?_))))
  have z11 : a0.l.length ≤ 1048576 := (k0p.le l4).top
  refine WL.pv (Pu.lens (n := a0.l.length) rfl sl24) (WL.pv (Pu.ilt rfl rfl) (WL.nt ?_))
  refine CW.condP 7 rfl dT dF (fun h12 => ?_) (fun h12 => ?_)
  ·obtain ⟨n2, rfl⟩ : ∃ k, N10 = k + 1 := ⟨N10 - 1, by omega⟩
   refine CW.skip (QX.thenN ?_)
   refine CW.seq ?_
   refine CW.blk ?_
   refine CW.seq (CW.reg (WL.mv rfl (WL.mv rfl ?_)))
   have y13 := lg_get (l := a0.l) (i := r1) (by omega) (by omega)
   have k16 : Pair.Ok 1048576 H3 (lg a0.l r1) := ((k0p.le l4).get _ _ y13).2
   refine WL.idx (s := a0) rfl rfl rfl rfl sl24 (k0p.le l4) (by omega) y13 ?_
   intro ad14 f15
   refine WL.pv (Pu.fa rfl fo182_0) (WL.pv (Pu.load rfl ty9 ((f15.drop 0).w st.sub) rfl) ?_)
   have z17 := k16.name
   refine WL.pv (Pu.lenstr rfl Tryz.underlying9) (WL.pv (Pu.ilt rfl rfl) (WL.mv rfl ?_))
   refine WL.splitP 17 rfl dT dF (fun h18 => ?_) (fun h18 => ?_)
   ·refine WL.of (WL.of (WL.of (WL.of (WL.of (WL.of (WL.of (WL.pv (Pu.pickT rfl rfl) (WL.mv rfl (WL.of ?_)))))))))
    refine WL.of (WL.of (WL.of (WL.of (WL.of (WL.of (WL.pv (Pu.pickT rfl rfl) (WL.nt ?_)))))))
    refine CW.condT rfl ?_
    refine CW.seq (CW.reg (WL.as rfl (WL.nt ?_)))
    refine CW.ret (QX.blkR (QX.thenR (QX.thenR (QX.blkR (QX.thenR (QX.thenR (finA Tryz.results260 st (.tmp rfl .nil) ?_)))))))
    exact vb (lk_inl ((Eq.symm e6).trans (if_pos h18)))
   ·refine WL.mv rfl ?_
    refine WL.mv rfl ?_
    have y19 := lg_get (l := a0.l) (i := r1) (by omega) (by omega)
    have k22 : Pair.Ok 1048576 H3 (lg a0.l r1) := ((k0p.le l4).get _ _ y19).2
    refine WL.idx (s := a0) rfl rfl rfl rfl sl24 (k0p.le l4) (by omega) y19 ?_
    intro ad20 f21
    refine WL.pv (Pu.fa rfl fo182_0) (WL.pv (Pu.load rfl ty9 ((f21.drop 0).w st.sub) rfl) ?_)
    have z23 := k22.name
    refine WL.pv (Pu.lenstr rfl Tryz.underlying9) (WL.pv (Pu.igt rfl rfl) (WL.pv (Pu.pickF rfl rfl) (WL.mv rfl ?_)))
    refine WL.splitP 26 rfl dT dF (fun h24 => ?_) (fun h24 => ?_)
    ·refine WL.of (WL.of (WL.of (WL.of (WL.of (WL.of (WL.of (WL.pv (Pu.pickT rfl rfl) (WL.nt ?_))))))))
     refine CW.condT rfl ?_
     refine CW.seq (CW.reg (WL.as rfl (WL.nt ?_)))
     refine CW.ret (QX.blkR (QX.thenR (QX.thenR (QX.blkR (QX.thenR (QX.thenR (finA Tryz.results260 st (.tmp rfl .nil) ?_)))))))
     exact vb (lk_inl ((Eq.symm e6).trans ((if_neg h18).trans (if_pos h24))))
    ·refine WL.mv rfl ?_
     refine WL.mv rfl ?_
     have y25 := lg_get (l := a0.l) (i := r1) (by omega) (by omega)
     have k28 : Pair.Ok 1048576 H3 (lg a0.l r1) := ((k0p.le l4).get _ _ y25).2
     refine WL.idx (s := a0) rfl rfl rfl rfl sl24 (k0p.le l4) (by omega) y25 ?_
     intro ad26 f27
     refine WL.pv (Pu.fa rfl fo182_1) (WL.pv (Pu.load rfl ty9 ((f27.drop 1).w st.sub) rfl) ?_)
     have z29 := k28.val
     refine WL.pv (Pu.lenstr rfl Tryz.underlying9) (WL.pv (Pu.igt rfl rfl) (WL.pv (Pu.pickF rfl rfl) (WL.nt ?_)))
     refine CW.condP 34 rfl dT dF (fun h30 => ?_) (fun h30 => ?_)
     ·refine CW.seq (CW.reg (WL.as rfl (WL.nt ?_)))
      refine CW.ret (QX.blkR (QX.thenR (QX.thenR (QX.blkR (QX.thenR (QX.thenR (finA Tryz.results260 st (.tmp rfl .nil) ?_)))))))
      exact vb (lk_inl ((Eq.symm e6).trans ((if_neg h18).trans ((if_neg h24).trans (if_pos h30)))))
     ·refine CW.skip (QX.blkN (QX.thenN ?_))
      refine CW.reg (WL.mv rfl (WL.pv (Pu.iadd rfl rfl (c := r1 + 1) (w64 (by omega) (by omega))) (WL.as rfl ?_)))
      refine WL.nil (QX.round ⟨n2, r1 + 1⟩ ?_ (Nat.lt_succ_self _) (.cons rfl (.cons rfl (.nil _))))
      exact ⟨⟨_, st, l4⟩, (by first|omega|simp<;>omega), (by first|omega|simp<;>omega), (by first|omega|simp<;>omega), Eq.symm ((Eq.symm e6).trans ((if_neg h18).trans ((if_neg h24).trans (if_neg h30))))⟩
  ·obtain rfl : N10 = 0 := by omega
   refine CW.exit (QX.thenE (QX.thenE (QX.hit (QX.meets () ?_ (.cons rfl (.nil _))))))
   exact ⟨⟨_, st, l4⟩, Eq.symm e6⟩
 rintro _ W35 ⟨⟨H33, st, l34⟩, e36⟩
 show QX _ _ _ [(0, a0.v)] _
 refine QX.thenN (CW.seq (CW.reg (WL.mv rfl ?_)))
 have z37 : a0.l.length ≤ 1048576 := (k0p.le l34).top
 refine WL.pv (Pu.lens (n := a0.l.length) rfl sl24) (WL.pv (Pu.ile rfl rfl) (WL.as rfl (WL.nt ?_)))
 refine CW.ret (finA Tryz.results260 st (.tmp rfl .nil) ?_)
 exact vb (lk_inr e36)
/-! toll tollref06.May -/
def m210_j0 (a0 : Match) : Bool ⊕ Unit :=
 if (m258 a0.path) = true then (if a0.method = (⟨#[]⟩ : ByteArray) then (if (8 : Int) < (a0.head.l.length : Int) then (.inl false) else if (8 : Int) < (a0.query.l.length : Int) then (.inl false) else if (m260 a0.query.l) = true then (.inr ()) else .inl false) else if (m259 a0.method) = true then (if (8 : Int) < (a0.head.l.length : Int) then (.inl false) else if (8 : Int) < (a0.query.l.length : Int) then (.inl false) else if (m260 a0.query.l) = true then (.inr ()) else .inl false) else .inl false) else .inl false
def m210_l2 (a0 : Match) (r28 : Int) : Nat → Int → (Bool ⊕ Unit)
 | 0, _ => .inr ()
 | n53 + 1, r52 => if (m257 ((lg a0.head.l r28).name) ((lg a0.head.l r52).name)) = true then (.inl false) else m210_l2 a0 r28 n53 (r52 + 1)
def m210_l1 (a0 : Match) : Nat → Int → (Bool ⊕ Unit)
 | 0, _ => .inr ()
 | n29 + 1, r28 => if (m261 ((lg a0.head.l r28).name)) = true then (if (m262 ((lg a0.head.l r28).val)) = true then (lkR (m210_l2 a0 r28 ((r28 - 0).toNat) 0) (fun _ => m210_l1 a0 n29 (r28 + 1))) else .inl false) else .inl false
def m210_l4 (a0 : Match) (r88 : Int) : Nat → Int → (Bool ⊕ Unit)
 | 0, _ => .inr ()
 | n101 + 1, r100 => if (lg a0.query.l r88).name = (lg a0.query.l r100).name then (.inl false) else m210_l4 a0 r88 n101 (r100 + 1)
def m210_l3 (a0 : Match) : Nat → Int → (Bool ⊕ Unit)
 | 0, _ => .inr ()
 | n89 + 1, r88 => lkR (m210_l4 a0 r88 ((r88 - 0).toNat) 0) (fun _ => m210_l3 a0 n89 (r88 + 1))
def m210 (a0 : Match) : Bool :=
 lk2 (m210_j0 a0) (fun _ => lk2 (m210_l1 a0 (((a0.head.l.length : Int) - 0).toNat) 0) (fun _ => lk2 (m210_l3 a0 (((a0.query.l.length : Int) - 0).toNat) 0) (fun _ => true)))
theorem c210 (a0 : Match) {w : World} {H : PH} (hs : Sub H w) (k0p : Match.Ok 1048576 H a0) : Spec Tryz.prog 210 [Match.v a0].toArray w H (fun _ v => v = .bool (m210 a0)) := by
 refine Spec.enter Tryz.func210 rfl Tryz.ntmps210 rfl ?_
 have st := St.start hs
 refine CW.seq (CW.reg ?_)
 refine WL.box rfl rfl rfl rfl st ?_
 intro b1 W2 H3 st l4 f5
 refine WL.as rfl (WL.nt ?_)
 refine CW.seq (CW.cuts (fun (s : Unit) W => (∃ H', St w W H H' [] ∧ Le H3 H') ∧ m210_j0 a0 = .inr ()) (fun (s : Unit) => [(1, Value.pointer (some (⟨b1, 0, none⟩ : Addr)))]) ?_ ?_)
 ·refine CW.seq (CW.reg (WL.pv (Pu.fa rfl fo124_0) (WL.pv (Pu.load (v := Path.v a0.path) rfl ty122 ((f5.drop 0).w st.sub) rfl) ?_)))
  refine WL.callv rfl rfl en258 rfl rfl st (c258 a0.path st.sub (k0p.path.le l4)) ?_
  intro W6 st
  refine WL.pv (Pu.notb rfl) (WL.mv rfl ?_)
  refine WL.splitP 11 rfl mT mF (fun h7 => ?_) (fun h7 => ?_)
  ·refine WL.of (WL.of (WL.of (WL.of (WL.of (WL.of (WL.of (WL.of (WL.of (WL.pv (Pu.pickT rfl rfl) ?_)))))))))
   refine WL.mv rfl (WL.of (WL.of (WL.of (WL.of (WL.pv (Pu.pickT rfl rfl) (WL.mv rfl (WL.of (WL.of (WL.of ?_)))))))))
   refine WL.of (WL.pv (Pu.pickT rfl rfl) (WL.mv rfl (WL.of (WL.of (WL.of (WL.of (WL.pv (Pu.pickT rfl rfl) (WL.nt ?_))))))))
   refine CW.condT rfl ?_
   refine CW.seq (CW.reg (WL.as rfl (WL.nt ?_)))
   refine CW.ret (QX.thenR (QX.thenR (finA Tryz.results210 st (.tmp rfl .nil) ?_)))
   exact vb (lk_inl (if_neg h7))
  ·refine WL.pv (Pu.fa rfl fo124_1) (WL.pv (Pu.load rfl ty9 ((f5.drop 2).w st.sub) rfl) (WL.pv (Pu.sne rfl rfl) (WL.mv rfl ?_)))
   refine WL.splitP 15 rfl nT nF (fun h8 => ?_) (fun h8 => ?_)
   ·have z9 := size_ne h8
    refine WL.pv (Pu.fa rfl fo124_1) (WL.pv (Pu.load rfl ty9 ((f5.drop 2).w st.sub) rfl) ?_)
    refine WL.callv rfl rfl en259 rfl rfl st (c259 a0.method st.sub k0p.method) ?_
    intro W10 st
    refine WL.pv (Pu.notb rfl) (WL.pv (Pu.pickT rfl rfl) (WL.pv (Pu.pickF rfl rfl) (WL.mv rfl ?_)))
    refine WL.splitP 22 rfl mT mF (fun h11 => ?_) (fun h11 => ?_)
    ·refine WL.of (WL.of (WL.of (WL.of (WL.pv (Pu.pickT rfl rfl) (WL.mv rfl (WL.of (WL.of (WL.of (WL.of ?_)))))))))
     refine WL.pv (Pu.pickT rfl rfl) (WL.mv rfl (WL.of (WL.of (WL.of (WL.of (WL.pv (Pu.pickT rfl rfl) (WL.nt ?_)))))))
     refine CW.condT rfl ?_
     refine CW.seq (CW.reg (WL.as rfl (WL.nt ?_)))
     refine CW.ret (QX.thenR (QX.thenR (finA Tryz.results210 st (.tmp rfl .nil) ?_)))
     exact vb (lk_inl ((if_pos h7).trans ((if_neg h8).trans (if_neg h11))))
    ·refine WL.pv (Pu.fa rfl fo124_2) (WL.pv (Pu.load rfl ty24 ((f5.drop 3).w st.sub) rfl) ?_)
     have z12 : a0.head.l.length ≤ 1048576 := (k0p.head.le l4).top
     refine WL.pv (Pu.lens (n := a0.head.l.length) rfl sl24) (WL.pv (Pu.igt rfl rfl) (WL.pv (Pu.pickF rfl rfl) (WL.mv rfl ?_)))
     refine WL.splitP 28 rfl dT dF (fun h13 => ?_) (fun h13 => ?_)
     ·refine WL.of (WL.of (WL.of (WL.of (WL.pv (Pu.pickT rfl rfl) (WL.mv rfl (WL.of (WL.of (WL.of (WL.of ?_)))))))))
      refine WL.pv (Pu.pickT rfl rfl) (WL.nt ?_)
      refine CW.condT rfl ?_
      refine CW.seq (CW.reg (WL.as rfl (WL.nt ?_)))
      refine CW.ret (QX.thenR (QX.thenR (finA Tryz.results210 st (.tmp rfl .nil) ?_)))
      exact vb (lk_inl ((if_pos h7).trans ((if_neg h8).trans ((if_pos h11).trans (if_pos h13)))))
     ·refine WL.pv (Pu.fa rfl fo124_3) (WL.pv (Pu.load rfl ty24 ((f5.drop 4).w st.sub) rfl) ?_)
      have z14 : a0.query.l.length ≤ 1048576 := (k0p.query.le l4).top
      refine WL.pv (Pu.lens (n := a0.query.l.length) rfl sl24) (WL.pv (Pu.igt rfl rfl) (WL.pv (Pu.pickF rfl rfl) (WL.mv rfl ?_)))
      refine WL.splitP 34 rfl dT dF (fun h15 => ?_) (fun h15 => ?_)
      ·refine WL.of (WL.of (WL.of (WL.of (WL.pv (Pu.pickT rfl rfl) (WL.nt ?_)))))
       refine CW.condT rfl ?_
       refine CW.seq (CW.reg (WL.as rfl (WL.nt ?_)))
       refine CW.ret (QX.thenR (QX.thenR (finA Tryz.results210 st (.tmp rfl .nil) ?_)))
       exact vb (lk_inl ((if_pos h7).trans ((if_neg h8).trans ((if_pos h11).trans ((if_neg h13).trans (if_pos h15))))))
      ·refine WL.pv (Pu.fa rfl fo124_3) (WL.pv (Pu.load rfl ty24 ((f5.drop 4).w st.sub) rfl) ?_)
       refine WL.callv rfl rfl en260 rfl rfl st (c260 a0.query st.sub (k0p.query.le l4)) ?_
       intro W16 st
       refine WL.pv (Pu.notb rfl) (WL.pv (Pu.pickF rfl rfl) (WL.nt ?_))
       refine CW.condP 39 rfl mT mF (fun h17 => ?_) (fun h17 => ?_)
       ·refine CW.seq (CW.reg (WL.as rfl (WL.nt ?_)))
        refine CW.ret (QX.thenR (QX.thenR (finA Tryz.results210 st (.tmp rfl .nil) ?_)))
        exact vb (lk_inl ((if_pos h7).trans ((if_neg h8).trans ((if_pos h11).trans ((if_neg h13).trans ((if_neg h15).trans (if_neg h17)))))))
       ·refine CW.skip (QX.meets () ?_ (.cons rfl (.nil _)))
        exact ⟨⟨_, st, (Le.refl _)⟩, (if_pos h7).trans ((if_neg h8).trans ((if_pos h11).trans ((if_neg h13).trans ((if_neg h15).trans (if_pos h17)))))⟩
   ·refine WL.of (WL.of (WL.of (WL.of (WL.pv (Pu.pickF rfl rfl) (WL.pv (Pu.pickF rfl rfl) (WL.mv rfl (WL.pv (Pu.fa rfl fo124_2) (WL.pv (Pu.load rfl ty24 ((f5.drop 3).w st.sub) rfl) ?_))))))))
    have z18 : a0.head.l.length ≤ 1048576 := (k0p.head.le l4).top
    refine WL.pv (Pu.lens (n := a0.head.l.length) rfl sl24) (WL.pv (Pu.igt rfl rfl) (WL.pv (Pu.pickF rfl rfl) (WL.mv rfl ?_)))
    refine WL.splitP 28 rfl dT dF (fun h19 => ?_) (fun h19 => ?_)
    ·refine WL.of (WL.of (WL.of (WL.of (WL.pv (Pu.pickT rfl rfl) (WL.mv rfl (WL.of (WL.of (WL.of (WL.of ?_)))))))))
     refine WL.pv (Pu.pickT rfl rfl) (WL.nt ?_)
     refine CW.condT rfl ?_
     refine CW.seq (CW.reg (WL.as rfl (WL.nt ?_)))
     refine CW.ret (QX.thenR (QX.thenR (finA Tryz.results210 st (.tmp rfl .nil) ?_)))
     exact vb (lk_inl ((if_pos h7).trans ((if_pos h8).trans (if_pos h19))))
    ·refine WL.pv (Pu.fa rfl fo124_3) (WL.pv (Pu.load rfl ty24 ((f5.drop 4).w st.sub) rfl) ?_)
     have z20 : a0.query.l.length ≤ 1048576 := (k0p.query.le l4).top
     refine WL.pv (Pu.lens (n := a0.query.l.length) rfl sl24) (WL.pv (Pu.igt rfl rfl) (WL.pv (Pu.pickF rfl rfl) (WL.mv rfl ?_)))
     refine WL.splitP 34 rfl dT dF (fun h21 => ?_) (fun h21 => ?_)
     ·refine WL.of (WL.of (WL.of (WL.of (WL.pv (Pu.pickT rfl rfl) (WL.nt ?_)))))
      refine CW.condT rfl ?_
      refine CW.seq (CW.reg (WL.as rfl (WL.nt ?_)))
      refine CW.ret (QX.thenR (QX.thenR (finA Tryz.results210 st (.tmp rfl .nil) ?_)))
      exact vb (lk_inl ((if_pos h7).trans ((if_pos h8).trans ((if_neg h19).trans (if_pos h21)))))
     ·refine WL.pv (Pu.fa rfl fo124_3) (WL.pv (Pu.load rfl ty24 ((f5.drop 4).w st.sub) rfl) ?_)
      refine WL.callv rfl rfl en260 rfl rfl st (c260 a0.query st.sub (k0p.query.le l4)) ?_
      intro W22 st
      refine WL.pv (Pu.notb rfl) (WL.pv (Pu.pickF rfl rfl) (WL.nt ?_))
      refine CW.condP 39 rfl mT mF (fun h23 => ?_) (fun h23 => ?_)
      ·refine CW.seq (CW.reg (WL.as rfl (WL.nt ?_)))
       refine CW.ret (QX.thenR (QX.thenR (finA Tryz.results210 st (.tmp rfl .nil) ?_)))
       exact vb (lk_inl ((if_pos h7).trans ((if_pos h8).trans ((if_neg h19).trans ((if_neg h21).trans (if_neg h23))))))
      ·refine CW.skip (QX.meets () ?_ (.cons rfl (.nil _)))
       exact ⟨⟨_, st, (Le.refl _)⟩, (if_pos h7).trans ((if_pos h8).trans ((if_neg h19).trans ((if_neg h21).trans (if_pos h23))))⟩
 rintro _ W26 ⟨⟨H24, st, l25⟩, e27⟩
 show QX _ _ _ [(1, Value.pointer (some (⟨b1, 0, none⟩ : Addr)))] _
 refine QX.thenN (CW.seq (CW.seq (CW.reg (WL.as rfl (WL.nt ?_)))))
 refine (CW.cuts (fun (s : Unit) W => (∃ H', St w W H H' [] ∧ Le H24 H') ∧ m210_l1 a0 (((a0.head.l.length : Int) - 0).toNat) 0 = .inr ()) (fun (s : Unit) => [(1, Value.pointer (some (⟨b1, 0, none⟩ : Addr)))]) ?_ ?_)
 ·refine CW.blk (CW.loop (fun (s : Nat × Int) W => (∃ H', St w W H H' [] ∧ Le H24 H') ∧ 0 ≤ s.2 ∧ s.2 ≤ (a0.head.l.length : Int) ∧ s.1 = ((a0.head.l.length : Int) - s.2).toNat ∧ m210_l1 a0 s.1 s.2 = m210_l1 a0 (((a0.head.l.length : Int) - 0).toNat) 0) (fun (s : Nat × Int) => [(1, Value.pointer (some (⟨b1, 0, none⟩ : Addr))), (3, Value.int .i64 s.2)]) (fun s => s.1) ⟨((a0.head.l.length : Int) - 0).toNat, 0⟩ ⟨⟨_, st, Le.refl _⟩, (by first|omega|simp<;>omega), (by first|omega|simp<;>omega), rfl, rfl⟩ (.cons rfl (.cons rfl (.nil _))) ?_)
  rintro ⟨N37, r28⟩ W32 ⟨⟨H30, st, l31⟩, g82, g83, g36, e33⟩
  replace g82 : 0 ≤ r28 := g82
  replace g83 : r28 ≤ (a0.head.l.length : Int) := g83
  replace g36 : N37 = ((a0.head.l.length : Int) - r28).toNat := g36
  replace e33 : m210_l1 a0 N37 r28 = m210_l1 a0 (((a0.head.l.length : Int) - 0).toNat) 0 := e33
  show CW _ _ _ _ [(1, Value.pointer (some (⟨b1, 0, none⟩ : Addr))), (3, Value.int .i64 r28)] _
  refine CW.seq (CW.seq (CW.reg (WL.mv rfl (WL.pv (Pu.fa rfl fo124_2) (WL.pv (Pu.load rfl ty24 (((f5.le (l25.trans l31)).drop 3).w st.sub) rfl) ?_)))))
  have z38 : a0.head.l.length ≤ 1048576 := (k0p.head.le ((l4.trans l25).trans l31)).top
  refine WL.pv (Pu.lens (n := a0.head.l.length) rfl sl24) (WL.pv (Pu.ilt rfl rfl) (WL.nt ?_))
  refine CW.condP 44 rfl dT dF (fun h39 => ?_) (fun h39 => ?_)
  ·obtain ⟨n29, rfl⟩ : ∃ k, N37 = k + 1 := ⟨N37 - 1, by omega⟩
   refine CW.skip (QX.thenN ?_)
   refine CW.seq ?_
   refine CW.blk ?_
   refine CW.seq (CW.seq (CW.reg (WL.pv (Pu.fa rfl fo124_2) (WL.pv (Pu.load rfl ty24 (((f5.le (l25.trans l31)).drop 3).w st.sub) rfl) (WL.mv rfl ?_)))))
   have y40 := lg_get (l := a0.head.l) (i := r28) (by omega) (by omega)
   have k43 : Pair.Ok 1048576 H30 (lg a0.head.l r28) := ((k0p.head.le ((l4.trans l25).trans l31)).get _ _ y40).2
   refine WL.idx (s := a0.head) rfl rfl rfl rfl sl24 (k0p.head.le ((l4.trans l25).trans l31)) (by omega) y40 ?_
   intro ad41 f42
   refine WL.pv (Pu.fa rfl fo182_0) (WL.pv (Pu.load rfl ty9 ((f42.drop 0).w st.sub) rfl) ?_)
   refine WL.callv rfl rfl en261 rfl rfl st (c261 ((lg a0.head.l r28).name) st.sub k43.name) ?_
   intro W44 st
   refine WL.pv (Pu.notb rfl) (WL.mv rfl ?_)
   refine WL.splitP 55 rfl mT mF (fun h45 => ?_) (fun h45 => ?_)
   ·refine WL.of (WL.of (WL.of (WL.of (WL.of (WL.of (WL.of (WL.of (WL.pv (Pu.pickT rfl rfl) (WL.nt ?_)))))))))
    refine CW.condT rfl ?_
    refine CW.seq (CW.reg (WL.as rfl (WL.nt ?_)))
    refine CW.ret (QX.thenR (QX.blkR (QX.thenR (QX.thenR (QX.blkR (QX.thenR (QX.thenR (finA Tryz.results210 st (.tmp rfl .nil) ?_))))))))
    exact vb ((lk_inr e27).trans (lk_inl ((Eq.symm e33).trans (if_neg h45))))
   ·refine WL.pv (Pu.fa rfl fo124_2) (WL.pv (Pu.load rfl ty24 (((f5.le (l25.trans l31)).drop 3).w st.sub) rfl) (WL.mv rfl ?_))
    have y46 := lg_get (l := a0.head.l) (i := r28) (by omega) (by omega)
    have k49 : Pair.Ok 1048576 H30 (lg a0.head.l r28) := ((k0p.head.le ((l4.trans l25).trans l31)).get _ _ y46).2
    refine WL.idx (s := a0.head) rfl rfl rfl rfl sl24 (k0p.head.le ((l4.trans l25).trans l31)) (by omega) y46 ?_
    intro ad47 f48
    refine WL.pv (Pu.fa rfl fo182_1) (WL.pv (Pu.load rfl ty9 ((f48.drop 1).w st.sub) rfl) ?_)
    refine WL.callv rfl rfl en262 rfl rfl st (c262 ((lg a0.head.l r28).val) st.sub k49.val) ?_
    intro W50 st
    refine WL.pv (Pu.notb rfl) (WL.pv (Pu.pickF rfl rfl) (WL.nt ?_))
    refine CW.condP 64 rfl mT mF (fun h51 => ?_) (fun h51 => ?_)
    ·refine CW.seq (CW.reg (WL.as rfl (WL.nt ?_)))
     refine CW.ret (QX.thenR (QX.blkR (QX.thenR (QX.thenR (QX.blkR (QX.thenR (QX.thenR (finA Tryz.results210 st (.tmp rfl .nil) ?_))))))))
     exact vb ((lk_inr e27).trans (lk_inl ((Eq.symm e33).trans ((if_pos h45).trans (if_neg h51)))))
    ·refine CW.skip (QX.thenN ?_)
     refine CW.seq (CW.reg (WL.as rfl (WL.nt ?_)))
     refine (CW.cuts (fun (s : Unit) W => (∃ H', St w W H H' [] ∧ Le H30 H') ∧ m210_l2 a0 r28 ((r28 - 0).toNat) 0 = .inr ()) (fun (s : Unit) => [(1, Value.pointer (some (⟨b1, 0, none⟩ : Addr))), (3, Value.int .i64 r28), (56, Value.pointer (some ((⟨b1, 0, none⟩ : Addr).add 3))), (57, a0.head.v), (58, Value.int .i64 r28), (59, Value.pointer (some ad47)), (60, Value.pointer (some (ad47.add 1))), (61, Value.string ((lg a0.head.l r28).val)), (62, Value.bool (m262 ((lg a0.head.l r28).val))), (63, Value.bool (!(m262 ((lg a0.head.l r28).val))))]) ?_ ?_)
     ·refine CW.blk (CW.loop (fun (s : Nat × Int) W => (∃ H', St w W H H' [] ∧ Le H30 H') ∧ 0 ≤ s.2 ∧ s.1 = (r28 - s.2).toNat ∧ m210_l2 a0 r28 s.1 s.2 = m210_l2 a0 r28 ((r28 - 0).toNat) 0) (fun (s : Nat × Int) => [(1, Value.pointer (some (⟨b1, 0, none⟩ : Addr))), (3, Value.int .i64 r28), (56, Value.pointer (some ((⟨b1, 0, none⟩ : Addr).add 3))), (57, a0.head.v), (58, Value.int .i64 r28), (59, Value.pointer (some ad47)), (60, Value.pointer (some (ad47.add 1))), (61, Value.string ((lg a0.head.l r28).val)), (62, Value.bool (m262 ((lg a0.head.l r28).val))), (63, Value.bool (!(m262 ((lg a0.head.l r28).val)))), (4, Value.int .i64 s.2)]) (fun s => s.1) ⟨(r28 - 0).toNat, 0⟩ ⟨⟨_, st, Le.refl _⟩, (by first|omega|simp<;>omega), rfl, rfl⟩ (.cons rfl (.cons rfl (.cons rfl (.cons rfl (.cons rfl (.cons rfl (.cons rfl (.cons rfl (.cons rfl (.cons rfl (.cons rfl (.nil _)))))))))))) ?_)
      rintro ⟨N61, r52⟩ W56 ⟨⟨H54, st, l55⟩, g77, g60, e57⟩
      replace g77 : 0 ≤ r52 := g77
      replace g60 : N61 = (r28 - r52).toNat := g60
      replace e57 : m210_l2 a0 r28 N61 r52 = m210_l2 a0 r28 ((r28 - 0).toNat) 0 := e57
      show CW _ _ _ _ [(1, Value.pointer (some (⟨b1, 0, none⟩ : Addr))), (3, Value.int .i64 r28), (56, Value.pointer (some ((⟨b1, 0, none⟩ : Addr).add 3))), (57, a0.head.v), (58, Value.int .i64 r28), (59, Value.pointer (some ad47)), (60, Value.pointer (some (ad47.add 1))), (61, Value.string ((lg a0.head.l r28).val)), (62, Value.bool (m262 ((lg a0.head.l r28).val))), (63, Value.bool (!(m262 ((lg a0.head.l r28).val)))), (4, Value.int .i64 r52)] _
      refine CW.seq (CW.seq (CW.reg (WL.mv rfl (WL.mv rfl (WL.pv (Pu.ilt rfl rfl) (WL.nt ?_))))))
      refine CW.condP 67 rfl dT dF (fun h62 => ?_) (fun h62 => ?_)
      ·obtain ⟨n53, rfl⟩ : ∃ k, N61 = k + 1 := ⟨N61 - 1, by omega⟩
       refine CW.skip (QX.thenN ?_)
       refine CW.seq ?_
       refine CW.blk ?_
       refine CW.seq ?_
       refine CW.regS (C := Cl w H54 []) (tail := []) (S := Grew w H H54 []) mixed (fun W' h1 h2 h3 h4 => grew_start st h1 h2 h3 h4) (n := 13) rfl ?_
       refine WS.pk 0 rfl gg (fun W hC => Pu.fa rfl fo124_2) ?_
       refine WS.pk 1 rfl gg (fun W hC => Pu.load rfl ty24 (((f5.le ((l25.trans l31).trans l55)).drop 3).w hC.1) rfl) ?_
       refine WS.pk 2 rfl gg (fun W hC => Pu.move rfl) ?_
       have y63 := lg_get (l := a0.head.l) (i := r28) (by omega) (by omega)
       have k66 : Pair.Ok 1048576 H54 (lg a0.head.l r28) := ((k0p.head.le (((l4.trans l25).trans l31).trans l55)).get _ _ y63).2
       obtain ⟨ad64, qa67, f65⟩ := ((k0p.head.le (((l4.trans l25).trans l31).trans l55)).get _ _ y63).1
       refine WS.pk 3 rfl gg (fun W hC => Pu.idx0 rfl rfl sl24 (by first|omega|simp<;>omega) (by first|omega|simp<;>omega) qa67) ?_
       refine WS.pk 4 rfl gg (fun W hC => Pu.fa rfl fo182_0) ?_
       refine WS.pk 5 rfl gg (fun W hC => Pu.load rfl ty9 ((f65.drop 0).w hC.1) rfl) ?_
       refine WS.pk 6 rfl gg (fun W hC => Pu.fa rfl fo124_2) ?_
       refine WS.pk 7 rfl gg (fun W hC => Pu.load rfl ty24 (((f5.le ((l25.trans l31).trans l55)).drop 3).w hC.1) rfl) ?_
       refine WS.pk 8 rfl gg (fun W hC => Pu.move rfl) ?_
       have y68 := lg_get (l := a0.head.l) (i := r52) (by omega) (by omega)
       have k71 : Pair.Ok 1048576 H54 (lg a0.head.l r52) := ((k0p.head.le (((l4.trans l25).trans l31).trans l55)).get _ _ y68).2
       obtain ⟨ad69, qa72, f70⟩ := ((k0p.head.le (((l4.trans l25).trans l31).trans l55)).get _ _ y68).1
       refine WS.pk 9 rfl gg (fun W hC => Pu.idx0 rfl rfl sl24 (by first|omega|simp<;>omega) (by first|omega|simp<;>omega) qa72) ?_
       refine WS.pk 10 rfl gg (fun W hC => Pu.fa rfl fo182_0) ?_
       refine WS.pk 11 rfl gg (fun W hC => Pu.load rfl ty9 ((f70.drop 0).w hC.1) rfl) ?_
       refine WS.callv (by kernel_rfl) (.then (.blk (.then (.then (.blk (.then (.blk (.then (.then (.blk (.then (.then .body)))))))))))) 12 rfl (by kernel_rfl) (good_grew (Le.refl _) (fun _ h => h)) rfl rfl en257 rfl rfl (fun W hC => ⟨_, c257 ((lg a0.head.l r28).name) ((lg a0.head.l r52).name) hC.1 k66.name k71.name⟩) ?_
       refine WS.fin (by kernel_rfl) (fun W75 H73 st l74 => ?_)
       refine QX.thenN ?_
       refine CW.condP 82 rfl rT rF (fun h76 => ?_) (fun h76 => ?_)
       ·refine CW.seq (CW.reg (WL.as rfl (WL.nt ?_)))
        refine CW.ret (QX.blkR (QX.thenR (QX.thenR (QX.blkR (QX.thenR (QX.blkR (QX.thenR (QX.thenR (QX.blkR (QX.thenR (QX.thenR (finA Tryz.results210 st (.tmp rfl .nil) ?_))))))))))))
        exact vb ((lk_inr e27).trans (lk_inl ((Eq.symm e33).trans ((if_pos h45).trans ((if_pos h51).trans (lkR_inl ((Eq.symm e57).trans (if_pos h76))))))))
       ·refine CW.skip (QX.blkN (QX.thenN ?_))
        refine CW.reg (WL.mv rfl (WL.pv (Pu.iadd rfl rfl (c := r52 + 1) (w64 (by omega) (by omega))) (WL.as rfl ?_)))
        refine WL.nil (QX.round ⟨n53, r52 + 1⟩ ?_ (Nat.lt_succ_self _) (.cons rfl (.cons rfl (.cons rfl (.cons rfl (.cons rfl (.cons rfl (.cons rfl (.cons rfl (.cons rfl (.cons rfl (.cons rfl (.nil _)))))))))))))
        exact ⟨⟨_, st, (l55.trans l74)⟩, (by first|omega|simp<;>omega), (by first|omega|simp<;>omega), Eq.symm ((Eq.symm e57).trans (if_neg h76))⟩
      ·obtain rfl : N61 = 0 := by omega
       refine CW.exit (QX.thenE (QX.thenE (QX.hit (QX.meets () ?_ (.cons rfl (.cons rfl (.cons rfl (.cons rfl (.cons rfl (.cons rfl (.cons rfl (.cons rfl (.cons rfl (.cons rfl (.nil _)))))))))))))))
       exact ⟨⟨_, st, l55⟩, Eq.symm e57⟩
     rintro _ W80 ⟨⟨H78, st, l79⟩, e81⟩
     show QX _ _ _ [(1, Value.pointer (some (⟨b1, 0, none⟩ : Addr))), (3, Value.int .i64 r28), (56, Value.pointer (some ((⟨b1, 0, none⟩ : Addr).add 3))), (57, a0.head.v), (58, Value.int .i64 r28), (59, Value.pointer (some ad47)), (60, Value.pointer (some (ad47.add 1))), (61, Value.string ((lg a0.head.l r28).val)), (62, Value.bool (m262 ((lg a0.head.l r28).val))), (63, Value.bool (!(m262 ((lg a0.head.l r28).val))))] _
     refine QX.blkN (QX.thenN ?_)
     refine CW.reg (WL.mv rfl (WL.pv (Pu.iadd rfl rfl (c := r28 + 1) (w64 (by omega) (by omega))) (WL.as rfl ?_)))
     refine WL.nil (QX.round ⟨n29, r28 + 1⟩ ?_ (Nat.lt_succ_self _) (.cons rfl (.cons rfl (.nil _))))
     exact ⟨⟨_, st, (l31.trans l79)⟩, (by first|omega|simp<;>omega), (by first|omega|simp<;>omega), (by first|omega|simp<;>omega), Eq.symm ((Eq.symm e33).trans ((if_pos h45).trans ((if_pos h51).trans (lkR_inr e81))))⟩
  ·obtain rfl : N37 = 0 := by omega
   refine CW.exit (QX.thenE (QX.thenE (QX.hit (QX.meets () ?_ (.cons rfl (.nil _))))))
   exact ⟨⟨_, st, l31⟩, Eq.symm e33⟩
 rintro _ W86 ⟨⟨H84, st, l85⟩, e87⟩
 show QX _ _ _ [(1, Value.pointer (some (⟨b1, 0, none⟩ : Addr)))] _
 refine QX.thenN (CW.seq (CW.seq (CW.reg (WL.as rfl (WL.nt ?_)))))
 refine (CW.cuts (fun (s : Unit) W => (∃ H', St w W H H' [] ∧ Le H84 H') ∧ m210_l3 a0 (((a0.query.l.length : Int) - 0).toNat) 0 = .inr ()) (fun (s : Unit) => []) ?_ ?_)
 ·refine CW.blk (CW.loop (fun (s : Nat × Int) W => (∃ H', St w W H H' [] ∧ Le H84 H') ∧ 0 ≤ s.2 ∧ s.2 ≤ (a0.query.l.length : Int) ∧ s.1 = ((a0.query.l.length : Int) - s.2).toNat ∧ m210_l3 a0 s.1 s.2 = m210_l3 a0 (((a0.query.l.length : Int) - 0).toNat) 0) (fun (s : Nat × Int) => [(1, Value.pointer (some (⟨b1, 0, none⟩ : Addr))), (5, Value.int .i64 s.2)]) (fun s => s.1) ⟨((a0.query.l.length : Int) - 0).toNat, 0⟩ ⟨⟨_, st, Le.refl _⟩, (by first|omega|simp<;>omega), (by first|omega|simp<;>omega), rfl, rfl⟩ (.cons rfl (.cons rfl (.nil _))) ?_)
  rintro ⟨N97, r88⟩ W92 ⟨⟨H90, st, l91⟩, g130, g131, g96, e93⟩
  replace g130 : 0 ≤ r88 := g130
  replace g131 : r88 ≤ (a0.query.l.length : Int) := g131
  replace g96 : N97 = ((a0.query.l.length : Int) - r88).toNat := g96
  replace e93 : m210_l3 a0 N97 r88 = m210_l3 a0 (((a0.query.l.length : Int) - 0).toNat) 0 := e93
  show CW _ _ _ _ [(1, Value.pointer (some (⟨b1, 0, none⟩ : Addr))), (5, Value.int .i64 r88)] _
  refine CW.seq (CW.seq (CW.reg (WL.mv rfl (WL.pv (Pu.fa rfl fo124_3) (WL.pv (Pu.load rfl ty24 (((f5.le ((l25.trans l85).trans l91)).drop 4).w st.sub) rfl) ?_)))))
  have z98 : a0.query.l.length ≤ 1048576 := (k0p.query.le (((l4.trans l25).trans l85).trans l91)).top
  refine WL.pv (Pu.lens (n := a0.query.l.length) rfl sl24) (WL.pv (Pu.ilt rfl rfl) (WL.nt ?_))
  refine CW.condP 87 rfl dT dF (fun h99 => ?_) (fun h99 => ?_)
  ·obtain ⟨n89, rfl⟩ : ∃ k, N97 = k + 1 := ⟨N97 - 1, by omega⟩
   refine CW.skip (QX.thenN ?_)
   refine CW.seq ?_
   refine CW.blk ?_
   refine CW.seq (CW.reg (WL.as rfl (WL.nt ?_)))
   refine (CW.cuts (fun (s : Unit) W => (∃ H', St w W H H' [] ∧ Le H90 H') ∧ m210_l4 a0 r88 ((r88 - 0).toNat) 0 = .inr ()) (fun (s : Unit) => [(1, Value.pointer (some (⟨b1, 0, none⟩ : Addr))), (5, Value.int .i64 r88)]) ?_ ?_)
   ·refine CW.blk (CW.loop (fun (s : Nat × Int) W => (∃ H', St w W H H' [] ∧ Le H90 H') ∧ 0 ≤ s.2 ∧ s.1 = (r88 - s.2).toNat ∧ m210_l4 a0 r88 s.1 s.2 = m210_l4 a0 r88 ((r88 - 0).toNat) 0) (fun (s : Nat × Int) => [(1, Value.pointer (some (⟨b1, 0, none⟩ : Addr))), (5, Value.int .i64 r88), (6, Value.int .i64 s.2)]) (fun s => s.1) ⟨(r88 - 0).toNat, 0⟩ ⟨⟨_, st, Le.refl _⟩, (by first|omega|simp<;>omega), rfl, rfl⟩ (.cons rfl (.cons rfl (.cons rfl (.nil _)))) ?_)
    rintro ⟨N109, r100⟩ W104 ⟨⟨H102, st, l103⟩, g125, g108, e105⟩
    replace g125 : 0 ≤ r100 := g125
    replace g108 : N109 = (r88 - r100).toNat := g108
    replace e105 : m210_l4 a0 r88 N109 r100 = m210_l4 a0 r88 ((r88 - 0).toNat) 0 := e105
    show CW _ _ _ _ [(1, Value.pointer (some (⟨b1, 0, none⟩ : Addr))), (5, Value.int .i64 r88), (6, Value.int .i64 r100)] _
    refine CW.seq (CW.seq (CW.reg (WL.mv rfl (WL.mv rfl (WL.pv (Pu.ilt rfl rfl) (WL.nt ?_))))))
    refine CW.condP 92 rfl dT dF (fun h110 => ?_) (fun h110 => ?_)
    ·obtain ⟨n101, rfl⟩ : ∃ k, N109 = k + 1 := ⟨N109 - 1, by omega⟩
     refine CW.skip (QX.thenN ?_)
     refine CW.seq ?_
     refine CW.blk ?_
     refine CW.seq ?_
     refine CW.regS (C := Cl w H102 []) (tail := []) (S := Grew w H H102 []) mixed (fun W' h1 h2 h3 h4 => grew_start st h1 h2 h3 h4) (n := 13) rfl ?_
     refine WS.pk 0 rfl gg (fun W hC => Pu.fa rfl fo124_3) ?_
     refine WS.pk 1 rfl gg (fun W hC => Pu.load rfl ty24 (((f5.le (((l25.trans l85).trans l91).trans l103)).drop 4).w hC.1) rfl) ?_
     refine WS.pk 2 rfl gg (fun W hC => Pu.move rfl) ?_
     have y111 := lg_get (l := a0.query.l) (i := r88) (by omega) (by omega)
     have k114 : Pair.Ok 1048576 H102 (lg a0.query.l r88) := ((k0p.query.le ((((l4.trans l25).trans l85).trans l91).trans l103)).get _ _ y111).2
     obtain ⟨ad112, qa115, f113⟩ := ((k0p.query.le ((((l4.trans l25).trans l85).trans l91).trans l103)).get _ _ y111).1
     refine WS.pk 3 rfl gg (fun W hC => Pu.idx0 rfl rfl sl24 (by first|omega|simp<;>omega) (by first|omega|simp<;>omega) qa115) ?_
     refine WS.pk 4 rfl gg (fun W hC => Pu.fa rfl fo182_0) ?_
     refine WS.pk 5 rfl gg (fun W hC => Pu.load rfl ty9 ((f113.drop 0).w hC.1) rfl) ?_
     refine WS.pk 6 rfl gg (fun W hC => Pu.fa rfl fo124_3) ?_
     refine WS.pk 7 rfl gg (fun W hC => Pu.load rfl ty24 (((f5.le (((l25.trans l85).trans l91).trans l103)).drop 4).w hC.1) rfl) ?_
     refine WS.pk 8 rfl gg (fun W hC => Pu.move rfl) ?_
     have y116 := lg_get (l := a0.query.l) (i := r100) (by omega) (by omega)
     have k119 : Pair.Ok 1048576 H102 (lg a0.query.l r100) := ((k0p.query.le ((((l4.trans l25).trans l85).trans l91).trans l103)).get _ _ y116).2
     obtain ⟨ad117, qa120, f118⟩ := ((k0p.query.le ((((l4.trans l25).trans l85).trans l91).trans l103)).get _ _ y116).1
     refine WS.pk 9 rfl gg (fun W hC => Pu.idx0 rfl rfl sl24 (by first|omega|simp<;>omega) (by first|omega|simp<;>omega) qa120) ?_
     refine WS.pk 10 rfl gg (fun W hC => Pu.fa rfl fo182_0) ?_
     refine WS.pk 11 rfl gg (fun W hC => Pu.load rfl ty9 ((f118.drop 0).w hC.1) rfl) ?_
     refine WS.pk 12 rfl gg (fun W hC => Pu.seq rfl rfl) ?_
     refine WS.fin (by kernel_rfl) (fun W123 H121 st l122 => ?_)
     refine QX.thenN ?_
     refine CW.condP 107 rfl dT dF (fun h124 => ?_) (fun h124 => ?_)
     ·refine CW.seq (CW.reg (WL.as rfl (WL.nt ?_)))
      refine CW.ret (QX.blkR (QX.thenR (QX.thenR (QX.blkR (QX.thenR (QX.blkR (QX.thenR (QX.thenR (QX.blkR (QX.thenR (QX.thenR (finA Tryz.results210 st (.tmp rfl .nil) ?_))))))))))))
      exact vb ((lk_inr e27).trans ((lk_inr e87).trans (lk_inl ((Eq.symm e93).trans (lkR_inl ((Eq.symm e105).trans (if_pos h124)))))))
     ·refine CW.skip (QX.blkN (QX.thenN ?_))
      refine CW.reg (WL.mv rfl (WL.pv (Pu.iadd rfl rfl (c := r100 + 1) (w64 (by omega) (by omega))) (WL.as rfl ?_)))
      refine WL.nil (QX.round ⟨n101, r100 + 1⟩ ?_ (Nat.lt_succ_self _) (.cons rfl (.cons rfl (.cons rfl (.nil _)))))
      exact ⟨⟨_, st, (l103.trans l122)⟩, (by first|omega|simp<;>omega), (by first|omega|simp<;>omega), Eq.symm ((Eq.symm e105).trans (if_neg h124))⟩
    ·obtain rfl : N109 = 0 := by omega
     refine CW.exit (QX.thenE (QX.thenE (QX.hit (QX.meets () ?_ (.cons rfl (.cons rfl (.nil _)))))))
     exact ⟨⟨_, st, l103⟩, Eq.symm e105⟩
   rintro _ W128 ⟨⟨H126, st, l127⟩, e129⟩
   show QX _ _ _ [(1, Value.pointer (some (⟨b1, 0, none⟩ : Addr))), (5, Value.int .i64 r88)] _
   refine QX.blkN (QX.thenN ?_)
   refine CW.reg (WL.mv rfl (WL.pv (Pu.iadd rfl rfl (c := r88 + 1) (w64 (by omega) (by omega))) (WL.as rfl ?_)))
   refine WL.nil (QX.round ⟨n89, r88 + 1⟩ ?_ (Nat.lt_succ_self _) (.cons rfl (.cons rfl (.nil _))))
   exact ⟨⟨_, st, (l91.trans l127)⟩, (by first|omega|simp<;>omega), (by first|omega|simp<;>omega), (by first|omega|simp<;>omega), Eq.symm ((Eq.symm e93).trans (lkR_inr e129))⟩
  ·obtain rfl : N97 = 0 := by omega
   refine CW.exit (QX.thenE (QX.thenE (QX.hit (QX.meets () ?_ (.nil _)))))
   exact ⟨⟨_, st, l91⟩, Eq.symm e93⟩
 rintro _ W134 ⟨⟨H132, st, l133⟩, e135⟩
 show QX _ _ _ [] _
 refine QX.thenN (CW.seq (CW.reg (WL.as rfl (WL.nt ?_))))
 refine CW.ret (finA Tryz.results210 st (.tmp rfl .nil) ?_)
 exact vb ((lk_inr e27).trans ((lk_inr e87).trans (lk_inr e135)))
/-! toll tollref09.kind -/
def m144 (a0 : Int) : Bool :=
 if (1 : Int) ≤ a0 then (decide (a0 ≤ 7)) else false
theorem c144 (a0 : Int) {w : World} {H : PH} (hs : Sub H w)  : Spec Tryz.prog 144 [.int .i64 a0].toArray w H (fun _ v => v = .bool (m144 a0)) := by
 refine Spec.enter Tryz.func144 rfl Tryz.ntmps144 rfl ?_
 have st := St.start hs
 refine CW.seq (CW.reg (WL.as rfl (WL.nt (CW.seq (CW.reg (WL.mv rfl (WL.pv (Pu.ile rfl rfl) (WL.mv rfl ?_))))))))
 refine WL.splitP 5 rfl dT dF (fun h1 => ?_) (fun h1 => ?_)
 ·refine WL.mv rfl (WL.pv (Pu.ile rfl rfl) (WL.pv (Pu.pickT rfl rfl) (WL.as rfl (WL.nt ?_))))
  refine CW.ret (finA Tryz.results144 st (.tmp rfl .nil) ?_)
  exact vb (if_pos h1)
 ·refine WL.of (WL.of (WL.pv (Pu.pickF rfl rfl) (WL.as rfl (WL.nt ?_))))
  refine CW.ret (finA Tryz.results144 st (.tmp rfl .nil) ?_)
  exact vb (if_neg h1)
/-! toll tollref09.rule -/
def m143_l0 (a0 : Rule) : Nat → Int → (Bool ⊕ Unit)
 | 0, _ => .inr ()
 | n13 + 1, r12 => if (m210 (lg a0.mats.l r12)) = true then (m143_l0 a0 n13 (r12 + 1)) else .inl false
def m143_l1 (a0 : Rule) : Nat → Int → (Bool ⊕ Unit)
 | 0, _ => .inr ()
 | n37 + 1, r36 => if (m144 (((lg a0.backends.l r36).ref).kind)) = true then (if (m142 (((lg a0.backends.l r36).ref).space)) = true then (if (m138 (((lg a0.backends.l r36).ref).name)) = true then (if ((lg a0.backends.l r36).port) = 0 then (if ((lg a0.backends.l r36).weight) < 0 then (.inl false) else if (1000 : Int) < (lg a0.backends.l r36).weight then (.inl false) else m143_l1 a0 n37 (r36 + 1)) else if (m84 ((lg a0.backends.l r36).port)) = true then (if ((lg a0.backends.l r36).weight) < 0 then (.inl false) else if (1000 : Int) < (lg a0.backends.l r36).weight then (.inl false) else m143_l1 a0 n37 (r36 + 1)) else .inl false) else .inl false) else .inl false) else .inl false
def m143 (a0 : Rule) : Bool :=
 if (4 : Int) < (a0.mats.l.length : Int) then false else if (4 : Int) < (a0.backends.l.length : Int) then false else if (m209 a0.filters.l) = true then (lk2 (m143_l0 a0 (((a0.mats.l.length : Int) - 0).toNat) 0) (fun _ => lk2 (m143_l1 a0 (((a0.backends.l.length : Int) - 0).toNat) 0) (fun _ => true))) else false
theorem c143 (a0 : Rule) {w : World} {H : PH} (hs : Sub H w) (k0p : Rule.Ok 1048576 H a0) : Spec Tryz.prog 143 [Rule.v a0].toArray w H (fun _ v => v = .bool (m143 a0)) := by
 refine Spec.enter Tryz.func143 rfl Tryz.ntmps143 rfl ?_
 have st := St.start hs
 refine CW.seq (CW.reg ?_)
 refine WL.box rfl rfl rfl rfl st ?_
 intro b1 W2 H3 st l4 f5
 refine WL.as rfl (WL.nt (CW.seq (CW.seq (CW.reg (WL.pv (Pu.fa rfl fo66_0) (WL.pv (Pu.load rfl ty62 ((f5.drop 0).w st.sub) rfl) ?_))))))
 have z6 : a0.mats.l.length ≤ 1048576 := (k0p.mats.le l4).top
 refine WL.pv (Pu.lens (n := a0.mats.l.length) rfl sl62) (WL.pv (Pu.igt rfl rfl) (WL.mv rfl ?_))
 refine WL.splitP 10 rfl dT dF (fun h7 => ?_) (fun h7 => ?_)
 ·refine WL.of (WL.of (WL.of (WL.of (WL.pv (Pu.pickT rfl rfl) (WL.mv rfl (WL.of (WL.of (WL.of (WL.of ?_)))))))))
  refine WL.pv (Pu.pickT rfl rfl) (WL.nt ?_)
  refine CW.condT rfl ?_
  refine CW.seq (CW.reg (WL.as rfl (WL.nt ?_)))
  refine CW.ret (QX.thenR (finA Tryz.results143 st (.tmp rfl .nil) ?_))
  exact vb (if_pos h7)
 ·refine WL.pv (Pu.fa rfl fo66_2) (WL.pv (Pu.load rfl ty64 ((f5.drop 2).w st.sub) rfl) ?_)
  have z8 : a0.backends.l.length ≤ 1048576 := (k0p.backends.le l4).top
  refine WL.pv (Pu.lens (n := a0.backends.l.length) rfl sl64) (WL.pv (Pu.igt rfl rfl) (WL.pv (Pu.pickF rfl rfl) (WL.mv rfl ?_)))
  refine WL.splitP 16 rfl dT dF (fun h9 => ?_) (fun h9 => ?_)
  ·refine WL.of (WL.of (WL.of (WL.of (WL.pv (Pu.pickT rfl rfl) (WL.nt ?_)))))
   refine CW.condT rfl ?_
   refine CW.seq (CW.reg (WL.as rfl (WL.nt ?_)))
   refine CW.ret (QX.thenR (finA Tryz.results143 st (.tmp rfl .nil) ?_))
   exact vb ((if_neg h7).trans (if_pos h9))
  ·refine WL.pv (Pu.fa rfl fo66_1) (WL.pv (Pu.load rfl ty63 ((f5.drop 1).w st.sub) rfl) ?_)
   refine WL.callv rfl rfl en209 rfl rfl st (c209 a0.filters st.sub (k0p.filters.le l4)) ?_
   intro W10 st
   refine WL.pv (Pu.notb rfl) (WL.pv (Pu.pickF rfl rfl) (WL.nt ?_))
   refine CW.condP 21 rfl mT mF (fun h11 => ?_) (fun h11 => ?_)
   ·refine CW.seq (CW.reg (WL.as rfl (WL.nt ?_)))
    refine CW.ret (QX.thenR (finA Tryz.results143 st (.tmp rfl .nil) ?_))
    exact vb ((if_neg h7).trans ((if_neg h9).trans (if_neg h11)))
   ·refine CW.skip (QX.thenN ?_)
    refine CW.seq (CW.seq (CW.reg (WL.as rfl (WL.nt ?_))))
    refine (CW.cuts (fun (s : Unit) W => (∃ H', St w W H H' [] ∧ Le H3 H') ∧ m143_l0 a0 (((a0.mats.l.length : Int) - 0).toNat) 0 = .inr ()) (fun (s : Unit) => [(1, Value.pointer (some (⟨b1, 0, none⟩ : Addr)))]) ?_ ?_)
    ·refine CW.blk (CW.loop (fun (s : Nat × Int) W => (∃ H', St w W H H' [] ∧ Le H3 H') ∧ 0 ≤ s.2 ∧ s.2 ≤ (a0.mats.l.length : Int) ∧ s.1 = ((a0.mats.l.length : Int) - s.2).toNat ∧ m143_l0 a0 s.1 s.2 = m143_l0 a0 (((a0.mats.l.length : Int) - 0).toNat) 0) (fun (s : Nat × Int) => [(1, Value.pointer (some (⟨b1, 0, none⟩ : Addr))), (3, Value.int .i64 s.2)]) (fun s => s.1) ⟨((a0.mats.l.length : Int) - 0).toNat, 0⟩ ⟨⟨_, st, Le.refl _⟩, (by first|omega|simp<;>omega), (by first|omega|simp<;>omega), rfl, rfl⟩ (.cons rfl (.cons rfl (.nil _))) ?_)
     rintro ⟨N21, r12⟩ W16 ⟨⟨H14, st, l15⟩, g30, g31, g20, e17⟩
     replace g30 : 0 ≤ r12 := g30
     replace g31 : r12 ≤ (a0.mats.l.length : Int) := g31
     replace g20 : N21 = ((a0.mats.l.length : Int) - r12).toNat := g20
     replace e17 : m143_l0 a0 N21 r12 = m143_l0 a0 (((a0.mats.l.length : Int) - 0).toNat) 0 := e17
     show CW _ _ _ _ [(1, Value.pointer (some (⟨b1, 0, none⟩ : Addr))), (3, Value.int .i64 r12)] _
     refine CW.seq (CW.seq (CW.reg (WL.mv rfl (WL.pv (Pu.fa rfl fo66_0) (WL.pv (Pu.load rfl ty62 (((f5.le l15).drop 0).w st.sub) rfl) ?_)))))
     have z22 : a0.mats.l.length ≤ 1048576 := (k0p.mats.le (l4.trans l15)).top
     refine WL.pv (Pu.lens (n := a0.mats.l.length) rfl sl62) (WL.pv (Pu.ilt rfl rfl) (WL.nt ?_))
     refine CW.condP 26 rfl dT dF (fun h23 => ?_) (fun h23 => ?_)
     ·obtain ⟨n13, rfl⟩ : ∃ k, N21 = k + 1 := ⟨N21 - 1, by omega⟩
      refine CW.skip (QX.thenN ?_)
      refine CW.seq ?_
      refine CW.blk ?_
      refine CW.seq (CW.reg (WL.pv (Pu.fa rfl fo66_0) (WL.pv (Pu.load rfl ty62 (((f5.le l15).drop 0).w st.sub) rfl) (WL.mv rfl ?_))))
      have y24 := lg_get (l := a0.mats.l) (i := r12) (by omega) (by omega)
      have k27 : Match.Ok 1048576 H14 (lg a0.mats.l r12) := ((k0p.mats.le (l4.trans l15)).get _ _ y24).2
      refine WL.idx (s := a0.mats) rfl rfl rfl rfl sl62 (k0p.mats.le (l4.trans l15)) (by omega) y24 ?_
      intro ad25 f26
      refine WL.pv (Pu.load (v := Match.v (lg a0.mats.l r12)) rfl ty124 (f26.w st.sub) rfl) ?_
      refine WL.callv rfl rfl en210 rfl rfl st (c210 (lg a0.mats.l r12) st.sub k27) ?_
      intro W28 st
      refine WL.pv (Pu.notb rfl) (WL.nt ?_)
      refine CW.condP 35 rfl mT mF (fun h29 => ?_) (fun h29 => ?_)
      ·refine CW.seq (CW.reg (WL.as rfl (WL.nt ?_)))
       refine CW.ret (QX.blkR (QX.thenR (QX.thenR (QX.blkR (QX.thenR (QX.thenR (finA Tryz.results143 st (.tmp rfl .nil) ?_)))))))
       exact vb ((if_neg h7).trans ((if_neg h9).trans ((if_pos h11).trans (lk_inl ((Eq.symm e17).trans (if_neg h29))))))
      ·refine CW.skip (QX.blkN (QX.thenN ?_))
       refine CW.reg (WL.mv rfl (WL.pv (Pu.iadd rfl rfl (c := r12 + 1) (w64 (by omega) (by omega))) (WL.as rfl ?_)))
       refine WL.nil (QX.round ⟨n13, r12 + 1⟩ ?_ (Nat.lt_succ_self _) (.cons rfl (.cons rfl (.nil _))))
       exact ⟨⟨_, st, l15⟩, (by first|omega|simp<;>omega), (by first|omega|simp<;>omega), (by first|omega|simp<;>omega), Eq.symm ((Eq.symm e17).trans (if_pos h29))⟩
     ·obtain rfl : N21 = 0 := by omega
      refine CW.exit (QX.thenE (QX.thenE (QX.hit (QX.meets () ?_ (.cons rfl (.nil _))))))
      exact ⟨⟨_, st, l15⟩, Eq.symm e17⟩
    rintro _ W34 ⟨⟨H32, st, l33⟩, e35⟩
    show QX _ _ _ [(1, Value.pointer (some (⟨b1, 0, none⟩ : Addr)))] _
    refine QX.thenN (CW.seq (CW.seq (CW.reg (WL.as rfl (WL.nt ?_)))))
    refine (CW.cuts (fun (s : Unit) W => (∃ H', St w W H H' [] ∧ Le H32 H') ∧ m143_l1 a0 (((a0.backends.l.length : Int) - 0).toNat) 0 = .inr ()) (fun (s : Unit) => []) ?_ ?_)
    ·refine CW.blk (CW.loop (fun (s : Nat × Int) W => (∃ H', St w W H H' [] ∧ Le H32 H') ∧ 0 ≤ s.2 ∧ s.2 ≤ (a0.backends.l.length : Int) ∧ s.1 = ((a0.backends.l.length : Int) - s.2).toNat ∧ m143_l1 a0 s.1 s.2 = m143_l1 a0 (((a0.backends.l.length : Int) - 0).toNat) 0) (fun (s : Nat × Int) => [(1, Value.pointer (some (⟨b1, 0, none⟩ : Addr))), (4, Value.int .i64 s.2)]) (fun s => s.1) ⟨((a0.backends.l.length : Int) - 0).toNat, 0⟩ ⟨⟨_, st, Le.refl _⟩, (by first|omega|simp<;>omega), (by first|omega|simp<;>omega), rfl, rfl⟩ (.cons rfl (.cons rfl (.nil _))) ?_)
     rintro ⟨N45, r36⟩ W40 ⟨⟨H38, st, l39⟩, g71, g72, g44, e41⟩
     replace g71 : 0 ≤ r36 := g71
     replace g72 : r36 ≤ (a0.backends.l.length : Int) := g72
     replace g44 : N45 = ((a0.backends.l.length : Int) - r36).toNat := g44
     replace e41 : m143_l1 a0 N45 r36 = m143_l1 a0 (((a0.backends.l.length : Int) - 0).toNat) 0 := e41
     show CW _ _ _ _ [(1, Value.pointer (some (⟨b1, 0, none⟩ : Addr))), (4, Value.int .i64 r36)] _
     refine CW.seq (CW.seq (CW.reg (WL.mv rfl (WL.pv (Pu.fa rfl fo66_2) (WL.pv (Pu.load rfl ty64 (((f5.le (l33.trans l39)).drop 2).w st.sub) rfl) ?_)))))
     have z46 : a0.backends.l.length ≤ 1048576 := (k0p.backends.le ((l4.trans l33).trans l39)).top
     refine WL.pv (Pu.lens (n := a0.backends.l.length) rfl sl64) (WL.pv (Pu.ilt rfl rfl) (WL.nt ?_))
     refine CW.condP 40 rfl dT dF (fun h47 => ?_) (fun h47 => ?_)
     ·obtain ⟨n37, rfl⟩ : ∃ k, N45 = k + 1 := ⟨N45 - 1, by omega⟩
      refine CW.skip (QX.thenN ?_)
      refine CW.seq ?_
      refine CW.blk ?_
      refine CW.seq (CW.reg (WL.pv (Pu.fa rfl fo66_2) (WL.pv (Pu.load rfl ty64 (((f5.le (l33.trans l39)).drop 2).w st.sub) rfl) (WL.mv rfl ?_))))
      have y48 := lg_get (l := a0.backends.l) (i := r36) (by omega) (by omega)
      have k51 : Backend.Ok 1048576 H38 (lg a0.backends.l r36) := ((k0p.backends.le ((l4.trans l33).trans l39)).get _ _ y48).2
      refine WL.idx (s := a0.backends) rfl rfl rfl rfl sl64 (k0p.backends.le ((l4.trans l33).trans l39)) (by omega) y48 ?_
      intro ad49 f50
      refine WL.pv (Pu.load (v := Backend.v (lg a0.backends.l r36)) rfl ty68 (f50.w st.sub) rfl) ?_
      refine WL.alloco (c := #[.int .i64 0, .string (⟨#[]⟩ : ByteArray), .string (⟨#[]⟩ : ByteArray), .int .i64 0, .int .i64 0]) rfl rfl ze68 rfl st ?_
      intro b52 W53 st
      refine WL.store (o := 0) (c' := [.int .i64 (((lg a0.backends.l r36).ref).kind), .string (((lg a0.backends.l r36).ref).space), .string (((lg a0.backends.l r36).ref).name), .int .i64 ((lg a0.backends.l r36).port), .int .i64 ((lg a0.backends.l r36).weight)]) rfl rfl rfl rfl ty68 rfl (Enc.one (α := Backend) _) rfl rfl st ?_
      intro W54 st
      obtain ⟨H55, st, l56, f57⟩ := st.keepbox
      refine WL.nt (CW.seq (CW.reg (WL.pv (Pu.fa rfl fo68_0) (WL.pv (Pu.fa rfl fo23_0) (WL.pv (Pu.load rfl ty3 (((f57.drop 0).drop 0).w st.sub) rfl) ?_)))))
      refine WL.callv rfl rfl en144 rfl rfl st (c144 (((lg a0.backends.l r36).ref).kind) st.sub ) ?_
      intro W58 st
      refine WL.pv (Pu.notb rfl) (WL.mv rfl ?_)
      refine WL.splitP 53 rfl mT mF (fun h59 => ?_) (fun h59 => ?_)
      ·refine WL.of (WL.of (WL.of (WL.of (WL.of (WL.pv (Pu.pickT rfl rfl) (WL.mv rfl (WL.of (WL.of (WL.of ?_)))))))))
       refine WL.of (WL.of (WL.pv (Pu.pickT rfl rfl) (WL.mv rfl (WL.of (WL.of (WL.of (WL.of (WL.of (WL.of ?_)))))))))
       refine WL.of (WL.of (WL.of (WL.pv (Pu.pickT rfl rfl) (WL.mv rfl (WL.of (WL.of (WL.of (WL.pv (Pu.pickT rfl rfl) (WL.mv rfl ?_)))))))))
       refine WL.of (WL.of (WL.of (WL.pv (Pu.pickT rfl rfl) (WL.nt ?_))))
       refine CW.condT rfl ?_
       refine CW.seq (CW.reg (WL.as rfl (WL.nt ?_)))
       refine CW.ret (QX.blkR (QX.thenR (QX.thenR (QX.blkR (QX.thenR (QX.thenR (finA Tryz.results143 st (.tmp rfl .nil) ?_)))))))
       exact vb ((if_neg h7).trans ((if_neg h9).trans ((if_pos h11).trans ((lk_inr e35).trans (lk_inl ((Eq.symm e41).trans (if_neg h59)))))))
      ·refine WL.pv (Pu.fa rfl fo68_0) (WL.pv (Pu.fa rfl fo23_1) (WL.pv (Pu.load rfl ty9 (((f57.drop 0).drop 1).w st.sub) rfl) ?_))
       refine WL.callv rfl rfl en142 rfl rfl st (c142 (((lg a0.backends.l r36).ref).space) st.sub k51.ref.space) ?_
       intro W60 st
       refine WL.pv (Pu.notb rfl) (WL.pv (Pu.pickF rfl rfl) (WL.mv rfl ?_))
       refine WL.splitP 60 rfl mT mF (fun h61 => ?_) (fun h61 => ?_)
       ·refine WL.of (WL.of (WL.of (WL.of (WL.of (WL.pv (Pu.pickT rfl rfl) (WL.mv rfl (WL.of (WL.of (WL.of ?_)))))))))
        refine WL.of (WL.of (WL.of (WL.of (WL.of (WL.of (WL.pv (Pu.pickT rfl rfl) (WL.mv rfl (WL.of (WL.of ?_)))))))))
        refine WL.of (WL.pv (Pu.pickT rfl rfl) (WL.mv rfl (WL.of (WL.of (WL.of (WL.pv (Pu.pickT rfl rfl) (WL.nt ?_)))))))
        refine CW.condT rfl ?_
        refine CW.seq (CW.reg (WL.as rfl (WL.nt ?_)))
        refine CW.ret (QX.blkR (QX.thenR (QX.thenR (QX.blkR (QX.thenR (QX.thenR (finA Tryz.results143 st (.tmp rfl .nil) ?_)))))))
        exact vb ((if_neg h7).trans ((if_neg h9).trans ((if_pos h11).trans ((lk_inr e35).trans (lk_inl ((Eq.symm e41).trans ((if_pos h59).trans (if_neg h61))))))))
       ·refine WL.pv (Pu.fa rfl fo68_0) (WL.pv (Pu.fa rfl fo23_2) (WL.pv (Pu.load rfl ty9 (((f57.drop 0).drop 2).w st.sub) rfl) ?_))
        refine WL.callv rfl rfl en138 rfl rfl st (c138 (((lg a0.backends.l r36).ref).name) st.sub k51.ref.name) ?_
        intro W62 st
        refine WL.pv (Pu.notb rfl) (WL.pv (Pu.pickF rfl rfl) (WL.mv rfl ?_))
        refine WL.splitP 67 rfl mT mF (fun h63 => ?_) (fun h63 => ?_)
        ·refine WL.of (WL.of (WL.of (WL.of (WL.of (WL.of (WL.of (WL.of (WL.of (WL.pv (Pu.pickT rfl rfl) ?_)))))))))
         refine WL.mv rfl (WL.of (WL.of (WL.of (WL.pv (Pu.pickT rfl rfl) (WL.mv rfl (WL.of (WL.of (WL.of (WL.pv (Pu.pickT rfl rfl) ?_)))))))))
         refine WL.nt ?_
         refine CW.condT rfl ?_
         refine CW.seq (CW.reg (WL.as rfl (WL.nt ?_)))
         refine CW.ret (QX.blkR (QX.thenR (QX.thenR (QX.blkR (QX.thenR (QX.thenR (finA Tryz.results143 st (.tmp rfl .nil) ?_)))))))
         exact vb ((if_neg h7).trans ((if_neg h9).trans ((if_pos h11).trans ((lk_inr e35).trans (lk_inl ((Eq.symm e41).trans ((if_pos h59).trans ((if_pos h61).trans (if_neg h63)))))))))
        ·refine WL.pv (Pu.fa rfl fo68_1) (WL.pv (Pu.load rfl ty3 ((f57.drop 3).w st.sub) rfl) (WL.pv (Pu.ine rfl rfl) (WL.mv rfl ?_)))
         refine WL.splitP 71 rfl nT nF (fun h64 => ?_) (fun h64 => ?_)
         ·refine WL.pv (Pu.fa rfl fo68_1) (WL.pv (Pu.load rfl ty3 ((f57.drop 3).w st.sub) rfl) ?_)
          refine WL.callv rfl rfl en84 rfl rfl st (c84 ((lg a0.backends.l r36).port) st.sub ) ?_
          intro W65 st
          refine WL.pv (Pu.notb rfl) (WL.pv (Pu.pickT rfl rfl) (WL.pv (Pu.pickF rfl rfl) (WL.mv rfl ?_)))
          refine WL.splitP 78 rfl mT mF (fun h66 => ?_) (fun h66 => ?_)
          ·refine WL.of (WL.of (WL.of (WL.pv (Pu.pickT rfl rfl) (WL.mv rfl (WL.of (WL.of (WL.of (WL.pv (Pu.pickT rfl rfl) (WL.nt ?_)))))))))
           refine CW.condT rfl ?_
           refine CW.seq (CW.reg (WL.as rfl (WL.nt ?_)))
           refine CW.ret (QX.blkR (QX.thenR (QX.thenR (QX.blkR (QX.thenR (QX.thenR (finA Tryz.results143 st (.tmp rfl .nil) ?_)))))))
           exact vb ((if_neg h7).trans ((if_neg h9).trans ((if_pos h11).trans ((lk_inr e35).trans (lk_inl ((Eq.symm e41).trans ((if_pos h59).trans ((if_pos h61).trans ((if_pos h63).trans ((if_neg h64).trans (if_neg h66)))))))))))
          ·refine WL.pv (Pu.fa rfl fo68_2) (WL.pv (Pu.load rfl ty3 ((f57.drop 4).w st.sub) rfl) (WL.pv (Pu.ilt rfl rfl) (WL.pv (Pu.pickF rfl rfl) (WL.mv rfl ?_))))
           refine WL.splitP 83 rfl dT dF (fun h67 => ?_) (fun h67 => ?_)
           ·refine WL.of (WL.of (WL.of (WL.pv (Pu.pickT rfl rfl) (WL.nt ?_))))
            refine CW.condT rfl ?_
            refine CW.seq (CW.reg (WL.as rfl (WL.nt ?_)))
            refine CW.ret (QX.blkR (QX.thenR (QX.thenR (QX.blkR (QX.thenR (QX.thenR (finA Tryz.results143 st (.tmp rfl .nil) ?_)))))))
            exact vb ((if_neg h7).trans ((if_neg h9).trans ((if_pos h11).trans ((lk_inr e35).trans (lk_inl ((Eq.symm e41).trans ((if_pos h59).trans ((if_pos h61).trans ((if_pos h63).trans ((if_neg h64).trans ((if_pos h66).trans (if_pos h67))))))))))))
           ·refine WL.pv (Pu.fa rfl fo68_2) (WL.pv (Pu.load rfl ty3 ((f57.drop 4).w st.sub) rfl) (WL.pv (Pu.igt rfl rfl) (WL.pv (Pu.pickF rfl rfl) (WL.nt ?_))))
            refine CW.condP 87 rfl dT dF (fun h68 => ?_) (fun h68 => ?_)
            ·refine CW.seq (CW.reg (WL.as rfl (WL.nt ?_)))
             refine CW.ret (QX.blkR (QX.thenR (QX.thenR (QX.blkR (QX.thenR (QX.thenR (finA Tryz.results143 st (.tmp rfl .nil) ?_)))))))
             exact vb ((if_neg h7).trans ((if_neg h9).trans ((if_pos h11).trans ((lk_inr e35).trans (lk_inl ((Eq.symm e41).trans ((if_pos h59).trans ((if_pos h61).trans ((if_pos h63).trans ((if_neg h64).trans ((if_pos h66).trans ((if_neg h67).trans (if_pos h68)))))))))))))
            ·refine CW.skip (QX.blkN (QX.thenN ?_))
             refine CW.reg (WL.mv rfl (WL.pv (Pu.iadd rfl rfl (c := r36 + 1) (w64 (by omega) (by omega))) (WL.as rfl ?_)))
             refine WL.nil (QX.round ⟨n37, r36 + 1⟩ ?_ (Nat.lt_succ_self _) (.cons rfl (.cons rfl (.nil _))))
             exact ⟨⟨_, st, (l39.trans l56)⟩, (by first|omega|simp<;>omega), (by first|omega|simp<;>omega), (by first|omega|simp<;>omega), Eq.symm ((Eq.symm e41).trans ((if_pos h59).trans ((if_pos h61).trans ((if_pos h63).trans ((if_neg h64).trans ((if_pos h66).trans ((if_neg h67).trans (if_neg h68))))))))⟩
         ·refine WL.of (WL.of (WL.of (WL.of (WL.pv (Pu.pickF rfl rfl) (WL.pv (Pu.pickF rfl rfl) (WL.mv rfl (WL.pv (Pu.fa rfl fo68_2) (WL.pv (Pu.load rfl ty3 ((f57.drop 4).w st.sub) rfl) (WL.pv (Pu.ilt rfl rfl) ?_)))))))))
          refine WL.pv (Pu.pickF rfl rfl) (WL.mv rfl ?_)
          refine WL.splitP 83 rfl dT dF (fun h69 => ?_) (fun h69 => ?_)
          ·refine WL.of (WL.of (WL.of (WL.pv (Pu.pickT rfl rfl) (WL.nt ?_))))
           refine CW.condT rfl ?_
           refine CW.seq (CW.reg (WL.as rfl (WL.nt ?_)))
           refine CW.ret (QX.blkR (QX.thenR (QX.thenR (QX.blkR (QX.thenR (QX.thenR (finA Tryz.results143 st (.tmp rfl .nil) ?_)))))))
           exact vb ((if_neg h7).trans ((if_neg h9).trans ((if_pos h11).trans ((lk_inr e35).trans (lk_inl ((Eq.symm e41).trans ((if_pos h59).trans ((if_pos h61).trans ((if_pos h63).trans ((if_pos h64).trans (if_pos h69)))))))))))
          ·refine WL.pv (Pu.fa rfl fo68_2) (WL.pv (Pu.load rfl ty3 ((f57.drop 4).w st.sub) rfl) (WL.pv (Pu.igt rfl rfl) (WL.pv (Pu.pickF rfl rfl) (WL.nt ?_))))
           refine CW.condP 87 rfl dT dF (fun h70 => ?_) (fun h70 => ?_)
           ·refine CW.seq (CW.reg (WL.as rfl (WL.nt ?_)))
            refine CW.ret (QX.blkR (QX.thenR (QX.thenR (QX.blkR (QX.thenR (QX.thenR (finA Tryz.results143 st (.tmp rfl .nil) ?_)))))))
            exact vb ((if_neg h7).trans ((if_neg h9).trans ((if_pos h11).trans ((lk_inr e35).trans (lk_inl ((Eq.symm e41).trans ((if_pos h59).trans ((if_pos h61).trans ((if_pos h63).trans ((if_pos h64).trans ((if_neg h69).trans (if_pos h70))))))))))))
           ·refine CW.skip (QX.blkN (QX.thenN ?_))
            refine CW.reg (WL.mv rfl (WL.pv (Pu.iadd rfl rfl (c := r36 + 1) (w64 (by omega) (by omega))) (WL.as rfl ?_)))
            refine WL.nil (QX.round ⟨n37, r36 + 1⟩ ?_ (Nat.lt_succ_self _) (.cons rfl (.cons rfl (.nil _))))
            exact ⟨⟨_, st, (l39.trans l56)⟩, (by first|omega|simp<;>omega), (by first|omega|simp<;>omega), (by first|omega|simp<;>omega), Eq.symm ((Eq.symm e41).trans ((if_pos h59).trans ((if_pos h61).trans ((if_pos h63).trans ((if_pos h64).trans ((if_neg h69).trans (if_neg h70)))))))⟩
     ·obtain rfl : N45 = 0 := by omega
      refine CW.exit (QX.thenE (QX.thenE (QX.hit (QX.meets () ?_ (.nil _)))))
      exact ⟨⟨_, st, l39⟩, Eq.symm e41⟩
    rintro _ W75 ⟨⟨H73, st, l74⟩, e76⟩
    show QX _ _ _ [] _
    refine QX.thenN (CW.seq (CW.reg (WL.as rfl (WL.nt ?_))))
    refine CW.ret (finA Tryz.results143 st (.tmp rfl .nil) ?_)
    exact vb ((if_neg h7).trans ((if_neg h9).trans ((if_pos h11).trans ((lk_inr e35).trans (lk_inr e76)))))
/-! toll tollref09.route -/
def m86_l1 (a0 : Object) (r6 : Int) : Nat → Int → (Bool ⊕ Unit)
 | 0, _ => .inr ()
 | n38 + 1, r37 => if lg a0.parents.l r37 = lg a0.parents.l r6 then (.inl false) else m86_l1 a0 r6 n38 (r37 + 1)
def m86_l2 (a0 : Object) (r6 : Int) : Nat → Int → (Bool ⊕ Unit)
 | 0, _ => .inr ()
 | n63 + 1, r62 => if lg a0.parents.l r62 = lg a0.parents.l r6 then (.inl false) else m86_l2 a0 r6 n63 (r62 + 1)
def m86_l0 (a0 : Object) : Nat → Int → (Bool ⊕ Unit)
 | 0, _ => .inr ()
 | n7 + 1, r6 => if (m142 ((lg a0.parents.l r6).space)) = true then (if (m138 ((lg a0.parents.l r6).name)) = true then (if (m142 ((lg a0.parents.l r6).sect)) = true then (if ((lg a0.parents.l r6).port) = 0 then (lkR (m86_l2 a0 r6 ((r6 - 0).toNat) 0) (fun _ => m86_l0 a0 n7 (r6 + 1))) else if (m84 ((lg a0.parents.l r6).port)) = true then (lkR (m86_l1 a0 r6 ((r6 - 0).toNat) 0) (fun _ => m86_l0 a0 n7 (r6 + 1))) else .inl false) else .inl false) else .inl false) else .inl false
def m86_l4 (a0 : Object) (r93 : Int) : Nat → Int → (Bool ⊕ Unit)
 | 0, _ => .inr ()
 | n118 + 1, r117 => if lg a0.hosts.l r117 = lg a0.hosts.l r93 then (.inl false) else m86_l4 a0 r93 n118 (r117 + 1)
def m86_l3 (a0 : Object) : Nat → Int → (Bool ⊕ Unit)
 | 0, _ => .inr ()
 | n94 + 1, r93 => if lg a0.hosts.l r93 = (⟨#[]⟩ : ByteArray) then (.inl false) else if (m119 (lg a0.hosts.l r93)) = true then (lkR (m86_l4 a0 r93 ((r93 - 0).toNat) 0) (fun _ => m86_l3 a0 n94 (r93 + 1))) else .inl false
def m86_l5 (a0 : Object) : Nat → Int → (Bool ⊕ Unit)
 | 0, _ => .inr ()
 | n154 + 1, r153 => if (m143 (lg a0.rules.l r153)) = true then (m86_l5 a0 n154 (r153 + 1)) else .inl false
def m86 (a0 : Object) : Bool :=
 lk2 (m86_l0 a0 (((a0.parents.l.length : Int) - 0).toNat) 0) (fun _ => lk2 (m86_l3 a0 (((a0.hosts.l.length : Int) - 0).toNat) 0) (fun _ => lk2 (m86_l5 a0 (((a0.rules.l.length : Int) - 0).toNat) 0) (fun _ => if (a0.parents.l.length : Int) ≤ 4 then (if (a0.hosts.l.length : Int) ≤ 4 then (decide ((a0.rules.l.length : Int) ≤ 6)) else false) else false)))
theorem c86 (a0 : Object) {w : World} {H : PH} (hs : Sub H w) (k0p : Object.Ok 1048576 H a0) : Spec Tryz.prog 86 [Object.v a0].toArray w H (fun _ v => v = .bool (m86 a0)) := by
 refine Spec.enter Tryz.func86 rfl Tryz.ntmps86 rfl ?_
 have st := St.start hs
 refine CW.seq (CW.reg ?_)
 refine WL.box rfl rfl rfl rfl st ?_
 intro b1 W2 H3 st l4 f5
 refine WL.as rfl (WL.nt (CW.seq (CW.seq (CW.reg (WL.as rfl (WL.nt ?_))))))
 refine (CW.cuts (fun (s : Unit) W => (∃ H', St w W H H' [] ∧ Le H3 H') ∧ m86_l0 a0 (((a0.parents.l.length : Int) - 0).toNat) 0 = .inr ()) (fun (s : Unit) => [(1, Value.pointer (some (⟨b1, 0, none⟩ : Addr)))]) ?_ ?_)
 ·refine CW.blk (CW.loop (fun (s : Nat × Int) W => (∃ H', St w W H H' [] ∧ Le H3 H') ∧ 0 ≤ s.2 ∧ s.2 ≤ (a0.parents.l.length : Int) ∧ s.1 = ((a0.parents.l.length : Int) - s.2).toNat ∧ m86_l0 a0 s.1 s.2 = m86_l0 a0 (((a0.parents.l.length : Int) - 0).toNat) 0) (fun (s : Nat × Int) => [(1, Value.pointer (some (⟨b1, 0, none⟩ : Addr))), (3, Value.int .i64 s.2)]) (fun s => s.1) ⟨((a0.parents.l.length : Int) - 0).toNat, 0⟩ ⟨⟨_, st, Le.refl _⟩, (by first|omega|simp<;>omega), (by first|omega|simp<;>omega), rfl, rfl⟩ (.cons rfl (.cons rfl (.nil _))) ?_)
  rintro ⟨N15, r6⟩ W10 ⟨⟨H8, st, l9⟩, g87, g88, g14, e11⟩
  replace g87 : 0 ≤ r6 := g87
  replace g88 : r6 ≤ (a0.parents.l.length : Int) := g88
  replace g14 : N15 = ((a0.parents.l.length : Int) - r6).toNat := g14
  replace e11 : m86_l0 a0 N15 r6 = m86_l0 a0 (((a0.parents.l.length : Int) - 0).toNat) 0 := e11
  show CW _ _ _ _ [(1, Value.pointer (some (⟨b1, 0, none⟩ : Addr))), (3, Value.int .i64 r6)] _
  refine CW.seq (CW.seq (CW.reg (WL.mv rfl (WL.pv (Pu.fa rfl fo32_6) (WL.pv (Pu.load rfl ty27 (((f5.le l9).drop 8).w st.sub) rfl) ?_)))))
  have z16 : a0.parents.l.length ≤ 1048576 := (k0p.parents.le (l4.trans l9)).top
  refine WL.pv (Pu.lens (n := a0.parents.l.length) rfl sl27) (WL.pv (Pu.ilt rfl rfl) (WL.nt ?_))
  refine CW.condP 13 rfl dT dF (fun h17 => ?_) (fun h17 => ?_)
  ·obtain ⟨n7, rfl⟩ : ∃ k, N15 = k + 1 := ⟨N15 - 1, by omega⟩
   refine CW.skip (QX.thenN ?_)
   refine CW.seq ?_
   refine CW.blk ?_
   refine CW.seq (CW.reg (WL.pv (Pu.fa rfl fo32_6) (WL.pv (Pu.load rfl ty27 (((f5.le l9).drop 8).w st.sub) rfl) (WL.mv rfl ?_))))
   have y18 := lg_get (l := a0.parents.l) (i := r6) (by omega) (by omega)
   have k21 : Parent.Ok 1048576 H8 (lg a0.parents.l r6) := ((k0p.parents.le (l4.trans l9)).get _ _ y18).2
   refine WL.idx (s := a0.parents) rfl rfl rfl rfl sl27 (k0p.parents.le (l4.trans l9)) (by omega) y18 ?_
   intro ad19 f20
   refine WL.pv (Pu.load (v := Parent.v (lg a0.parents.l r6)) rfl ty99 (f20.w st.sub) rfl) ?_
   refine WL.alloco (c := #[.string (⟨#[]⟩ : ByteArray), .string (⟨#[]⟩ : ByteArray), .string (⟨#[]⟩ : ByteArray), .int .i64 0]) rfl rfl ze99 rfl st ?_
   intro b22 W23 st
   refine WL.store (o := 0) (c' := [.string ((lg a0.parents.l r6).space), .string ((lg a0.parents.l r6).name), .string ((lg a0.parents.l r6).sect), .int .i64 ((lg a0.parents.l r6).port)]) rfl rfl rfl rfl ty99 rfl (Enc.one (α := Parent) _) rfl rfl st ?_
   intro W24 st
   obtain ⟨H25, st, l26, f27⟩ := st.keepbox
   refine WL.nt (CW.seq (CW.seq (CW.reg (WL.pv (Pu.fa rfl fo99_0) (WL.pv (Pu.load rfl ty9 ((f27.drop 0).w st.sub) rfl) ?_)))))
   refine WL.callv rfl rfl en142 rfl rfl st (c142 ((lg a0.parents.l r6).space) st.sub k21.space) ?_
   intro W28 st
   refine WL.pv (Pu.notb rfl) (WL.mv rfl ?_)
   refine WL.splitP 25 rfl mT mF (fun h29 => ?_) (fun h29 => ?_)
   ·refine WL.of (WL.of (WL.of (WL.of (WL.pv (Pu.pickT rfl rfl) (WL.mv rfl (WL.of (WL.of (WL.of (WL.of ?_)))))))))
    refine WL.pv (Pu.pickT rfl rfl) (WL.mv rfl (WL.of (WL.of (WL.of (WL.of (WL.of (WL.of (WL.of (WL.of ?_)))))))))
    refine WL.of (WL.pv (Pu.pickT rfl rfl) (WL.nt ?_))
    refine CW.condT rfl ?_
    refine CW.seq (CW.reg (WL.as rfl (WL.nt ?_)))
    refine CW.ret (QX.thenR (QX.blkR (QX.thenR (QX.thenR (QX.blkR (QX.thenR (QX.thenR (finA Tryz.results86 st (.tmp rfl .nil) ?_))))))))
    exact vb (lk_inl ((Eq.symm e11).trans (if_neg h29)))
   ·refine WL.pv (Pu.fa rfl fo99_1) (WL.pv (Pu.load rfl ty9 ((f27.drop 1).w st.sub) rfl) ?_)
    refine WL.callv rfl rfl en138 rfl rfl st (c138 ((lg a0.parents.l r6).name) st.sub k21.name) ?_
    intro W30 st
    refine WL.pv (Pu.notb rfl) (WL.pv (Pu.pickF rfl rfl) (WL.mv rfl ?_))
    refine WL.splitP 31 rfl mT mF (fun h31 => ?_) (fun h31 => ?_)
    ·refine WL.of (WL.of (WL.of (WL.of (WL.pv (Pu.pickT rfl rfl) (WL.mv rfl (WL.of (WL.of (WL.of (WL.of ?_)))))))))
     refine WL.of (WL.of (WL.of (WL.of (WL.of (WL.pv (Pu.pickT rfl rfl) (WL.nt ?_))))))
     refine CW.condT rfl ?_
     refine CW.seq (CW.reg (WL.as rfl (WL.nt ?_)))
     refine CW.ret (QX.thenR (QX.blkR (QX.thenR (QX.thenR (QX.blkR (QX.thenR (QX.thenR (finA Tryz.results86 st (.tmp rfl .nil) ?_))))))))
     exact vb (lk_inl ((Eq.symm e11).trans ((if_pos h29).trans (if_neg h31))))
    ·refine WL.pv (Pu.fa rfl fo99_2) (WL.pv (Pu.load rfl ty9 ((f27.drop 2).w st.sub) rfl) ?_)
     refine WL.callv rfl rfl en142 rfl rfl st (c142 ((lg a0.parents.l r6).sect) st.sub k21.sect) ?_
     intro W32 st
     refine WL.pv (Pu.notb rfl) (WL.pv (Pu.pickF rfl rfl) (WL.mv rfl ?_))
     refine WL.splitP 37 rfl mT mF (fun h33 => ?_) (fun h33 => ?_)
     ·refine WL.of (WL.of (WL.of (WL.of (WL.of (WL.of (WL.of (WL.of (WL.of (WL.pv (Pu.pickT rfl rfl) ?_)))))))))
      refine WL.nt ?_
      refine CW.condT rfl ?_
      refine CW.seq (CW.reg (WL.as rfl (WL.nt ?_)))
      refine CW.ret (QX.thenR (QX.blkR (QX.thenR (QX.thenR (QX.blkR (QX.thenR (QX.thenR (finA Tryz.results86 st (.tmp rfl .nil) ?_))))))))
      exact vb (lk_inl ((Eq.symm e11).trans ((if_pos h29).trans ((if_pos h31).trans (if_neg h33)))))
     ·refine WL.pv (Pu.fa rfl fo99_3) (WL.pv (Pu.load rfl ty3 ((f27.drop 3).w st.sub) rfl) (WL.pv (Pu.ine rfl rfl) (WL.mv rfl ?_)))
      refine WL.splitP 41 rfl nT nF (fun h34 => ?_) (fun h34 => ?_)
      ·refine WL.pv (Pu.fa rfl fo99_3) (WL.pv (Pu.load rfl ty3 ((f27.drop 3).w st.sub) rfl) ?_)
       refine WL.callv rfl rfl en84 rfl rfl st (c84 ((lg a0.parents.l r6).port) st.sub ) ?_
       intro W35 st
       refine WL.pv (Pu.notb rfl) (WL.pv (Pu.pickT rfl rfl) (WL.pv (Pu.pickF rfl rfl) (WL.nt ?_)))
       refine CW.condP 47 rfl mT mF (fun h36 => ?_) (fun h36 => ?_)
       ·refine CW.seq (CW.reg (WL.as rfl (WL.nt ?_)))
        refine CW.ret (QX.thenR (QX.blkR (QX.thenR (QX.thenR (QX.blkR (QX.thenR (QX.thenR (finA Tryz.results86 st (.tmp rfl .nil) ?_))))))))
        exact vb (lk_inl ((Eq.symm e11).trans ((if_pos h29).trans ((if_pos h31).trans ((if_pos h33).trans ((if_neg h34).trans (if_neg h36)))))))
       ·refine CW.skip (QX.thenN ?_)
        refine CW.seq (CW.reg (WL.as rfl (WL.nt ?_)))
        refine (CW.cuts (fun (s : Unit) W => (∃ H', St w W H H' [] ∧ Le H25 H') ∧ m86_l1 a0 r6 ((r6 - 0).toNat) 0 = .inr ()) (fun (s : Unit) => [(1, Value.pointer (some (⟨b1, 0, none⟩ : Addr))), (3, Value.int .i64 r6), (26, Value.pointer (some ((⟨b22, 0, none⟩ : Addr).add 1))), (27, Value.string ((lg a0.parents.l r6).name)), (28, Value.bool (m138 ((lg a0.parents.l r6).name))), (29, Value.bool (!(m138 ((lg a0.parents.l r6).name)))), (32, Value.pointer (some ((⟨b22, 0, none⟩ : Addr).add 2))), (33, Value.string ((lg a0.parents.l r6).sect)), (34, Value.bool (m142 ((lg a0.parents.l r6).sect))), (35, Value.bool (!(m142 ((lg a0.parents.l r6).sect)))), (38, Value.pointer (some ((⟨b22, 0, none⟩ : Addr).add 3))), (39, Value.int .i64 ((lg a0.parents.l r6).port)), (40, Value.bool (!decide (((lg a0.parents.l r6).port) = 0))), (41, Value.bool true), (42, Value.pointer (some ((⟨b22, 0, none⟩ : Addr).add 3))), (43, Value.int .i64 ((lg a0.parents.l r6).port)), (44, Value.bool (m84 ((lg a0.parents.l r6).port))), (45, Value.bool (!(m84 ((lg a0.parents.l r6).port)))), (46, Value.bool (!(m84 ((lg a0.parents.l r6).port))))]) ?_ ?_)
        ·refine CW.blk (CW.loop (fun (s : Nat × Int) W => (∃ H', St w W H H' [] ∧ Le H25 H') ∧ 0 ≤ s.2 ∧ s.1 = (r6 - s.2).toNat ∧ m86_l1 a0 r6 s.1 s.2 = m86_l1 a0 r6 ((r6 - 0).toNat) 0) (fun (s : Nat × Int) => [(1, Value.pointer (some (⟨b1, 0, none⟩ : Addr))), (3, Value.int .i64 r6), (4, Value.pointer (some (⟨b22, 0, none⟩ : Addr))), (26, Value.pointer (some ((⟨b22, 0, none⟩ : Addr).add 1))), (27, Value.string ((lg a0.parents.l r6).name)), (28, Value.bool (m138 ((lg a0.parents.l r6).name))), (29, Value.bool (!(m138 ((lg a0.parents.l r6).name)))), (32, Value.pointer (some ((⟨b22, 0, none⟩ : Addr).add 2))), (33, Value.string ((lg a0.parents.l r6).sect)), (34, Value.bool (m142 ((lg a0.parents.l r6).sect))), (35, Value.bool (!(m142 ((lg a0.parents.l r6).sect)))), (38, Value.pointer (some ((⟨b22, 0, none⟩ : Addr).add 3))), (39, Value.int .i64 ((lg a0.parents.l r6).port)), (40, Value.bool (!decide (((lg a0.parents.l r6).port) = 0))), (41, Value.bool true), (42, Value.pointer (some ((⟨b22, 0, none⟩ : Addr).add 3))), (43, Value.int .i64 ((lg a0.parents.l r6).port)), (44, Value.bool (m84 ((lg a0.parents.l r6).port))), (45, Value.bool (!(m84 ((lg a0.parents.l r6).port)))), (46, Value.bool (!(m84 ((lg a0.parents.l r6).port)))), (5, Value.int .i64 s.2)]) (fun s => s.1) ⟨(r6 - 0).toNat, 0⟩ ⟨⟨_, st, Le.refl _⟩, (by first|omega|simp<;>omega), rfl, rfl⟩ (.cons rfl (.cons rfl (.cons rfl (.cons rfl (.cons rfl (.cons rfl (.cons rfl (.cons rfl (.cons rfl (.cons rfl (.cons rfl (.cons rfl (.cons rfl (.cons rfl (.cons rfl (.cons rfl (.cons rfl (.cons rfl (.cons rfl (.cons rfl (.cons rfl (.nil _)))))))))))))))))))))) ?_)
         rintro ⟨N46, r37⟩ W41 ⟨⟨H39, st, l40⟩, g57, g45, e42⟩
         replace g57 : 0 ≤ r37 := g57
         replace g45 : N46 = (r6 - r37).toNat := g45
         replace e42 : m86_l1 a0 r6 N46 r37 = m86_l1 a0 r6 ((r6 - 0).toNat) 0 := e42
         show CW _ _ _ _ [(1, Value.pointer (some (⟨b1, 0, none⟩ : Addr))), (3, Value.int .i64 r6), (4, Value.pointer (some (⟨b22, 0, none⟩ : Addr))), (26, Value.pointer (some ((⟨b22, 0, none⟩ : Addr).add 1))), (27, Value.string ((lg a0.parents.l r6).name)), (28, Value.bool (m138 ((lg a0.parents.l r6).name))), (29, Value.bool (!(m138 ((lg a0.parents.l r6).name)))), (32, Value.pointer (some ((⟨b22, 0, none⟩ : Addr).add 2))), (33, Value.string ((lg a0.parents.l r6).sect)), (34, Value.bool (m142 ((lg a0.parents.l r6).sect))), (35, Value.bool (!(m142 ((lg a0.parents.l r6).sect)))), (38, Value.pointer (some ((⟨b22, 0, none⟩ : Addr).add 3))), (39, Value.int .i64 ((lg a0.parents.l r6).port)), (40, Value.bool (!decide (((lg a0.parents.l r6).port) = 0))), (41, Value.bool true), (42, Value.pointer (some ((⟨b22, 0, none⟩ : Addr).add 3))), (43, Value.int .i64 ((lg a0.parents.l r6).port)), (44, Value.bool (m84 ((lg a0.parents.l r6).port))), (45, Value.bool (!(m84 ((lg a0.parents.l r6).port)))), (46, Value.bool (!(m84 ((lg a0.parents.l r6).port)))), (5, Value.int .i64 r37)] _
         refine CW.seq (CW.seq (CW.reg (WL.mv rfl (WL.mv rfl (WL.pv (Pu.ilt rfl rfl) (WL.nt ?_))))))
         refine CW.condP 50 rfl dT dF (fun h47 => ?_) (fun h47 => ?_)
         ·obtain ⟨n38, rfl⟩ : ∃ k, N46 = k + 1 := ⟨N46 - 1, by omega⟩
          refine CW.skip (QX.thenN ?_)
          refine CW.seq ?_
          refine CW.blk ?_
          refine CW.seq ?_
          refine CW.regS (C := Cl w H39 []) (tail := []) (S := Grew w H H39 []) mixed (fun W' h1 h2 h3 h4 => grew_start st h1 h2 h3 h4) (n := 7) rfl ?_
          refine WS.pk 0 rfl gg (fun W hC => Pu.fa rfl fo32_6) ?_
          refine WS.pk 1 rfl gg (fun W hC => Pu.load rfl ty27 (((f5.le ((l9.trans l26).trans l40)).drop 8).w hC.1) rfl) ?_
          refine WS.pk 2 rfl gg (fun W hC => Pu.move rfl) ?_
          have y48 := lg_get (l := a0.parents.l) (i := r37) (by omega) (by omega)
          have k51 : Parent.Ok 1048576 H39 (lg a0.parents.l r37) := ((k0p.parents.le (((l4.trans l9).trans l26).trans l40)).get _ _ y48).2
          obtain ⟨ad49, qa52, f50⟩ := ((k0p.parents.le (((l4.trans l9).trans l26).trans l40)).get _ _ y48).1
          refine WS.pk 3 rfl gg (fun W hC => Pu.idx0 rfl rfl sl27 (by first|omega|simp<;>omega) (by first|omega|simp<;>omega) qa52) ?_
          refine WS.pk 4 rfl gg (fun W hC => Pu.load (v := Parent.v (lg a0.parents.l r37)) rfl ty99 (f50.w hC.1) rfl) ?_
          refine WS.pk 5 rfl gg (fun W hC => Pu.load (v := Parent.v (lg a0.parents.l r6)) rfl ty99 ((f27.le l40).w hC.1) rfl) ?_
          refine WS.pk 6 rfl gg (fun W hC => Pu.bin rfl rfl (eqg99 _ (lg a0.parents.l r37) (lg a0.parents.l r6)) (eq99 (lg a0.parents.l r37) (lg a0.parents.l r6))) ?_
          refine WS.fin (by kernel_rfl) (fun W55 H53 st l54 => ?_)
          refine QX.thenN ?_
          refine CW.condP 59 rfl dT dF (fun h56 => ?_) (fun h56 => ?_)
          ·refine CW.seq (CW.reg (WL.as rfl (WL.nt ?_)))
           refine CW.ret (QX.blkR (QX.thenR (QX.thenR (QX.blkR (QX.thenR (QX.blkR (QX.thenR (QX.thenR (QX.blkR (QX.thenR (QX.thenR (finA Tryz.results86 st (.tmp rfl .nil) ?_))))))))))))
           exact vb (lk_inl ((Eq.symm e11).trans ((if_pos h29).trans ((if_pos h31).trans ((if_pos h33).trans ((if_neg h34).trans ((if_pos h36).trans (lkR_inl ((Eq.symm e42).trans (if_pos h56))))))))))
          ·refine CW.skip (QX.blkN (QX.thenN ?_))
           refine CW.reg (WL.mv rfl (WL.pv (Pu.iadd rfl rfl (c := r37 + 1) (w64 (by omega) (by omega))) (WL.as rfl ?_)))
           refine WL.nil (QX.round ⟨n38, r37 + 1⟩ ?_ (Nat.lt_succ_self _) (.cons rfl (.cons rfl (.cons rfl (.cons rfl (.cons rfl (.cons rfl (.cons rfl (.cons rfl (.cons rfl (.cons rfl (.cons rfl (.cons rfl (.cons rfl (.cons rfl (.cons rfl (.cons rfl (.cons rfl (.cons rfl (.cons rfl (.cons rfl (.cons rfl (.nil _)))))))))))))))))))))))
           exact ⟨⟨_, st, (l40.trans l54)⟩, (by first|omega|simp<;>omega), (by first|omega|simp<;>omega), Eq.symm ((Eq.symm e42).trans (if_neg h56))⟩
         ·obtain rfl : N46 = 0 := by omega
          refine CW.exit (QX.thenE (QX.thenE (QX.hit (QX.meets () ?_ (.cons rfl (.cons rfl (.cons rfl (.cons rfl (.cons rfl (.cons rfl (.cons rfl (.cons rfl (.cons rfl (.cons rfl (.cons rfl (.cons rfl (.cons rfl (.cons rfl (.cons rfl (.cons rfl (.cons rfl (.cons rfl (.cons rfl (.nil _))))))))))))))))))))))))
          exact ⟨⟨_, st, l40⟩, Eq.symm e42⟩
        rintro _ W60 ⟨⟨H58, st, l59⟩, e61⟩
        show QX _ _ _ [(1, Value.pointer (some (⟨b1, 0, none⟩ : Addr))), (3, Value.int .i64 r6), (26, Value.pointer (some ((⟨b22, 0, none⟩ : Addr).add 1))), (27, Value.string ((lg a0.parents.l r6).name)), (28, Value.bool (m138 ((lg a0.parents.l r6).name))), (29, Value.bool (!(m138 ((lg a0.parents.l r6).name)))), (32, Value.pointer (some ((⟨b22, 0, none⟩ : Addr).add 2))), (33, Value.string ((lg a0.parents.l r6).sect)), (34, Value.bool (m142 ((lg a0.parents.l r6).sect))), (35, Value.bool (!(m142 ((lg a0.parents.l r6).sect)))), (38, Value.pointer (some ((⟨b22, 0, none⟩ : Addr).add 3))), (39, Value.int .i64 ((lg a0.parents.l r6).port)), (40, Value.bool (!decide (((lg a0.parents.l r6).port) = 0))), (41, Value.bool true), (42, Value.pointer (some ((⟨b22, 0, none⟩ : Addr).add 3))), (43, Value.int .i64 ((lg a0.parents.l r6).port)), (44, Value.bool (m84 ((lg a0.parents.l r6).port))), (45, Value.bool (!(m84 ((lg a0.parents.l r6).port)))), (46, Value.bool (!(m84 ((lg a0.parents.l r6).port))))] _
        refine QX.blkN (QX.thenN ?_)
        refine CW.reg (WL.mv rfl (WL.pv (Pu.iadd rfl rfl (c := r6 + 1) (w64 (by omega) (by omega))) (WL.as rfl ?_)))
        refine WL.nil (QX.round ⟨n7, r6 + 1⟩ ?_ (Nat.lt_succ_self _) (.cons rfl (.cons rfl (.nil _))))
        exact ⟨⟨_, st, ((l9.trans l26).trans l59)⟩, (by first|omega|simp<;>omega), (by first|omega|simp<;>omega), (by first|omega|simp<;>omega), Eq.symm ((Eq.symm e11).trans ((if_pos h29).trans ((if_pos h31).trans ((if_pos h33).trans ((if_neg h34).trans ((if_pos h36).trans (lkR_inr e61)))))))⟩
      ·refine WL.of (WL.of (WL.of (WL.of (WL.pv (Pu.pickF rfl rfl) (WL.pv (Pu.pickF rfl rfl) (WL.nt ?_))))))
       refine CW.condF rfl ?_
       refine CW.skip (QX.thenN ?_)
       refine CW.seq (CW.reg (WL.as rfl (WL.nt ?_)))
       refine (CW.cuts (fun (s : Unit) W => (∃ H', St w W H H' [] ∧ Le H25 H') ∧ m86_l2 a0 r6 ((r6 - 0).toNat) 0 = .inr ()) (fun (s : Unit) => [(1, Value.pointer (some (⟨b1, 0, none⟩ : Addr))), (3, Value.int .i64 r6), (26, Value.pointer (some ((⟨b22, 0, none⟩ : Addr).add 1))), (27, Value.string ((lg a0.parents.l r6).name)), (28, Value.bool (m138 ((lg a0.parents.l r6).name))), (29, Value.bool (!(m138 ((lg a0.parents.l r6).name)))), (32, Value.pointer (some ((⟨b22, 0, none⟩ : Addr).add 2))), (33, Value.string ((lg a0.parents.l r6).sect)), (34, Value.bool (m142 ((lg a0.parents.l r6).sect))), (35, Value.bool (!(m142 ((lg a0.parents.l r6).sect)))), (38, Value.pointer (some ((⟨b22, 0, none⟩ : Addr).add 3))), (39, Value.int .i64 ((lg a0.parents.l r6).port)), (40, Value.bool (!decide (((lg a0.parents.l r6).port) = 0))), (41, Value.bool false), (46, Value.bool false)]) ?_ ?_)
       ·refine CW.blk (CW.loop (fun (s : Nat × Int) W => (∃ H', St w W H H' [] ∧ Le H25 H') ∧ 0 ≤ s.2 ∧ s.1 = (r6 - s.2).toNat ∧ m86_l2 a0 r6 s.1 s.2 = m86_l2 a0 r6 ((r6 - 0).toNat) 0) (fun (s : Nat × Int) => [(1, Value.pointer (some (⟨b1, 0, none⟩ : Addr))), (3, Value.int .i64 r6), (4, Value.pointer (some (⟨b22, 0, none⟩ : Addr))), (26, Value.pointer (some ((⟨b22, 0, none⟩ : Addr).add 1))), (27, Value.string ((lg a0.parents.l r6).name)), (28, Value.bool (m138 ((lg a0.parents.l r6).name))), (29, Value.bool (!(m138 ((lg a0.parents.l r6).name)))), (32, Value.pointer (some ((⟨b22, 0, none⟩ : Addr).add 2))), (33, Value.string ((lg a0.parents.l r6).sect)), (34, Value.bool (m142 ((lg a0.parents.l r6).sect))), (35, Value.bool (!(m142 ((lg a0.parents.l r6).sect)))), (38, Value.pointer (some ((⟨b22, 0, none⟩ : Addr).add 3))), (39, Value.int .i64 ((lg a0.parents.l r6).port)), (40, Value.bool (!decide (((lg a0.parents.l r6).port) = 0))), (41, Value.bool false), (46, Value.bool false), (5, Value.int .i64 s.2)]) (fun s => s.1) ⟨(r6 - 0).toNat, 0⟩ ⟨⟨_, st, Le.refl _⟩, (by first|omega|simp<;>omega), rfl, rfl⟩ (.cons rfl (.cons rfl (.cons rfl (.cons rfl (.cons rfl (.cons rfl (.cons rfl (.cons rfl (.cons rfl (.cons rfl (.cons rfl (.cons rfl (.cons rfl (.cons rfl (.cons rfl (.cons rfl (.cons rfl (.nil _)))))))))))))))))) ?_)
        rintro ⟨N71, r62⟩ W66 ⟨⟨H64, st, l65⟩, g82, g70, e67⟩
        replace g82 : 0 ≤ r62 := g82
        replace g70 : N71 = (r6 - r62).toNat := g70
        replace e67 : m86_l2 a0 r6 N71 r62 = m86_l2 a0 r6 ((r6 - 0).toNat) 0 := e67
        show CW _ _ _ _ [(1, Value.pointer (some (⟨b1, 0, none⟩ : Addr))), (3, Value.int .i64 r6), (4, Value.pointer (some (⟨b22, 0, none⟩ : Addr))), (26, Value.pointer (some ((⟨b22, 0, none⟩ : Addr).add 1))), (27, Value.string ((lg a0.parents.l r6).name)), (28, Value.bool (m138 ((lg a0.parents.l r6).name))), (29, Value.bool (!(m138 ((lg a0.parents.l r6).name)))), (32, Value.pointer (some ((⟨b22, 0, none⟩ : Addr).add 2))), (33, Value.string ((lg a0.parents.l r6).sect)), (34, Value.bool (m142 ((lg a0.parents.l r6).sect))), (35, Value.bool (!(m142 ((lg a0.parents.l r6).sect)))), (38, Value.pointer (some ((⟨b22, 0, none⟩ : Addr).add 3))), (39, Value.int .i64 ((lg a0.parents.l r6).port)), (40, Value.bool (!decide (((lg a0.parents.l r6).port) = 0))), (41, Value.bool false), (46, Value.bool false), (5, Value.int .i64 r62)] _
        refine CW.seq (CW.seq (CW.reg (WL.mv rfl (WL.mv rfl (WL.pv (Pu.ilt rfl rfl) (WL.nt ?_))))))
        refine CW.condP 50 rfl dT dF (fun h72 => ?_) (fun h72 => ?_)
        ·obtain ⟨n63, rfl⟩ : ∃ k, N71 = k + 1 := ⟨N71 - 1, by omega⟩
         refine CW.skip (QX.thenN ?_)
         refine CW.seq ?_
         refine CW.blk ?_
         refine CW.seq ?_
         refine CW.regS (C := Cl w H64 []) (tail := []) (S := Grew w H H64 []) mixed (fun W' h1 h2 h3 h4 => grew_start st h1 h2 h3 h4) (n := 7) rfl ?_
         refine WS.pk 0 rfl gg (fun W hC => Pu.fa rfl fo32_6) ?_
         refine WS.pk 1 rfl gg (fun W hC => Pu.load rfl ty27 (((f5.le ((l9.trans l26).trans l65)).drop 8).w hC.1) rfl) ?_
         refine WS.pk 2 rfl gg (fun W hC => Pu.move rfl) ?_
         have y73 := lg_get (l := a0.parents.l) (i := r62) (by omega) (by omega)
         have k76 : Parent.Ok 1048576 H64 (lg a0.parents.l r62) := ((k0p.parents.le (((l4.trans l9).trans l26).trans l65)).get _ _ y73).2
         obtain ⟨ad74, qa77, f75⟩ := ((k0p.parents.le (((l4.trans l9).trans l26).trans l65)).get _ _ y73).1
         refine WS.pk 3 rfl gg (fun W hC => Pu.idx0 rfl rfl sl27 (by first|omega|simp<;>omega) (by first|omega|simp<;>omega) qa77) ?_
         refine WS.pk 4 rfl gg (fun W hC => Pu.load (v := Parent.v (lg a0.parents.l r62)) rfl ty99 (f75.w hC.1) rfl) ?_
         refine WS.pk 5 rfl gg (fun W hC => Pu.load (v := Parent.v (lg a0.parents.l r6)) rfl ty99 ((f27.le l65).w hC.1) rfl) ?_
         refine WS.pk 6 rfl gg (fun W hC => Pu.bin rfl rfl (eqg99 _ (lg a0.parents.l r62) (lg a0.parents.l r6)) (eq99 (lg a0.parents.l r62) (lg a0.parents.l r6))) ?_
         refine WS.fin (by kernel_rfl) (fun W80 H78 st l79 => ?_)
         refine QX.thenN ?_
         refine CW.condP 59 rfl dT dF (fun h81 => ?_) (fun h81 => ?_)
         ·refine CW.seq (CW.reg (WL.as rfl (WL.nt ?_)))
          refine CW.ret (QX.blkR (QX.thenR (QX.thenR (QX.blkR (QX.thenR (QX.blkR (QX.thenR (QX.thenR (QX.blkR (QX.thenR (QX.thenR (finA Tryz.results86 st (.tmp rfl .nil) ?_))))))))))))
          exact vb (lk_inl ((Eq.symm e11).trans ((if_pos h29).trans ((if_pos h31).trans ((if_pos h33).trans ((if_pos h34).trans (lkR_inl ((Eq.symm e67).trans (if_pos h81)))))))))
         ·refine CW.skip (QX.blkN (QX.thenN ?_))
          refine CW.reg (WL.mv rfl (WL.pv (Pu.iadd rfl rfl (c := r62 + 1) (w64 (by omega) (by omega))) (WL.as rfl ?_)))
          refine WL.nil (QX.round ⟨n63, r62 + 1⟩ ?_ (Nat.lt_succ_self _) (.cons rfl (.cons rfl (.cons rfl (.cons rfl (.cons rfl (.cons rfl (.cons rfl (.cons rfl (.cons rfl (.cons rfl (.cons rfl (.cons rfl (.cons rfl (.cons rfl (.cons rfl (.cons rfl (.cons rfl (.nil _)))))))))))))))))))
          exact ⟨⟨_, st, (l65.trans l79)⟩, (by first|omega|simp<;>omega), (by first|omega|simp<;>omega), Eq.symm ((Eq.symm e67).trans (if_neg h81))⟩
        ·obtain rfl : N71 = 0 := by omega
         refine CW.exit (QX.thenE (QX.thenE (QX.hit (QX.meets () ?_ (.cons rfl (.cons rfl (.cons rfl (.cons rfl (.cons rfl (.cons rfl (.cons rfl (.cons rfl (.cons rfl (.cons rfl (.cons rfl (.cons rfl (.cons rfl (.cons rfl (.cons rfl (.nil _))))))))))))))))))))
         exact ⟨⟨_, st, l65⟩, Eq.symm e67⟩
       rintro _ W85 ⟨⟨H83, st, l84⟩, e86⟩
       show QX _ _ _ [(1, Value.pointer (some (⟨b1, 0, none⟩ : Addr))), (3, Value.int .i64 r6), (26, Value.pointer (some ((⟨b22, 0, none⟩ : Addr).add 1))), (27, Value.string ((lg a0.parents.l r6).name)), (28, Value.bool (m138 ((lg a0.parents.l r6).name))), (29, Value.bool (!(m138 ((lg a0.parents.l r6).name)))), (32, Value.pointer (some ((⟨b22, 0, none⟩ : Addr).add 2))), (33, Value.string ((lg a0.parents.l r6).sect)), (34, Value.bool (m142 ((lg a0.parents.l r6).sect))), (35, Value.bool (!(m142 ((lg a0.parents.l r6).sect)))), (38, Value.pointer (some ((⟨b22, 0, none⟩ : Addr).add 3))), (39, Value.int .i64 ((lg a0.parents.l r6).port)), (40, Value.bool (!decide (((lg a0.parents.l r6).port) = 0))), (41, Value.bool false), (46, Value.bool false)] _
       refine QX.blkN (QX.thenN ?_)
       refine CW.reg (WL.mv rfl (WL.pv (Pu.iadd rfl rfl (c := r6 + 1) (w64 (by omega) (by omega))) (WL.as rfl ?_)))
       refine WL.nil (QX.round ⟨n7, r6 + 1⟩ ?_ (Nat.lt_succ_self _) (.cons rfl (.cons rfl (.nil _))))
       exact ⟨⟨_, st, ((l9.trans l26).trans l84)⟩, (by first|omega|simp<;>omega), (by first|omega|simp<;>omega), (by first|omega|simp<;>omega), Eq.symm ((Eq.symm e11).trans ((if_pos h29).trans ((if_pos h31).trans ((if_pos h33).trans ((if_pos h34).trans (lkR_inr e86))))))⟩
  ·obtain rfl : N15 = 0 := by omega
   refine CW.exit (QX.thenE (QX.thenE (QX.hit (QX.meets () ?_ (.cons rfl (.nil _))))))
   exact ⟨⟨_, st, l9⟩, Eq.symm e11⟩
 rintro _ W91 ⟨⟨H89, st, l90⟩, e92⟩
 show QX _ _ _ [(1, Value.pointer (some (⟨b1, 0, none⟩ : Addr)))] _
 refine QX.thenN (CW.seq (CW.seq (CW.reg (WL.as rfl (WL.nt ?_)))))
 refine (CW.cuts (fun (s : Unit) W => (∃ H', St w W H H' [] ∧ Le H89 H') ∧ m86_l3 a0 (((a0.hosts.l.length : Int) - 0).toNat) 0 = .inr ()) (fun (s : Unit) => [(1, Value.pointer (some (⟨b1, 0, none⟩ : Addr)))]) ?_ ?_)
 ·refine CW.blk (CW.loop (fun (s : Nat × Int) W => (∃ H', St w W H H' [] ∧ Le H89 H') ∧ 0 ≤ s.2 ∧ s.2 ≤ (a0.hosts.l.length : Int) ∧ s.1 = ((a0.hosts.l.length : Int) - s.2).toNat ∧ m86_l3 a0 s.1 s.2 = m86_l3 a0 (((a0.hosts.l.length : Int) - 0).toNat) 0) (fun (s : Nat × Int) => [(1, Value.pointer (some (⟨b1, 0, none⟩ : Addr))), (6, Value.int .i64 s.2)]) (fun s => s.1) ⟨((a0.hosts.l.length : Int) - 0).toNat, 0⟩ ⟨⟨_, st, Le.refl _⟩, (by first|omega|simp<;>omega), (by first|omega|simp<;>omega), rfl, rfl⟩ (.cons rfl (.cons rfl (.nil _))) ?_)
  rintro ⟨N102, r93⟩ W97 ⟨⟨H95, st, l96⟩, g147, g148, g101, e98⟩
  replace g147 : 0 ≤ r93 := g147
  replace g148 : r93 ≤ (a0.hosts.l.length : Int) := g148
  replace g101 : N102 = ((a0.hosts.l.length : Int) - r93).toNat := g101
  replace e98 : m86_l3 a0 N102 r93 = m86_l3 a0 (((a0.hosts.l.length : Int) - 0).toNat) 0 := e98
  show CW _ _ _ _ [(1, Value.pointer (some (⟨b1, 0, none⟩ : Addr))), (6, Value.int .i64 r93)] _
  refine CW.seq (CW.seq (CW.reg (WL.mv rfl (WL.pv (Pu.fa rfl fo32_7) (WL.pv (Pu.load rfl ty28 (((f5.le (l90.trans l96)).drop 9).w st.sub) rfl) ?_)))))
  have z103 : a0.hosts.l.length ≤ 1048576 := (k0p.hosts.le ((l4.trans l90).trans l96)).top
  refine WL.pv (Pu.lens (n := a0.hosts.l.length) rfl sl28) (WL.pv (Pu.ilt rfl rfl) (WL.nt ?_))
  refine CW.condP 64 rfl dT dF (fun h104 => ?_) (fun h104 => ?_)
  ·obtain ⟨n94, rfl⟩ : ∃ k, N102 = k + 1 := ⟨N102 - 1, by omega⟩
   refine CW.skip (QX.thenN ?_)
   refine CW.seq ?_
   refine CW.blk ?_
   refine CW.seq (CW.seq (CW.reg (WL.pv (Pu.fa rfl fo32_7) (WL.pv (Pu.load rfl ty28 (((f5.le (l90.trans l96)).drop 9).w st.sub) rfl) (WL.mv rfl ?_)))))
   have y105 := lg_get (l := a0.hosts.l) (i := r93) (by omega) (by omega)
   have k108 : (lg a0.hosts.l r93).size < 1048576 := ((k0p.hosts.le ((l4.trans l90).trans l96)).get _ _ y105).2
   refine WL.idx (s := a0.hosts) rfl rfl rfl rfl sl28 (k0p.hosts.le ((l4.trans l90).trans l96)) (by omega) y105 ?_
   intro ad106 f107
   refine WL.pv (Pu.load rfl ty9 (f107.w st.sub) rfl) (WL.pv (Pu.seq rfl rfl) (WL.mv rfl ?_))
   refine WL.splitP 73 rfl dT dF (fun h109 => ?_) (fun h109 => ?_)
   ·refine WL.of (WL.of (WL.of (WL.of (WL.of (WL.of (WL.of (WL.pv (Pu.pickT rfl rfl) (WL.nt ?_))))))))
    refine CW.condT rfl ?_
    refine CW.seq (CW.reg (WL.as rfl (WL.nt ?_)))
    refine CW.ret (QX.thenR (QX.blkR (QX.thenR (QX.thenR (QX.blkR (QX.thenR (QX.thenR (finA Tryz.results86 st (.tmp rfl .nil) ?_))))))))
    exact vb ((lk_inr e92).trans (lk_inl ((Eq.symm e98).trans (if_pos h109))))
   ·have z110 := size_ne h109
    refine WL.pv (Pu.fa rfl fo32_7) (WL.pv (Pu.load rfl ty28 (((f5.le (l90.trans l96)).drop 9).w st.sub) rfl) (WL.mv rfl ?_))
    have y111 := lg_get (l := a0.hosts.l) (i := r93) (by omega) (by omega)
    have k114 : (lg a0.hosts.l r93).size < 1048576 := ((k0p.hosts.le ((l4.trans l90).trans l96)).get _ _ y111).2
    refine WL.idx (s := a0.hosts) rfl rfl rfl rfl sl28 (k0p.hosts.le ((l4.trans l90).trans l96)) (by omega) y111 ?_
    intro ad112 f113
    refine WL.pv (Pu.load rfl ty9 (f113.w st.sub) rfl) ?_
    refine WL.callv rfl rfl en119 rfl rfl st (c119 (lg a0.hosts.l r93) st.sub k114) ?_
    intro W115 st
    refine WL.pv (Pu.notb rfl) (WL.pv (Pu.pickF rfl rfl) (WL.nt ?_))
    refine CW.condP 81 rfl mT mF (fun h116 => ?_) (fun h116 => ?_)
    ·refine CW.seq (CW.reg (WL.as rfl (WL.nt ?_)))
     refine CW.ret (QX.thenR (QX.blkR (QX.thenR (QX.thenR (QX.blkR (QX.thenR (QX.thenR (finA Tryz.results86 st (.tmp rfl .nil) ?_))))))))
     exact vb ((lk_inr e92).trans (lk_inl ((Eq.symm e98).trans ((if_neg h109).trans (if_neg h116)))))
    ·refine CW.skip (QX.thenN ?_)
     refine CW.seq (CW.reg (WL.as rfl (WL.nt ?_)))
     refine (CW.cuts (fun (s : Unit) W => (∃ H', St w W H H' [] ∧ Le H95 H') ∧ m86_l4 a0 r93 ((r93 - 0).toNat) 0 = .inr ()) (fun (s : Unit) => [(1, Value.pointer (some (⟨b1, 0, none⟩ : Addr))), (6, Value.int .i64 r93), (74, Value.pointer (some ((⟨b1, 0, none⟩ : Addr).add 9))), (75, a0.hosts.v), (76, Value.int .i64 r93), (77, Value.pointer (some ad112)), (78, Value.string (lg a0.hosts.l r93)), (79, Value.bool (m119 (lg a0.hosts.l r93))), (80, Value.bool (!(m119 (lg a0.hosts.l r93))))]) ?_ ?_)
     ·refine CW.blk (CW.loop (fun (s : Nat × Int) W => (∃ H', St w W H H' [] ∧ Le H95 H') ∧ 0 ≤ s.2 ∧ s.1 = (r93 - s.2).toNat ∧ m86_l4 a0 r93 s.1 s.2 = m86_l4 a0 r93 ((r93 - 0).toNat) 0) (fun (s : Nat × Int) => [(1, Value.pointer (some (⟨b1, 0, none⟩ : Addr))), (6, Value.int .i64 r93), (74, Value.pointer (some ((⟨b1, 0, none⟩ : Addr).add 9))), (75, a0.hosts.v), (76, Value.int .i64 r93), (77, Value.pointer (some ad112)), (78, Value.string (lg a0.hosts.l r93)), (79, Value.bool (m119 (lg a0.hosts.l r93))), (80, Value.bool (!(m119 (lg a0.hosts.l r93)))), (7, Value.int .i64 s.2)]) (fun s => s.1) ⟨(r93 - 0).toNat, 0⟩ ⟨⟨_, st, Le.refl _⟩, (by first|omega|simp<;>omega), rfl, rfl⟩ (.cons rfl (.cons rfl (.cons rfl (.cons rfl (.cons rfl (.cons rfl (.cons rfl (.cons rfl (.cons rfl (.cons rfl (.nil _))))))))))) ?_)
      rintro ⟨N126, r117⟩ W121 ⟨⟨H119, st, l120⟩, g142, g125, e122⟩
      replace g142 : 0 ≤ r117 := g142
      replace g125 : N126 = (r93 - r117).toNat := g125
      replace e122 : m86_l4 a0 r93 N126 r117 = m86_l4 a0 r93 ((r93 - 0).toNat) 0 := e122
      show CW _ _ _ _ [(1, Value.pointer (some (⟨b1, 0, none⟩ : Addr))), (6, Value.int .i64 r93), (74, Value.pointer (some ((⟨b1, 0, none⟩ : Addr).add 9))), (75, a0.hosts.v), (76, Value.int .i64 r93), (77, Value.pointer (some ad112)), (78, Value.string (lg a0.hosts.l r93)), (79, Value.bool (m119 (lg a0.hosts.l r93))), (80, Value.bool (!(m119 (lg a0.hosts.l r93)))), (7, Value.int .i64 r117)] _
      refine CW.seq (CW.seq (CW.reg (WL.mv rfl (WL.mv rfl (WL.pv (Pu.ilt rfl rfl) (WL.nt ?_))))))
      refine CW.condP 84 rfl dT dF (fun h127 => ?_) (fun h127 => ?_)
      ·obtain ⟨n118, rfl⟩ : ∃ k, N126 = k + 1 := ⟨N126 - 1, by omega⟩
       refine CW.skip (QX.thenN ?_)
       refine CW.seq ?_
       refine CW.blk ?_
       refine CW.seq ?_
       refine CW.regS (C := Cl w H119 []) (tail := []) (S := Grew w H H119 []) mixed (fun W' h1 h2 h3 h4 => grew_start st h1 h2 h3 h4) (n := 11) rfl ?_
       refine WS.pk 0 rfl gg (fun W hC => Pu.fa rfl fo32_7) ?_
       refine WS.pk 1 rfl gg (fun W hC => Pu.load rfl ty28 (((f5.le ((l90.trans l96).trans l120)).drop 9).w hC.1) rfl) ?_
       refine WS.pk 2 rfl gg (fun W hC => Pu.move rfl) ?_
       have y128 := lg_get (l := a0.hosts.l) (i := r117) (by omega) (by omega)
       have k131 : (lg a0.hosts.l r117).size < 1048576 := ((k0p.hosts.le (((l4.trans l90).trans l96).trans l120)).get _ _ y128).2
       obtain ⟨ad129, qa132, f130⟩ := ((k0p.hosts.le (((l4.trans l90).trans l96).trans l120)).get _ _ y128).1
       refine WS.pk 3 rfl gg (fun W hC => Pu.idx0 rfl rfl sl28 (by first|omega|simp<;>omega) (by first|omega|simp<;>omega) qa132) ?_
       refine WS.pk 4 rfl gg (fun W hC => Pu.load rfl ty9 (f130.w hC.1) rfl) ?_
       refine WS.pk 5 rfl gg (fun W hC => Pu.fa rfl fo32_7) ?_
       refine WS.pk 6 rfl gg (fun W hC => Pu.load rfl ty28 (((f5.le ((l90.trans l96).trans l120)).drop 9).w hC.1) rfl) ?_
       refine WS.pk 7 rfl gg (fun W hC => Pu.move rfl) ?_
       have y133 := lg_get (l := a0.hosts.l) (i := r93) (by omega) (by omega)
       have k136 : (lg a0.hosts.l r93).size < 1048576 := ((k0p.hosts.le (((l4.trans l90).trans l96).trans l120)).get _ _ y133).2
       obtain ⟨ad134, qa137, f135⟩ := ((k0p.hosts.le (((l4.trans l90).trans l96).trans l120)).get _ _ y133).1
       refine WS.pk 8 rfl gg (fun W hC => Pu.idx0 rfl rfl sl28 (by first|omega|simp<;>omega) (by first|omega|simp<;>omega) qa137) ?_
       refine WS.pk 9 rfl gg (fun W hC => Pu.load rfl ty9 (f135.w hC.1) rfl) ?_
       refine WS.pk 10 rfl gg (fun W hC => Pu.seq rfl rfl) ?_
       refine WS.fin (by kernel_rfl) (fun W140 H138 st l139 => ?_)
       refine QX.thenN ?_
       refine CW.condP 97 rfl dT dF (fun h141 => ?_) (fun h141 => ?_)
       ·refine CW.seq (CW.reg (WL.as rfl (WL.nt ?_)))
        refine CW.ret (QX.blkR (QX.thenR (QX.thenR (QX.blkR (QX.thenR (QX.blkR (QX.thenR (QX.thenR (QX.blkR (QX.thenR (QX.thenR (finA Tryz.results86 st (.tmp rfl .nil) ?_))))))))))))
        exact vb ((lk_inr e92).trans (lk_inl ((Eq.symm e98).trans ((if_neg h109).trans ((if_pos h116).trans (lkR_inl ((Eq.symm e122).trans (if_pos h141))))))))
       ·refine CW.skip (QX.blkN (QX.thenN ?_))
        refine CW.reg (WL.mv rfl (WL.pv (Pu.iadd rfl rfl (c := r117 + 1) (w64 (by omega) (by omega))) (WL.as rfl ?_)))
        refine WL.nil (QX.round ⟨n118, r117 + 1⟩ ?_ (Nat.lt_succ_self _) (.cons rfl (.cons rfl (.cons rfl (.cons rfl (.cons rfl (.cons rfl (.cons rfl (.cons rfl (.cons rfl (.cons rfl (.nil _))))))))))))
        exact ⟨⟨_, st, (l120.trans l139)⟩, (by first|omega|simp<;>omega), (by first|omega|simp<;>omega), Eq.symm ((Eq.symm e122).trans (if_neg h141))⟩
      ·obtain rfl : N126 = 0 := by omega
       refine CW.exit (QX.thenE (QX.thenE (QX.hit (QX.meets () ?_ (.cons rfl (.cons rfl (.cons rfl (.cons rfl (.cons rfl (.cons rfl (.cons rfl (.cons rfl (.cons rfl (.nil _))))))))))))))
       exact ⟨⟨_, st, l120⟩, Eq.symm e122⟩
     rintro _ W145 ⟨⟨H143, st, l144⟩, e146⟩
     show QX _ _ _ [(1, Value.pointer (some (⟨b1, 0, none⟩ : Addr))), (6, Value.int .i64 r93), (74, Value.pointer (some ((⟨b1, 0, none⟩ : Addr).add 9))), (75, a0.hosts.v), (76, Value.int .i64 r93), (77, Value.pointer (some ad112)), (78, Value.string (lg a0.hosts.l r93)), (79, Value.bool (m119 (lg a0.hosts.l r93))), (80, Value.bool (!(m119 (lg a0.hosts.l r93))))] _
     refine QX.blkN (QX.thenN ?_)
     refine CW.reg (WL.mv rfl (WL.pv (Pu.iadd rfl rfl (c := r93 + 1) (w64 (by omega) (by omega))) (WL.as rfl ?_)))
     refine WL.nil (QX.round ⟨n94, r93 + 1⟩ ?_ (Nat.lt_succ_self _) (.cons rfl (.cons rfl (.nil _))))
     exact ⟨⟨_, st, (l96.trans l144)⟩, (by first|omega|simp<;>omega), (by first|omega|simp<;>omega), (by first|omega|simp<;>omega), Eq.symm ((Eq.symm e98).trans ((if_neg h109).trans ((if_pos h116).trans (lkR_inr e146))))⟩
  ·obtain rfl : N102 = 0 := by omega
   refine CW.exit (QX.thenE (QX.thenE (QX.hit (QX.meets () ?_ (.cons rfl (.nil _))))))
   exact ⟨⟨_, st, l96⟩, Eq.symm e98⟩
 rintro _ W151 ⟨⟨H149, st, l150⟩, e152⟩
 show QX _ _ _ [(1, Value.pointer (some (⟨b1, 0, none⟩ : Addr)))] _
 refine QX.thenN (CW.seq (CW.seq (CW.reg (WL.as rfl (WL.nt ?_)))))
 refine (CW.cuts (fun (s : Unit) W => (∃ H', St w W H H' [] ∧ Le H149 H') ∧ m86_l5 a0 (((a0.rules.l.length : Int) - 0).toNat) 0 = .inr ()) (fun (s : Unit) => [(1, Value.pointer (some (⟨b1, 0, none⟩ : Addr)))]) ?_ ?_)
 ·refine CW.blk (CW.loop (fun (s : Nat × Int) W => (∃ H', St w W H H' [] ∧ Le H149 H') ∧ 0 ≤ s.2 ∧ s.2 ≤ (a0.rules.l.length : Int) ∧ s.1 = ((a0.rules.l.length : Int) - s.2).toNat ∧ m86_l5 a0 s.1 s.2 = m86_l5 a0 (((a0.rules.l.length : Int) - 0).toNat) 0) (fun (s : Nat × Int) => [(1, Value.pointer (some (⟨b1, 0, none⟩ : Addr))), (8, Value.int .i64 s.2)]) (fun s => s.1) ⟨((a0.rules.l.length : Int) - 0).toNat, 0⟩ ⟨⟨_, st, Le.refl _⟩, (by first|omega|simp<;>omega), (by first|omega|simp<;>omega), rfl, rfl⟩ (.cons rfl (.cons rfl (.nil _))) ?_)
  rintro ⟨N162, r153⟩ W157 ⟨⟨H155, st, l156⟩, g171, g172, g161, e158⟩
  replace g171 : 0 ≤ r153 := g171
  replace g172 : r153 ≤ (a0.rules.l.length : Int) := g172
  replace g161 : N162 = ((a0.rules.l.length : Int) - r153).toNat := g161
  replace e158 : m86_l5 a0 N162 r153 = m86_l5 a0 (((a0.rules.l.length : Int) - 0).toNat) 0 := e158
  show CW _ _ _ _ [(1, Value.pointer (some (⟨b1, 0, none⟩ : Addr))), (8, Value.int .i64 r153)] _
  refine CW.seq (CW.seq (CW.reg (WL.mv rfl (WL.pv (Pu.fa rfl fo32_8) (WL.pv (Pu.load rfl ty29 (((f5.le ((l90.trans l150).trans l156)).drop 10).w st.sub) rfl) ?_)))))
  have z163 : a0.rules.l.length ≤ 1048576 := (k0p.rules.le (((l4.trans l90).trans l150).trans l156)).top
  refine WL.pv (Pu.lens (n := a0.rules.l.length) rfl sl29) (WL.pv (Pu.ilt rfl rfl) (WL.nt ?_))
  refine CW.condP 102 rfl dT dF (fun h164 => ?_) (fun h164 => ?_)
  ·obtain ⟨n154, rfl⟩ : ∃ k, N162 = k + 1 := ⟨N162 - 1, by omega⟩
   refine CW.skip (QX.thenN ?_)
   refine CW.seq ?_
   refine CW.blk ?_
   refine CW.seq (CW.reg (WL.pv (Pu.fa rfl fo32_8) (WL.pv (Pu.load rfl ty29 (((f5.le ((l90.trans l150).trans l156)).drop 10).w st.sub) rfl) (WL.mv rfl ?_))))
   have y165 := lg_get (l := a0.rules.l) (i := r153) (by omega) (by omega)
   have k168 : Rule.Ok 1048576 H155 (lg a0.rules.l r153) := ((k0p.rules.le (((l4.trans l90).trans l150).trans l156)).get _ _ y165).2
   refine WL.idx (s := a0.rules) rfl rfl rfl rfl sl29 (k0p.rules.le (((l4.trans l90).trans l150).trans l156)) (by omega) y165 ?_
   intro ad166 f167
   refine WL.pv (Pu.load (v := Rule.v (lg a0.rules.l r153)) rfl ty66 (f167.w st.sub) rfl) ?_
   refine WL.callv rfl rfl en143 rfl rfl st (c143 (lg a0.rules.l r153) st.sub k168) ?_
   intro W169 st
   refine WL.pv (Pu.notb rfl) (WL.nt ?_)
   refine CW.condP 111 rfl mT mF (fun h170 => ?_) (fun h170 => ?_)
   ·refine CW.seq (CW.reg (WL.as rfl (WL.nt ?_)))
    refine CW.ret (QX.blkR (QX.thenR (QX.thenR (QX.blkR (QX.thenR (QX.thenR (finA Tryz.results86 st (.tmp rfl .nil) ?_)))))))
    exact vb ((lk_inr e92).trans ((lk_inr e152).trans (lk_inl ((Eq.symm e158).trans (if_neg h170)))))
   ·refine CW.skip (QX.blkN (QX.thenN ?_))
    refine CW.reg (WL.mv rfl (WL.pv (Pu.iadd rfl rfl (c := r153 + 1) (w64 (by omega) (by omega))) (WL.as rfl ?_)))
    refine WL.nil (QX.round ⟨n154, r153 + 1⟩ ?_ (Nat.lt_succ_self _) (.cons rfl (.cons rfl (.nil _))))
    exact ⟨⟨_, st, l156⟩, (by first|omega|simp<;>omega), (by first|omega|simp<;>omega), (by first|omega|simp<;>omega), Eq.symm ((Eq.symm e158).trans (if_pos h170))⟩
  ·obtain rfl : N162 = 0 := by omega
   refine CW.exit (QX.thenE (QX.thenE (QX.hit (QX.meets () ?_ (.cons rfl (.nil _))))))
   exact ⟨⟨_, st, l156⟩, Eq.symm e158⟩
 rintro _ W175 ⟨⟨H173, st, l174⟩, e176⟩
 show QX _ _ _ [(1, Value.pointer (some (⟨b1, 0, none⟩ : Addr)))] _
 refine QX.thenN (CW.seq (CW.reg (WL.pv (Pu.fa rfl fo32_6) (WL.pv (Pu.load rfl ty27 (((f5.le ((l90.trans l150).trans l174)).drop 8).w st.sub) rfl) ?_))))
 have z177 : a0.parents.l.length ≤ 1048576 := (k0p.parents.le (((l4.trans l90).trans l150).trans l174)).top
 refine WL.pv (Pu.lens (n := a0.parents.l.length) rfl sl27) (WL.pv (Pu.ile rfl rfl) (WL.mv rfl ?_))
 refine WL.splitP 116 rfl dT dF (fun h178 => ?_) (fun h178 => ?_)
 ·refine WL.pv (Pu.fa rfl fo32_7) (WL.pv (Pu.load rfl ty28 (((f5.le ((l90.trans l150).trans l174)).drop 9).w st.sub) rfl) ?_)
  have z179 : a0.hosts.l.length ≤ 1048576 := (k0p.hosts.le (((l4.trans l90).trans l150).trans l174)).top
  refine WL.pv (Pu.lens (n := a0.hosts.l.length) rfl sl28) (WL.pv (Pu.ile rfl rfl) (WL.pv (Pu.pickT rfl rfl) (WL.mv rfl ?_)))
  refine WL.splitP 122 rfl dT dF (fun h180 => ?_) (fun h180 => ?_)
  ·refine WL.pv (Pu.fa rfl fo32_8) (WL.pv (Pu.load rfl ty29 (((f5.le ((l90.trans l150).trans l174)).drop 10).w st.sub) rfl) ?_)
   have z181 : a0.rules.l.length ≤ 1048576 := (k0p.rules.le (((l4.trans l90).trans l150).trans l174)).top
   refine WL.pv (Pu.lens (n := a0.rules.l.length) rfl sl29) (WL.pv (Pu.ile rfl rfl) (WL.pv (Pu.pickT rfl rfl) (WL.as rfl (WL.nt ?_))))
   refine CW.ret (finA Tryz.results86 st (.tmp rfl .nil) ?_)
   exact vb ((lk_inr e92).trans ((lk_inr e152).trans ((lk_inr e176).trans ((if_pos h178).trans (if_pos h180)))))
  ·refine WL.of (WL.of (WL.of (WL.of (WL.pv (Pu.pickF rfl rfl) (WL.as rfl (WL.nt ?_))))))
   refine CW.ret (finA Tryz.results86 st (.tmp rfl .nil) ?_)
   exact vb ((lk_inr e92).trans ((lk_inr e152).trans ((lk_inr e176).trans ((if_pos h178).trans (if_neg h180)))))
 ·refine WL.of (WL.of (WL.of (WL.of (WL.pv (Pu.pickF rfl rfl) (WL.mv rfl (WL.of (WL.of (WL.of (WL.of ?_)))))))))
  refine WL.pv (Pu.pickF rfl rfl) (WL.as rfl (WL.nt ?_))
  refine CW.ret (finA Tryz.results86 st (.tmp rfl .nil) ?_)
  exact vb ((lk_inr e92).trans ((lk_inr e152).trans ((lk_inr e176).trans (if_neg h178))))
/-! toll tollref09.grant -/
def m87_l0 (a0 : Object) : Nat → Int → (Bool ⊕ Unit)
 | 0, _ => .inr ()
 | n7 + 1, r6 => if (m144 ((lg a0.frm.l r6).kind)) = true then (if (m139 ((lg a0.frm.l r6).space)) = true then (if (lg a0.frm.l r6).name = (⟨#[]⟩ : ByteArray) then (m87_l0 a0 n7 (r6 + 1)) else .inl false) else .inl false) else .inl false
def m87_l1 (a0 : Object) : Nat → Int → (Bool ⊕ Unit)
 | 0, _ => .inr ()
 | n43 + 1, r42 => if (m144 ((lg a0.to.l r42).kind)) = true then (if (lg a0.to.l r42).space = (⟨#[]⟩ : ByteArray) then (if (lg a0.to.l r42).name = (⟨#[]⟩ : ByteArray) then (m87_l1 a0 n43 (r42 + 1)) else if (m138 ((lg a0.to.l r42).name)) = true then (m87_l1 a0 n43 (r42 + 1)) else .inl false) else .inl false) else .inl false
def m87 (a0 : Object) : Bool :=
 lk2 (m87_l0 a0 (((a0.frm.l.length : Int) - 0).toNat) 0) (fun _ => lk2 (m87_l1 a0 (((a0.to.l.length : Int) - 0).toNat) 0) (fun _ => if (1 : Int) ≤ (a0.frm.l.length : Int) then (if (a0.frm.l.length : Int) ≤ 4 then (if (1 : Int) ≤ (a0.to.l.length : Int) then (decide ((a0.to.l.length : Int) ≤ 4)) else false) else false) else false))
theorem c87 (a0 : Object) {w : World} {H : PH} (hs : Sub H w) (k0p : Object.Ok 1048576 H a0) : Spec Tryz.prog 87 [Object.v a0].toArray w H (fun _ v => v = .bool (m87 a0)) := by
 refine Spec.enter Tryz.func87 rfl Tryz.ntmps87 rfl ?_
 have st := St.start hs
 refine CW.seq (CW.reg ?_)
 refine WL.box rfl rfl rfl rfl st ?_
 intro b1 W2 H3 st l4 f5
 refine WL.as rfl (WL.nt (CW.seq (CW.seq (CW.reg (WL.as rfl (WL.nt ?_))))))
 refine (CW.cuts (fun (s : Unit) W => (∃ H', St w W H H' [] ∧ Le H3 H') ∧ m87_l0 a0 (((a0.frm.l.length : Int) - 0).toNat) 0 = .inr ()) (fun (s : Unit) => [(1, Value.pointer (some (⟨b1, 0, none⟩ : Addr)))]) ?_ ?_)
 ·refine CW.blk (CW.loop (fun (s : Nat × Int) W => (∃ H', St w W H H' [] ∧ Le H3 H') ∧ 0 ≤ s.2 ∧ s.2 ≤ (a0.frm.l.length : Int) ∧ s.1 = ((a0.frm.l.length : Int) - s.2).toNat ∧ m87_l0 a0 s.1 s.2 = m87_l0 a0 (((a0.frm.l.length : Int) - 0).toNat) 0) (fun (s : Nat × Int) => [(1, Value.pointer (some (⟨b1, 0, none⟩ : Addr))), (3, Value.int .i64 s.2)]) (fun s => s.1) ⟨((a0.frm.l.length : Int) - 0).toNat, 0⟩ ⟨⟨_, st, Le.refl _⟩, (by first|omega|simp<;>omega), (by first|omega|simp<;>omega), rfl, rfl⟩ (.cons rfl (.cons rfl (.nil _))) ?_)
  rintro ⟨N15, r6⟩ W10 ⟨⟨H8, st, l9⟩, g36, g37, g14, e11⟩
  replace g36 : 0 ≤ r6 := g36
  replace g37 : r6 ≤ (a0.frm.l.length : Int) := g37
  replace g14 : N15 = ((a0.frm.l.length : Int) - r6).toNat := g14
  replace e11 : m87_l0 a0 N15 r6 = m87_l0 a0 (((a0.frm.l.length : Int) - 0).toNat) 0 := e11
  show CW _ _ _ _ [(1, Value.pointer (some (⟨b1, 0, none⟩ : Addr))), (3, Value.int .i64 r6)] _
  refine CW.seq (CW.seq (CW.reg (WL.mv rfl (WL.pv (Pu.fa rfl fo32_9) (WL.pv (Pu.load rfl ty30 (((f5.le l9).drop 11).w st.sub) rfl) ?_)))))
  have z16 : a0.frm.l.length ≤ 1048576 := (k0p.frm.le (l4.trans l9)).top
  refine WL.pv (Pu.lens (n := a0.frm.l.length) rfl sl30) (WL.pv (Pu.ilt rfl rfl) (WL.nt ?_))
  refine CW.condP 9 rfl dT dF (fun h17 => ?_) (fun h17 => ?_)
  ·obtain ⟨n7, rfl⟩ : ∃ k, N15 = k + 1 := ⟨N15 - 1, by omega⟩
   refine CW.skip (QX.thenN ?_)
   refine CW.seq ?_
   refine CW.blk ?_
   refine CW.seq (CW.reg (WL.pv (Pu.fa rfl fo32_9) (WL.pv (Pu.load rfl ty30 (((f5.le l9).drop 11).w st.sub) rfl) (WL.mv rfl ?_))))
   have y18 := lg_get (l := a0.frm.l) (i := r6) (by omega) (by omega)
   have k21 : Side.Ok 1048576 H8 (lg a0.frm.l r6) := ((k0p.frm.le (l4.trans l9)).get _ _ y18).2
   refine WL.idx (s := a0.frm) rfl rfl rfl rfl sl30 (k0p.frm.le (l4.trans l9)) (by omega) y18 ?_
   intro ad19 f20
   refine WL.pv (Pu.fa rfl fo41_0) (WL.pv (Pu.load rfl ty3 ((f20.drop 0).w st.sub) rfl) ?_)
   refine WL.callv rfl rfl en144 rfl rfl st (c144 ((lg a0.frm.l r6).kind) st.sub ) ?_
   intro W22 st
   refine WL.pv (Pu.notb rfl) (WL.mv rfl ?_)
   refine WL.splitP 20 rfl mT mF (fun h23 => ?_) (fun h23 => ?_)
   ·refine WL.of (WL.of (WL.of (WL.of (WL.of (WL.of (WL.of (WL.of (WL.pv (Pu.pickT rfl rfl) (WL.mv rfl ?_)))))))))
    refine WL.of (WL.of (WL.of (WL.of (WL.of (WL.of (WL.of (WL.pv (Pu.pickT rfl rfl) (WL.nt ?_))))))))
    refine CW.condT rfl ?_
    refine CW.seq (CW.reg (WL.as rfl (WL.nt ?_)))
    refine CW.ret (QX.blkR (QX.thenR (QX.thenR (QX.blkR (QX.thenR (QX.thenR (finA Tryz.results87 st (.tmp rfl .nil) ?_)))))))
    exact vb (lk_inl ((Eq.symm e11).trans (if_neg h23)))
   ·refine WL.pv (Pu.fa rfl fo32_9) (WL.pv (Pu.load rfl ty30 (((f5.le l9).drop 11).w st.sub) rfl) (WL.mv rfl ?_))
    have y24 := lg_get (l := a0.frm.l) (i := r6) (by omega) (by omega)
    have k27 : Side.Ok 1048576 H8 (lg a0.frm.l r6) := ((k0p.frm.le (l4.trans l9)).get _ _ y24).2
    refine WL.idx (s := a0.frm) rfl rfl rfl rfl sl30 (k0p.frm.le (l4.trans l9)) (by omega) y24 ?_
    intro ad25 f26
    refine WL.pv (Pu.fa rfl fo41_1) (WL.pv (Pu.load rfl ty9 ((f26.drop 1).w st.sub) rfl) ?_)
    refine WL.callv rfl rfl en139 rfl rfl st (c139 ((lg a0.frm.l r6).space) st.sub k27.space) ?_
    intro W28 st
    refine WL.pv (Pu.notb rfl) (WL.pv (Pu.pickF rfl rfl) (WL.mv rfl ?_))
    refine WL.splitP 30 rfl mT mF (fun h29 => ?_) (fun h29 => ?_)
    ·refine WL.of (WL.of (WL.of (WL.of (WL.of (WL.of (WL.of (WL.pv (Pu.pickT rfl rfl) (WL.nt ?_))))))))
     refine CW.condT rfl ?_
     refine CW.seq (CW.reg (WL.as rfl (WL.nt ?_)))
     refine CW.ret (QX.blkR (QX.thenR (QX.thenR (QX.blkR (QX.thenR (QX.thenR (finA Tryz.results87 st (.tmp rfl .nil) ?_)))))))
     exact vb (lk_inl ((Eq.symm e11).trans ((if_pos h23).trans (if_neg h29))))
    ·refine WL.pv (Pu.fa rfl fo32_9) (WL.pv (Pu.load rfl ty30 (((f5.le l9).drop 11).w st.sub) rfl) (WL.mv rfl ?_))
     have y30 := lg_get (l := a0.frm.l) (i := r6) (by omega) (by omega)
     have k33 : Side.Ok 1048576 H8 (lg a0.frm.l r6) := ((k0p.frm.le (l4.trans l9)).get _ _ y30).2
     refine WL.idx (s := a0.frm) rfl rfl rfl rfl sl30 (k0p.frm.le (l4.trans l9)) (by omega) y30 ?_
     intro ad31 f32
     refine WL.pv (Pu.fa rfl fo41_2) (WL.pv (Pu.load rfl ty9 ((f32.drop 2).w st.sub) rfl) (WL.pv (Pu.sne rfl rfl) (WL.pv (Pu.pickF rfl rfl) (WL.nt ?_))))
     refine CW.condP 38 rfl nT nF (fun h34 => ?_) (fun h34 => ?_)
     ·have z35 := size_ne h34
      refine CW.seq (CW.reg (WL.as rfl (WL.nt ?_)))
      refine CW.ret (QX.blkR (QX.thenR (QX.thenR (QX.blkR (QX.thenR (QX.thenR (finA Tryz.results87 st (.tmp rfl .nil) ?_)))))))
      exact vb (lk_inl ((Eq.symm e11).trans ((if_pos h23).trans ((if_pos h29).trans (if_neg h34)))))
     ·refine CW.skip (QX.blkN (QX.thenN ?_))
      refine CW.reg (WL.mv rfl (WL.pv (Pu.iadd rfl rfl (c := r6 + 1) (w64 (by omega) (by omega))) (WL.as rfl ?_)))
      refine WL.nil (QX.round ⟨n7, r6 + 1⟩ ?_ (Nat.lt_succ_self _) (.cons rfl (.cons rfl (.nil _))))
      exact ⟨⟨_, st, l9⟩, (by first|omega|simp<;>omega), (by first|omega|simp<;>omega), (by first|omega|simp<;>omega), Eq.symm ((Eq.symm e11).trans ((if_pos h23).trans ((if_pos h29).trans (if_pos h34))))⟩
  ·obtain rfl : N15 = 0 := by omega
   refine CW.exit (QX.thenE (QX.thenE (QX.hit (QX.meets () ?_ (.cons rfl (.nil _))))))
   exact ⟨⟨_, st, l9⟩, Eq.symm e11⟩
 rintro _ W40 ⟨⟨H38, st, l39⟩, e41⟩
 show QX _ _ _ [(1, Value.pointer (some (⟨b1, 0, none⟩ : Addr)))] _
 refine QX.thenN (CW.seq (CW.seq (CW.reg (WL.as rfl (WL.nt ?_)))))
 refine (CW.cuts (fun (s : Unit) W => (∃ H', St w W H H' [] ∧ Le H38 H') ∧ m87_l1 a0 (((a0.to.l.length : Int) - 0).toNat) 0 = .inr ()) (fun (s : Unit) => [(1, Value.pointer (some (⟨b1, 0, none⟩ : Addr)))]) ?_ ?_)
 ·refine CW.blk (CW.loop (fun (s : Nat × Int) W => (∃ H', St w W H H' [] ∧ Le H38 H') ∧ 0 ≤ s.2 ∧ s.2 ≤ (a0.to.l.length : Int) ∧ s.1 = ((a0.to.l.length : Int) - s.2).toNat ∧ m87_l1 a0 s.1 s.2 = m87_l1 a0 (((a0.to.l.length : Int) - 0).toNat) 0) (fun (s : Nat × Int) => [(1, Value.pointer (some (⟨b1, 0, none⟩ : Addr))), (4, Value.int .i64 s.2)]) (fun s => s.1) ⟨((a0.to.l.length : Int) - 0).toNat, 0⟩ ⟨⟨_, st, Le.refl _⟩, (by first|omega|simp<;>omega), (by first|omega|simp<;>omega), rfl, rfl⟩ (.cons rfl (.cons rfl (.nil _))) ?_)
  rintro ⟨N51, r42⟩ W46 ⟨⟨H44, st, l45⟩, g78, g79, g50, e47⟩
  replace g78 : 0 ≤ r42 := g78
  replace g79 : r42 ≤ (a0.to.l.length : Int) := g79
  replace g50 : N51 = ((a0.to.l.length : Int) - r42).toNat := g50
  replace e47 : m87_l1 a0 N51 r42 = m87_l1 a0 (((a0.to.l.length : Int) - 0).toNat) 0 := e47
  show CW _ _ _ _ [(1, Value.pointer (some (⟨b1, 0, none⟩ : Addr))), (4, Value.int .i64 r42)] _
  refine CW.seq (CW.seq (CW.reg (WL.mv rfl (WL.pv (Pu.fa rfl fo32_10) (WL.pv (Pu.load rfl ty30 (((f5.le (l39.trans l45)).drop 12).w st.sub) rfl) ?_)))))
  have z52 : a0.to.l.length ≤ 1048576 := (k0p.to.le ((l4.trans l39).trans l45)).top
  refine WL.pv (Pu.lens (n := a0.to.l.length) rfl sl30) (WL.pv (Pu.ilt rfl rfl) (WL.nt ?_))
  refine CW.condP 43 rfl dT dF (fun h53 => ?_) (fun h53 => ?_)
  ·obtain ⟨n43, rfl⟩ : ∃ k, N51 = k + 1 := ⟨N51 - 1, by omega⟩
   refine CW.skip (QX.thenN ?_)
   refine CW.seq ?_
   refine CW.blk ?_
   refine CW.seq (CW.reg (WL.pv (Pu.fa rfl fo32_10) (WL.pv (Pu.load rfl ty30 (((f5.le (l39.trans l45)).drop 12).w st.sub) rfl) (WL.mv rfl ?_))))
   have y54 := lg_get (l := a0.to.l) (i := r42) (by omega) (by omega)
   have k57 : Side.Ok 1048576 H44 (lg a0.to.l r42) := ((k0p.to.le ((l4.trans l39).trans l45)).get _ _ y54).2
   refine WL.idx (s := a0.to) rfl rfl rfl rfl sl30 (k0p.to.le ((l4.trans l39).trans l45)) (by omega) y54 ?_
   intro ad55 f56
   refine WL.pv (Pu.fa rfl fo41_0) (WL.pv (Pu.load rfl ty3 ((f56.drop 0).w st.sub) rfl) ?_)
   refine WL.callv rfl rfl en144 rfl rfl st (c144 ((lg a0.to.l r42).kind) st.sub ) ?_
   intro W58 st
   refine WL.pv (Pu.notb rfl) (WL.mv rfl ?_)
   refine WL.splitP 54 rfl mT mF (fun h59 => ?_) (fun h59 => ?_)
   ·refine WL.of (WL.of (WL.of (WL.of (WL.of (WL.of (WL.of (WL.pv (Pu.pickT rfl rfl) (WL.mv rfl (WL.of ?_)))))))))
    iterate 10 refine WL.of ?_
    refine WL.of (WL.of (WL.of (WL.of (WL.of (WL.of (WL.pv (Pu.pickT rfl rfl) (WL.nt ?_)))))))
    refine CW.condT rfl ?_
    refine CW.seq (CW.reg (WL.as rfl (WL.nt ?_)))
    refine CW.ret (QX.blkR (QX.thenR (QX.thenR (QX.blkR (QX.thenR (QX.thenR (finA Tryz.results87 st (.tmp rfl .nil) ?_)))))))
    exact vb ((lk_inr e41).trans (lk_inl ((Eq.symm e47).trans (if_neg h59))))
   ·refine WL.pv (Pu.fa rfl fo32_10) (WL.pv (Pu.load rfl ty30 (((f5.le (l39.trans l45)).drop 12).w st.sub) rfl) (WL.mv rfl ?_))
    have y60 := lg_get (l := a0.to.l) (i := r42) (by omega) (by omega)
    have k63 : Side.Ok 1048576 H44 (lg a0.to.l r42) := ((k0p.to.le ((l4.trans l39).trans l45)).get _ _ y60).2
    refine WL.idx (s := a0.to) rfl rfl rfl rfl sl30 (k0p.to.le ((l4.trans l39).trans l45)) (by omega) y60 ?_
    intro ad61 f62
    refine WL.pv (Pu.fa rfl fo41_1) (WL.pv (Pu.load rfl ty9 ((f62.drop 1).w st.sub) rfl) (WL.pv (Pu.sne rfl rfl) (WL.pv (Pu.pickF rfl rfl) (WL.mv rfl ?_))))
    refine WL.splitP 63 rfl nT nF (fun h64 => ?_) (fun h64 => ?_)
    ·have z65 := size_ne h64
     iterate 10 refine WL.of ?_
     refine WL.of (WL.of (WL.of (WL.of (WL.of (WL.of (WL.of (WL.pv (Pu.pickT rfl rfl) (WL.nt ?_))))))))
     refine CW.condT rfl ?_
     refine CW.seq (CW.reg (WL.as rfl (WL.nt ?_)))
     refine CW.ret (QX.blkR (QX.thenR (QX.thenR (QX.blkR (QX.thenR (QX.thenR (finA Tryz.results87 st (.tmp rfl .nil) ?_)))))))
     exact vb ((lk_inr e41).trans (lk_inl ((Eq.symm e47).trans ((if_pos h59).trans (if_neg h64)))))
    ·refine WL.pv (Pu.fa rfl fo32_10) (WL.pv (Pu.load rfl ty30 (((f5.le (l39.trans l45)).drop 12).w st.sub) rfl) (WL.mv rfl ?_))
     have y66 := lg_get (l := a0.to.l) (i := r42) (by omega) (by omega)
     have k69 : Side.Ok 1048576 H44 (lg a0.to.l r42) := ((k0p.to.le ((l4.trans l39).trans l45)).get _ _ y66).2
     refine WL.idx (s := a0.to) rfl rfl rfl rfl sl30 (k0p.to.le ((l4.trans l39).trans l45)) (by omega) y66 ?_
     intro ad67 f68
     refine WL.pv (Pu.fa rfl fo41_2) (WL.pv (Pu.load rfl ty9 ((f68.drop 2).w st.sub) rfl) (WL.pv (Pu.sne rfl rfl) (WL.mv rfl ?_)))
     refine WL.splitP 71 rfl nT nF (fun h70 => ?_) (fun h70 => ?_)
     ·have z71 := size_ne h70
      refine WL.pv (Pu.fa rfl fo32_10) (WL.pv (Pu.load rfl ty30 (((f5.le (l39.trans l45)).drop 12).w st.sub) rfl) (WL.mv rfl ?_))
      have y72 := lg_get (l := a0.to.l) (i := r42) (by omega) (by omega)
      have k75 : Side.Ok 1048576 H44 (lg a0.to.l r42) := ((k0p.to.le ((l4.trans l39).trans l45)).get _ _ y72).2
      refine WL.idx (s := a0.to) rfl rfl rfl rfl sl30 (k0p.to.le ((l4.trans l39).trans l45)) (by omega) y72 ?_
      intro ad73 f74
      refine WL.pv (Pu.fa rfl fo41_2) (WL.pv (Pu.load rfl ty9 ((f74.drop 2).w st.sub) rfl) ?_)
      refine WL.callv rfl rfl en138 rfl rfl st (c138 ((lg a0.to.l r42).name) st.sub k75.name) ?_
      intro W76 st
      refine WL.pv (Pu.notb rfl) (WL.pv (Pu.pickT rfl rfl) (WL.pv (Pu.pickF rfl rfl) (WL.nt ?_)))
      refine CW.condP 81 rfl mT mF (fun h77 => ?_) (fun h77 => ?_)
      ·refine CW.seq (CW.reg (WL.as rfl (WL.nt ?_)))
       refine CW.ret (QX.blkR (QX.thenR (QX.thenR (QX.blkR (QX.thenR (QX.thenR (finA Tryz.results87 st (.tmp rfl .nil) ?_)))))))
       exact vb ((lk_inr e41).trans (lk_inl ((Eq.symm e47).trans ((if_pos h59).trans ((if_pos h64).trans ((if_neg h70).trans (if_neg h77)))))))
      ·refine CW.skip (QX.blkN (QX.thenN ?_))
       refine CW.reg (WL.mv rfl (WL.pv (Pu.iadd rfl rfl (c := r42 + 1) (w64 (by omega) (by omega))) (WL.as rfl ?_)))
       refine WL.nil (QX.round ⟨n43, r42 + 1⟩ ?_ (Nat.lt_succ_self _) (.cons rfl (.cons rfl (.nil _))))
       exact ⟨⟨_, st, l45⟩, (by first|omega|simp<;>omega), (by first|omega|simp<;>omega), (by first|omega|simp<;>omega), Eq.symm ((Eq.symm e47).trans ((if_pos h59).trans ((if_pos h64).trans ((if_neg h70).trans (if_pos h77)))))⟩
     ·refine WL.of (WL.of (WL.of (WL.of (WL.of (WL.of (WL.of (WL.of (WL.pv (Pu.pickF rfl rfl) (WL.pv (Pu.pickF rfl rfl) ?_)))))))))
      refine WL.nt ?_
      refine CW.condF rfl ?_
      refine CW.skip (QX.blkN (QX.thenN ?_))
      refine CW.reg (WL.mv rfl (WL.pv (Pu.iadd rfl rfl (c := r42 + 1) (w64 (by omega) (by omega))) (WL.as rfl ?_)))
      refine WL.nil (QX.round ⟨n43, r42 + 1⟩ ?_ (Nat.lt_succ_self _) (.cons rfl (.cons rfl (.nil _))))
      exact ⟨⟨_, st, l45⟩, (by first|omega|simp<;>omega), (by first|omega|simp<;>omega), (by first|omega|simp<;>omega), Eq.symm ((Eq.symm e47).trans ((if_pos h59).trans ((if_pos h64).trans (if_pos h70))))⟩
  ·obtain rfl : N51 = 0 := by omega
   refine CW.exit (QX.thenE (QX.thenE (QX.hit (QX.meets () ?_ (.cons rfl (.nil _))))))
   exact ⟨⟨_, st, l45⟩, Eq.symm e47⟩
 rintro _ W82 ⟨⟨H80, st, l81⟩, e83⟩
 show QX _ _ _ [(1, Value.pointer (some (⟨b1, 0, none⟩ : Addr)))] _
 refine QX.thenN (CW.seq (CW.reg (WL.pv (Pu.fa rfl fo32_9) (WL.pv (Pu.load rfl ty30 (((f5.le (l39.trans l81)).drop 11).w st.sub) rfl) ?_))))
 have z84 : a0.frm.l.length ≤ 1048576 := (k0p.frm.le ((l4.trans l39).trans l81)).top
 refine WL.pv (Pu.lens (n := a0.frm.l.length) rfl sl30) (WL.pv (Pu.ile rfl rfl) (WL.mv rfl ?_))
 refine WL.splitP 86 rfl dT dF (fun h85 => ?_) (fun h85 => ?_)
 ·refine WL.pv (Pu.fa rfl fo32_9) (WL.pv (Pu.load rfl ty30 (((f5.le (l39.trans l81)).drop 11).w st.sub) rfl) ?_)
  have z86 : a0.frm.l.length ≤ 1048576 := (k0p.frm.le ((l4.trans l39).trans l81)).top
  refine WL.pv (Pu.lens (n := a0.frm.l.length) rfl sl30) (WL.pv (Pu.ile rfl rfl) (WL.pv (Pu.pickT rfl rfl) (WL.mv rfl ?_)))
  refine WL.splitP 92 rfl dT dF (fun h87 => ?_) (fun h87 => ?_)
  ·refine WL.pv (Pu.fa rfl fo32_10) (WL.pv (Pu.load rfl ty30 (((f5.le (l39.trans l81)).drop 12).w st.sub) rfl) ?_)
   have z88 : a0.to.l.length ≤ 1048576 := (k0p.to.le ((l4.trans l39).trans l81)).top
   refine WL.pv (Pu.lens (n := a0.to.l.length) rfl sl30) (WL.pv (Pu.ile rfl rfl) (WL.pv (Pu.pickT rfl rfl) (WL.mv rfl ?_)))
   refine WL.splitP 98 rfl dT dF (fun h89 => ?_) (fun h89 => ?_)
   ·refine WL.pv (Pu.fa rfl fo32_10) (WL.pv (Pu.load rfl ty30 (((f5.le (l39.trans l81)).drop 12).w st.sub) rfl) ?_)
    have z90 : a0.to.l.length ≤ 1048576 := (k0p.to.le ((l4.trans l39).trans l81)).top
    refine WL.pv (Pu.lens (n := a0.to.l.length) rfl sl30) (WL.pv (Pu.ile rfl rfl) (WL.pv (Pu.pickT rfl rfl) (WL.as rfl (WL.nt ?_))))
    refine CW.ret (finA Tryz.results87 st (.tmp rfl .nil) ?_)
    exact vb ((lk_inr e41).trans ((lk_inr e83).trans ((if_pos h85).trans ((if_pos h87).trans (if_pos h89)))))
   ·refine WL.of (WL.of (WL.of (WL.of (WL.pv (Pu.pickF rfl rfl) (WL.as rfl (WL.nt ?_))))))
    refine CW.ret (finA Tryz.results87 st (.tmp rfl .nil) ?_)
    exact vb ((lk_inr e41).trans ((lk_inr e83).trans ((if_pos h85).trans ((if_pos h87).trans (if_neg h89)))))
  ·refine WL.of (WL.of (WL.of (WL.of (WL.pv (Pu.pickF rfl rfl) (WL.mv rfl (WL.of (WL.of (WL.of (WL.of ?_)))))))))
   refine WL.pv (Pu.pickF rfl rfl) (WL.as rfl (WL.nt ?_))
   refine CW.ret (finA Tryz.results87 st (.tmp rfl .nil) ?_)
   exact vb ((lk_inr e41).trans ((lk_inr e83).trans ((if_pos h85).trans (if_neg h87))))
 ·refine WL.of (WL.of (WL.of (WL.of (WL.pv (Pu.pickF rfl rfl) (WL.mv rfl (WL.of (WL.of (WL.of (WL.of ?_)))))))))
  refine WL.pv (Pu.pickF rfl rfl) (WL.mv rfl (WL.of (WL.of (WL.of (WL.of (WL.pv (Pu.pickF rfl rfl) (WL.as rfl (WL.nt ?_))))))))
  refine CW.ret (finA Tryz.results87 st (.tmp rfl .nil) ?_)
  exact vb ((lk_inr e41).trans ((lk_inr e83).trans (if_neg h85)))
end Go.Proofs.TB
