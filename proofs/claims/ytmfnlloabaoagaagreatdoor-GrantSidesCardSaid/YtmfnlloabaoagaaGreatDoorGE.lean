import Derived.Test.YtmfnlloabaoagaaGreatDoorTL
import Derived.Test.YtmfnlloabaoagaaGreatDoorTT
import Derived.Test.YtmfnlloabaoagaaGreatDoorGH
import Derived.Test.YtmfnlloabaoagaaGreatDoorTP
import Derived.Test.YtmfnlloabaoagaaGreatDoorProg
import Derived.KernelRfl
set_option linter.unusedVariables false
set_option maxRecDepth 100000
namespace Go.Proofs.TB
open Go.RowKit
theorem ty5 : tyOf Tryz.prog 5 = some (false, 1) := by kernel_rfl
theorem fo34_0 : foOf Tryz.prog 34 0 = some 0 := by kernel_rfl
theorem fo34_1 : foOf Tryz.prog 34 1 = some 13 := by kernel_rfl
theorem fo34_2 : foOf Tryz.prog 34 2 = some 14 := by kernel_rfl
theorem fo34_3 : foOf Tryz.prog 34 3 = some 17 := by kernel_rfl
theorem en3 : En Tryz.prog 3 := En.of Tryz.func3 (by kernel_rfl) rfl
/-! toll tolllaw11.GrantSides -/
def m3_j0  : Unit :=
 ()
def m3_j2 (a0 : Sides11) (xx150 : Object) (xx200 : Ref) (xx260 : ByteArray) (r303 : Int) : Bool ⊕ Unit :=
 if (1 : Int) < (xx150.frm.l.length : Int) then (if (m17 (⟨xx150.ref, xx150.good, xx150.labels, xx150.ports, xx150.cls, xx150.listeners, xx150.parents, xx150.hosts, xx150.rules, (⟨none, 0, (([] : List Side) ++ (xx150.frm.l.take (a0.at_ % (xx150.frm.l.length : Int)).toNat)) ++ (xx150.frm.l.drop ((a0.at_ % (xx150.frm.l.length : Int)) + 1).toNat)⟩ : Sl Side), xx150.to⟩ : Object) a0.kind (lg ([(⟨#[119, 101, 98]⟩ : ByteArray), (⟨#[97, 112, 112]⟩ : ByteArray), xx260] : List ByteArray) r303) xx200) = true then (if (m17 xx150 a0.kind (lg ([(⟨#[119, 101, 98]⟩ : ByteArray), (⟨#[97, 112, 112]⟩ : ByteArray), xx260] : List ByteArray) r303) xx200) = true then (.inr ()) else .inl false) else .inr ()) else .inr ()
def m3_l1 (a0 : Sides11) (xx150 : Object) (xx200 : Ref) (xx260 : ByteArray) : Nat → Int → (Bool ⊕ Unit)
 | 0, _ => .inr ()
 | n304 + 1, r303 => if (m18 xx150) = true then (lkR (m3_j2 a0 xx150 xx200 xx260 r303) (fun _ => if (0 : Int) < (xx150.to.l.length : Int) then (if (xx150.to.l.length : Int) < 4 then (if (m17 xx150 a0.kind (lg ([(⟨#[119, 101, 98]⟩ : ByteArray), (⟨#[97, 112, 112]⟩ : ByteArray), xx260] : List ByteArray) r303) xx200) = true then (if (m17 (⟨xx150.ref, xx150.good, xx150.labels, xx150.ports, xx150.cls, xx150.listeners, xx150.parents, xx150.hosts, xx150.rules, xx150.frm, (⟨none, 0, (([] : List Side) ++ xx150.to.l) ++ ([(⟨3, (⟨#[]⟩ : ByteArray), (⟨#[]⟩ : ByteArray)⟩ : Side)] : List Side)⟩ : Sl Side)⟩ : Object) a0.kind (lg ([(⟨#[119, 101, 98]⟩ : ByteArray), (⟨#[97, 112, 112]⟩ : ByteArray), xx260] : List ByteArray) r303) xx200) = true then (m3_l1 a0 xx150 xx200 xx260 n304 (r303 + 1)) else .inl false) else m3_l1 a0 xx150 xx200 xx260 n304 (r303 + 1)) else m3_l1 a0 xx150 xx200 xx260 n304 (r303 + 1)) else m3_l1 a0 xx150 xx200 xx260 n304 (r303 + 1))) else if (m17 xx150 a0.kind (lg ([(⟨#[119, 101, 98]⟩ : ByteArray), (⟨#[97, 112, 112]⟩ : ByteArray), xx260] : List ByteArray) r303) xx200) = true then (.inl false) else .inl m19
def m3 (a0 : Sides11) (xx150 : Object) (xx200 : Ref) (xx260 : ByteArray) : Bool :=
 lk1 (m3_j0) (fun _ => lk2 (m3_l1 a0 xx150 xx200 xx260 (((([(⟨#[119, 101, 98]⟩ : ByteArray), (⟨#[97, 112, 112]⟩ : ByteArray), xx260] : List ByteArray).length : Int) - 0).toNat) 0) (fun _ => m19))
theorem c3 (a0 : Sides11) {w : World} {H : PH} (hs : Sub H w) (k0p : Sides11.Ok 140737488355329 H a0) : Spec Tryz.prog 3 [Sides11.v a0].toArray w H (fun _ v => ∃ (xx150 : Object) (xx200 : Ref) (xx260 : ByteArray), v = .bool (m3 a0 xx150 xx200 xx260)) := by
 refine Spec.enter Tryz.func3 rfl Tryz.ntmps3 rfl ?_
 have st := St.start hs
 refine CW.seq ?_
 refine CW.reg ?_
 refine WL.box rfl rfl rfl rfl st ?_
 intro b1 W2 H3 st l4 f5
 refine WL.as rfl ?_
 refine WL.nt ?_
 refine CW.seq (CW.cuts (fun (s : Nat × Nat × Object × Ref) W => (∃ H', St w W H H' [] ∧ Le H3 H' ∧ At H' ⟨s.1, 0, none⟩ [.int .i64 s.2.2.1.ref.kind, .string s.2.2.1.ref.space, .string s.2.2.1.ref.name, .bool s.2.2.1.good, s.2.2.1.labels.v, s.2.2.1.ports.v, .string s.2.2.1.cls, s.2.2.1.listeners.v, s.2.2.1.parents.v, s.2.2.1.hosts.v, s.2.2.1.rules.v, s.2.2.1.frm.v, s.2.2.1.to.v] ∧ Object.Ok 1048576 H' s.2.2.1 ∧ At H' ⟨s.2.1, 0, none⟩ [.int .i64 s.2.2.2.kind, .string s.2.2.2.space, .string s.2.2.2.name] ∧ Ref.Ok 1048576 H' s.2.2.2 ∧ Object.Ok 1048576 H' s.2.2.1 ∧ Ref.Ok 1048576 H' s.2.2.2) ∧ m3_j0 = ()) (fun (s : Nat × Nat × Object × Ref) => [(4, Value.int .i64 a0.kind), (6, Value.int .u8 a0.at_), (3, Value.pointer (some (⟨s.1, 0, none⟩ : Addr))), (5, Value.pointer (some (⟨s.2.1, 0, none⟩ : Addr)))]) ?_ ?_)
 ·refine CW.regS (C := Cl w H3 []) (tail := []) (S := Grew w H H3 []) mixed (fun W' h1 h2 h3 h4 => grew_start st h1 h2 h3 h4) (n := 16) rfl ?_
  refine WS.pk 0 rfl gg (fun W hC => Pu.fa rfl fo34_0) ?_
  refine WS.pk 1 rfl gg (fun W hC => Pu.load (v := Object.v a0.o) rfl ty32 ((f5.drop 0).w hC.1) rfl) ?_
  refine WS.pk 3 rfl gg (fun W hC => Pu.fa rfl fo34_1) ?_
  refine WS.pk 4 rfl gg (fun W hC => Pu.load rfl ty3 ((f5.drop 13).w hC.1) rfl) ?_
  refine WS.pk 5 rfl gg (fun W hC => Pu.fa rfl fo34_2) ?_
  refine WS.pk 6 rfl gg (fun W hC => Pu.load (v := Ref.v a0.to) rfl ty23 ((f5.drop 14).w hC.1) rfl) ?_
  refine WS.pk 8 rfl gg (fun W hC => Pu.fa rfl fo34_3) ?_
  refine WS.pk 9 rfl gg (fun W hC => Pu.load rfl ty5 ((f5.drop 17).w hC.1) rfl) ?_
  refine WS.three (i := 2) (j := 10) (k := 11) (by kernel_rfl) ?_ ?_ ?_
  ·refine WO.call 2 rfl rfl rfl (fun _ H' l => good_grew ((Le.refl _).trans l) (fun _ h => h)) en14 rfl rfl (fun W H' hs' l => c14 a0.o hs' (k0p.o.le (l4.trans l))) ?_
   rintro _ H8 l9 ⟨xx150, rfl, k10⟩
   refine WS.three (i := 7) (j := 10) (k := 11) (by kernel_rfl) ?_ ?_ ?_
   ·refine WO.call 7 rfl rfl rfl (fun _ H' l => good_grew (l9.trans l) (fun _ h => h)) en15 rfl rfl (fun W H' hs' l => c15 a0.to hs' (k0p.to.le ((l4.trans l9).trans l))) ?_
    rintro _ H12 l13 ⟨xx200, rfl, k14⟩
    refine WS.two (i := 10) (j := 11) (by kernel_rfl) ?_ ?_
    ·refine WO.alloco (c := #[.int .i64 0, .string (⟨#[]⟩ : ByteArray), .string (⟨#[]⟩ : ByteArray), .bool false, .slice none 0 0, .slice none 0 0, .string (⟨#[]⟩ : ByteArray), .slice none 0 0, .slice none 0 0, .slice none 0 0, .slice none 0 0, .slice none 0 0, .slice none 0 0]) 10 rfl rfl rfl ze32 rfl (fun b _ H' l => good_grew ((l9.trans l13).trans l) (fun _ h => .tail _ (h))) ?_
     intro b16 H17 l18
     refine WS.one (i := 11) (by kernel_rfl) ?_
     refine WO.alloco (c := #[.int .i64 0, .string (⟨#[]⟩ : ByteArray), .string (⟨#[]⟩ : ByteArray)]) 11 rfl rfl rfl ze23 rfl (fun b _ H' l => good_grew (((l9.trans l13).trans l18).trans l) (fun _ h => .tail _ (.tail _ (h)))) ?_
     intro b19 H20 l21
     refine WS.one (i := 12) (by kernel_rfl) ?_
     refine WO.front2 ?_
     refine WO.store (o := 0) (c' := [.int .i64 xx150.ref.kind, .string xx150.ref.space, .string xx150.ref.name, .bool xx150.good, xx150.labels.v, xx150.ports.v, .string xx150.cls, xx150.listeners.v, xx150.parents.v, xx150.hosts.v, xx150.rules.v, xx150.frm.v, xx150.to.v]) 12 rfl rfl (fun _ H' l => good_grew ((((l9.trans l13).trans l18).trans l21).trans l) (fun _ h => .tail _ (.tail _ (h)))) rfl rfl rfl ty32 rfl (Enc.one (α := Object) _) rfl rfl ?_
     intro H22 l23
     refine WS.pk 13 rfl (good_grew ((((l9.trans l13).trans l18).trans l21).trans l23) (fun _ h => .tail _ (.tail _ (h)))) (fun W hC => Pu.assign rfl) ?_
     refine WS.one (i := 14) (by kernel_rfl) ?_
     refine WO.front2 ?_
     refine WO.store (o := 0) (c' := [.int .i64 xx200.kind, .string xx200.space, .string xx200.name]) 14 rfl rfl (fun _ H' l => good_grew (((((l9.trans l13).trans l18).trans l21).trans l23).trans l) (fun _ h => .tail _ (.tail _ (h)))) rfl rfl rfl ty23 rfl (Enc.one (α := Ref) _) rfl rfl ?_
     intro H24 l25
     refine WS.pk 15 rfl (good_grew (((((l9.trans l13).trans l18).trans l21).trans l23).trans l25) (fun _ h => .tail _ (.tail _ (h)))) (fun W hC => Pu.assign rfl) ?_
     refine WS.fin (by kernel_rfl) (fun W28 H26 st l27 => ?_)
     obtain ⟨H29, st, l30, f31⟩ := st.keepbox
     obtain ⟨H32, st, l33, f34⟩ := st.keepbox
     refine QX.meets ⟨b16, b19, xx150, xx200⟩ ?_ (.cons rfl (.cons rfl (.cons rfl (.cons rfl (.nil _)))))
     exact ⟨⟨_, st, ((((((((l9.trans l13).trans l18).trans l21).trans l23).trans l25).trans l27).trans l30).trans l33), f34, (k10.le (((((((l13.trans l18).trans l21).trans l23).trans l25).trans l27).trans l30).trans l33)), (f31.le l33), (k14.le ((((((l18.trans l21).trans l23).trans l25).trans l27).trans l30).trans l33)), (k10.le (((((((l13.trans l18).trans l21).trans l23).trans l25).trans l27).trans l30).trans l33)), (k14.le ((((((l18.trans l21).trans l23).trans l25).trans l27).trans l30).trans l33))⟩, rfl⟩
    ·refine WO.alloco (c := #[.int .i64 0, .string (⟨#[]⟩ : ByteArray), .string (⟨#[]⟩ : ByteArray)]) 11 rfl rfl rfl ze23 rfl (fun b _ H' l => good_grew ((l9.trans l13).trans l) (fun _ h => .tail _ (h))) ?_
     intro b35 H36 l37
     refine WS.one (i := 10) (by kernel_rfl) ?_
     refine WO.alloco (c := #[.int .i64 0, .string (⟨#[]⟩ : ByteArray), .string (⟨#[]⟩ : ByteArray), .bool false, .slice none 0 0, .slice none 0 0, .string (⟨#[]⟩ : ByteArray), .slice none 0 0, .slice none 0 0, .slice none 0 0, .slice none 0 0, .slice none 0 0, .slice none 0 0]) 10 rfl rfl rfl ze32 rfl (fun b _ H' l => good_grew (((l9.trans l13).trans l37).trans l) (fun _ h => .tail _ (.tail _ (h)))) ?_
     intro b38 H39 l40
     refine WS.one (i := 12) (by kernel_rfl) ?_
     refine WO.store (o := 0) (c' := [.int .i64 xx150.ref.kind, .string xx150.ref.space, .string xx150.ref.name, .bool xx150.good, xx150.labels.v, xx150.ports.v, .string xx150.cls, xx150.listeners.v, xx150.parents.v, xx150.hosts.v, xx150.rules.v, xx150.frm.v, xx150.to.v]) 12 rfl rfl (fun _ H' l => good_grew ((((l9.trans l13).trans l37).trans l40).trans l) (fun _ h => .tail _ (.tail _ (h)))) rfl rfl rfl ty32 rfl (Enc.one (α := Object) _) rfl rfl ?_
     intro H41 l42
     refine WS.pk 13 rfl (good_grew ((((l9.trans l13).trans l37).trans l40).trans l42) (fun _ h => .tail _ (.tail _ (h)))) (fun W hC => Pu.assign rfl) ?_
     refine WS.one (i := 14) (by kernel_rfl) ?_
     refine WO.front2 ?_
     refine WO.store (o := 0) (c' := [.int .i64 xx200.kind, .string xx200.space, .string xx200.name]) 14 rfl rfl (fun _ H' l => good_grew (((((l9.trans l13).trans l37).trans l40).trans l42).trans l) (fun _ h => .tail _ (.tail _ (h)))) rfl rfl rfl ty23 rfl (Enc.one (α := Ref) _) rfl rfl ?_
     intro H43 l44
     refine WS.pk 15 rfl (good_grew (((((l9.trans l13).trans l37).trans l40).trans l42).trans l44) (fun _ h => .tail _ (.tail _ (h)))) (fun W hC => Pu.assign rfl) ?_
     refine WS.fin (by kernel_rfl) (fun W47 H45 st l46 => ?_)
     obtain ⟨H48, st, l49, f50⟩ := st.keepbox
     obtain ⟨H51, st, l52, f53⟩ := st.keepbox
     refine QX.meets ⟨b38, b35, xx150, xx200⟩ ?_ (.cons rfl (.cons rfl (.cons rfl (.cons rfl (.nil _)))))
     exact ⟨⟨_, st, ((((((((l9.trans l13).trans l37).trans l40).trans l42).trans l44).trans l46).trans l49).trans l52), f53, (k10.le (((((((l13.trans l37).trans l40).trans l42).trans l44).trans l46).trans l49).trans l52)), (f50.le l52), (k14.le ((((((l37.trans l40).trans l42).trans l44).trans l46).trans l49).trans l52)), (k10.le (((((((l13.trans l37).trans l40).trans l42).trans l44).trans l46).trans l49).trans l52)), (k14.le ((((((l37.trans l40).trans l42).trans l44).trans l46).trans l49).trans l52))⟩, rfl⟩
   ·refine WO.alloco (c := #[.int .i64 0, .string (⟨#[]⟩ : ByteArray), .string (⟨#[]⟩ : ByteArray), .bool false, .slice none 0 0, .slice none 0 0, .string (⟨#[]⟩ : ByteArray), .slice none 0 0, .slice none 0 0, .slice none 0 0, .slice none 0 0, .slice none 0 0, .slice none 0 0]) 10 rfl rfl rfl ze32 rfl (fun b _ H' l => good_grew (l9.trans l) (fun _ h => .tail _ (h))) ?_
    intro b54 H55 l56
    refine WS.two (i := 7) (j := 11) (by kernel_rfl) ?_ ?_
    ·refine WO.call 7 rfl rfl rfl (fun _ H' l => good_grew ((l9.trans l56).trans l) (fun _ h => .tail _ (h))) en15 rfl rfl (fun W H' hs' l => c15 a0.to hs' (k0p.to.le (((l4.trans l9).trans l56).trans l))) ?_
     rintro _ H57 l58 ⟨xx200, rfl, k59⟩
     refine WS.one (i := 11) (by kernel_rfl) ?_
     refine WO.alloco (c := #[.int .i64 0, .string (⟨#[]⟩ : ByteArray), .string (⟨#[]⟩ : ByteArray)]) 11 rfl rfl rfl ze23 rfl (fun b _ H' l => good_grew (((l9.trans l56).trans l58).trans l) (fun _ h => .tail _ (.tail _ (h)))) ?_
     intro b61 H62 l63
     refine WS.one (i := 12) (by kernel_rfl) ?_
     refine WO.front2 ?_
     refine WO.store (o := 0) (c' := [.int .i64 xx150.ref.kind, .string xx150.ref.space, .string xx150.ref.name, .bool xx150.good, xx150.labels.v, xx150.ports.v, .string xx150.cls, xx150.listeners.v, xx150.parents.v, xx150.hosts.v, xx150.rules.v, xx150.frm.v, xx150.to.v]) 12 rfl rfl (fun _ H' l => good_grew ((((l9.trans l56).trans l58).trans l63).trans l) (fun _ h => .tail _ (.tail _ (h)))) rfl rfl rfl ty32 rfl (Enc.one (α := Object) _) rfl rfl ?_
     intro H64 l65
     refine WS.pk 13 rfl (good_grew ((((l9.trans l56).trans l58).trans l63).trans l65) (fun _ h => .tail _ (.tail _ (h)))) (fun W hC => Pu.assign rfl) ?_
     refine WS.one (i := 14) (by kernel_rfl) ?_
     refine WO.front2 ?_
     refine WO.store (o := 0) (c' := [.int .i64 xx200.kind, .string xx200.space, .string xx200.name]) 14 rfl rfl (fun _ H' l => good_grew (((((l9.trans l56).trans l58).trans l63).trans l65).trans l) (fun _ h => .tail _ (.tail _ (h)))) rfl rfl rfl ty23 rfl (Enc.one (α := Ref) _) rfl rfl ?_
     intro H66 l67
     refine WS.pk 15 rfl (good_grew (((((l9.trans l56).trans l58).trans l63).trans l65).trans l67) (fun _ h => .tail _ (.tail _ (h)))) (fun W hC => Pu.assign rfl) ?_
     refine WS.fin (by kernel_rfl) (fun W70 H68 st l69 => ?_)
     obtain ⟨H71, st, l72, f73⟩ := st.keepbox
     obtain ⟨H74, st, l75, f76⟩ := st.keepbox
     refine QX.meets ⟨b54, b61, xx150, xx200⟩ ?_ (.cons rfl (.cons rfl (.cons rfl (.cons rfl (.nil _)))))
     exact ⟨⟨_, st, ((((((((l9.trans l56).trans l58).trans l63).trans l65).trans l67).trans l69).trans l72).trans l75), f76, (k10.le (((((((l56.trans l58).trans l63).trans l65).trans l67).trans l69).trans l72).trans l75)), (f73.le l75), (k59.le (((((l63.trans l65).trans l67).trans l69).trans l72).trans l75)), (k10.le (((((((l56.trans l58).trans l63).trans l65).trans l67).trans l69).trans l72).trans l75)), (k59.le (((((l63.trans l65).trans l67).trans l69).trans l72).trans l75))⟩, rfl⟩
    ·refine WO.alloco (c := #[.int .i64 0, .string (⟨#[]⟩ : ByteArray), .string (⟨#[]⟩ : ByteArray)]) 11 rfl rfl rfl ze23 rfl (fun b _ H' l => good_grew ((l9.trans l56).trans l) (fun _ h => .tail _ (.tail _ (h)))) ?_
     intro b77 H78 l79
     refine WS.one (i := 7) (by kernel_rfl) ?_
     refine WO.call 7 rfl rfl rfl (fun _ H' l => good_grew (((l9.trans l56).trans l79).trans l) (fun _ h => .tail _ (.tail _ (h)))) en15 rfl rfl (fun W H' hs' l => c15 a0.to hs' (k0p.to.le ((((l4.trans l9).trans l56).trans l79).trans l))) ?_
     rintro _ H80 l81 ⟨xx200, rfl, k82⟩
     refine WS.one (i := 12) (by kernel_rfl) ?_
     refine WO.front2 ?_
     refine WO.store (o := 0) (c' := [.int .i64 xx150.ref.kind, .string xx150.ref.space, .string xx150.ref.name, .bool xx150.good, xx150.labels.v, xx150.ports.v, .string xx150.cls, xx150.listeners.v, xx150.parents.v, xx150.hosts.v, xx150.rules.v, xx150.frm.v, xx150.to.v]) 12 rfl rfl (fun _ H' l => good_grew ((((l9.trans l56).trans l79).trans l81).trans l) (fun _ h => .tail _ (.tail _ (h)))) rfl rfl rfl ty32 rfl (Enc.one (α := Object) _) rfl rfl ?_
     intro H84 l85
     refine WS.pk 13 rfl (good_grew ((((l9.trans l56).trans l79).trans l81).trans l85) (fun _ h => .tail _ (.tail _ (h)))) (fun W hC => Pu.assign rfl) ?_
     refine WS.one (i := 14) (by kernel_rfl) ?_
     refine WO.front2 ?_
     refine WO.store (o := 0) (c' := [.int .i64 xx200.kind, .string xx200.space, .string xx200.name]) 14 rfl rfl (fun _ H' l => good_grew (((((l9.trans l56).trans l79).trans l81).trans l85).trans l) (fun _ h => .tail _ (.tail _ (h)))) rfl rfl rfl ty23 rfl (Enc.one (α := Ref) _) rfl rfl ?_
     intro H86 l87
     refine WS.pk 15 rfl (good_grew (((((l9.trans l56).trans l79).trans l81).trans l85).trans l87) (fun _ h => .tail _ (.tail _ (h)))) (fun W hC => Pu.assign rfl) ?_
     refine WS.fin (by kernel_rfl) (fun W90 H88 st l89 => ?_)
     obtain ⟨H91, st, l92, f93⟩ := st.keepbox
     obtain ⟨H94, st, l95, f96⟩ := st.keepbox
     refine QX.meets ⟨b54, b77, xx150, xx200⟩ ?_ (.cons rfl (.cons rfl (.cons rfl (.cons rfl (.nil _)))))
     exact ⟨⟨_, st, ((((((((l9.trans l56).trans l79).trans l81).trans l85).trans l87).trans l89).trans l92).trans l95), f96, (k10.le (((((((l56.trans l79).trans l81).trans l85).trans l87).trans l89).trans l92).trans l95)), (f93.le l95), (k82.le ((((l85.trans l87).trans l89).trans l92).trans l95)), (k10.le (((((((l56.trans l79).trans l81).trans l85).trans l87).trans l89).trans l92).trans l95)), (k82.le ((((l85.trans l87).trans l89).trans l92).trans l95))⟩, rfl⟩
   ·refine WO.alloco (c := #[.int .i64 0, .string (⟨#[]⟩ : ByteArray), .string (⟨#[]⟩ : ByteArray)]) 11 rfl rfl rfl ze23 rfl (fun b _ H' l => good_grew (l9.trans l) (fun _ h => .tail _ (h))) ?_
    intro b97 H98 l99
    refine WS.two (i := 7) (j := 10) (by kernel_rfl) ?_ ?_
    ·refine WO.call 7 rfl rfl rfl (fun _ H' l => good_grew ((l9.trans l99).trans l) (fun _ h => .tail _ (h))) en15 rfl rfl (fun W H' hs' l => c15 a0.to hs' (k0p.to.le (((l4.trans l9).trans l99).trans l))) ?_
     rintro _ H100 l101 ⟨xx200, rfl, k102⟩
     refine WS.one (i := 10) (by kernel_rfl) ?_
     refine WO.alloco (c := #[.int .i64 0, .string (⟨#[]⟩ : ByteArray), .string (⟨#[]⟩ : ByteArray), .bool false, .slice none 0 0, .slice none 0 0, .string (⟨#[]⟩ : ByteArray), .slice none 0 0, .slice none 0 0, .slice none 0 0, .slice none 0 0, .slice none 0 0, .slice none 0 0]) 10 rfl rfl rfl ze32 rfl (fun b _ H' l => good_grew (((l9.trans l99).trans l101).trans l) (fun _ h => .tail _ (.tail _ (h)))) ?_
     intro b104 H105 l106
     refine WS.one (i := 12) (by kernel_rfl) ?_
     refine WO.store (o := 0) (c' := [.int .i64 xx150.ref.kind, .string xx150.ref.space, .string xx150.ref.name, .bool xx150.good, xx150.labels.v, xx150.ports.v, .string xx150.cls, xx150.listeners.v, xx150.parents.v, xx150.hosts.v, xx150.rules.v, xx150.frm.v, xx150.to.v]) 12 rfl rfl (fun _ H' l => good_grew ((((l9.trans l99).trans l101).trans l106).trans l) (fun _ h => .tail _ (.tail _ (h)))) rfl rfl rfl ty32 rfl (Enc.one (α := Object) _) rfl rfl ?_
     intro H107 l108
     refine WS.pk 13 rfl (good_grew ((((l9.trans l99).trans l101).trans l106).trans l108) (fun _ h => .tail _ (.tail _ (h)))) (fun W hC => Pu.assign rfl) ?_
     refine WS.one (i := 14) (by kernel_rfl) ?_
     refine WO.front2 ?_
     refine WO.store (o := 0) (c' := [.int .i64 xx200.kind, .string xx200.space, .string xx200.name]) 14 rfl rfl (fun _ H' l => good_grew (((((l9.trans l99).trans l101).trans l106).trans l108).trans l) (fun _ h => .tail _ (.tail _ (h)))) rfl rfl rfl ty23 rfl (Enc.one (α := Ref) _) rfl rfl ?_
     intro H109 l110
     refine WS.pk 15 rfl (good_grew (((((l9.trans l99).trans l101).trans l106).trans l108).trans l110) (fun _ h => .tail _ (.tail _ (h)))) (fun W hC => Pu.assign rfl) ?_
     refine WS.fin (by kernel_rfl) (fun W113 H111 st l112 => ?_)
     obtain ⟨H114, st, l115, f116⟩ := st.keepbox
     obtain ⟨H117, st, l118, f119⟩ := st.keepbox
     refine QX.meets ⟨b104, b97, xx150, xx200⟩ ?_ (.cons rfl (.cons rfl (.cons rfl (.cons rfl (.nil _)))))
     exact ⟨⟨_, st, ((((((((l9.trans l99).trans l101).trans l106).trans l108).trans l110).trans l112).trans l115).trans l118), f119, (k10.le (((((((l99.trans l101).trans l106).trans l108).trans l110).trans l112).trans l115).trans l118)), (f116.le l118), (k102.le (((((l106.trans l108).trans l110).trans l112).trans l115).trans l118)), (k10.le (((((((l99.trans l101).trans l106).trans l108).trans l110).trans l112).trans l115).trans l118)), (k102.le (((((l106.trans l108).trans l110).trans l112).trans l115).trans l118))⟩, rfl⟩
    ·refine WO.alloco (c := #[.int .i64 0, .string (⟨#[]⟩ : ByteArray), .string (⟨#[]⟩ : ByteArray), .bool false, .slice none 0 0, .slice none 0 0, .string (⟨#[]⟩ : ByteArray), .slice none 0 0, .slice none 0 0, .slice none 0 0, .slice none 0 0, .slice none 0 0, .slice none 0 0]) 10 rfl rfl rfl ze32 rfl (fun b _ H' l => good_grew ((l9.trans l99).trans l) (fun _ h => .tail _ (.tail _ (h)))) ?_
     intro b120 H121 l122
     refine WS.one (i := 7) (by kernel_rfl) ?_
     refine WO.call 7 rfl rfl rfl (fun _ H' l => good_grew (((l9.trans l99).trans l122).trans l) (fun _ h => .tail _ (.tail _ (h)))) en15 rfl rfl (fun W H' hs' l => c15 a0.to hs' (k0p.to.le ((((l4.trans l9).trans l99).trans l122).trans l))) ?_
     rintro _ H123 l124 ⟨xx200, rfl, k125⟩
     refine WS.one (i := 12) (by kernel_rfl) ?_
     refine WO.store (o := 0) (c' := [.int .i64 xx150.ref.kind, .string xx150.ref.space, .string xx150.ref.name, .bool xx150.good, xx150.labels.v, xx150.ports.v, .string xx150.cls, xx150.listeners.v, xx150.parents.v, xx150.hosts.v, xx150.rules.v, xx150.frm.v, xx150.to.v]) 12 rfl rfl (fun _ H' l => good_grew ((((l9.trans l99).trans l122).trans l124).trans l) (fun _ h => .tail _ (.tail _ (h)))) rfl rfl rfl ty32 rfl (Enc.one (α := Object) _) rfl rfl ?_
     intro H127 l128
     refine WS.pk 13 rfl (good_grew ((((l9.trans l99).trans l122).trans l124).trans l128) (fun _ h => .tail _ (.tail _ (h)))) (fun W hC => Pu.assign rfl) ?_
     refine WS.one (i := 14) (by kernel_rfl) ?_
     refine WO.front2 ?_
     refine WO.store (o := 0) (c' := [.int .i64 xx200.kind, .string xx200.space, .string xx200.name]) 14 rfl rfl (fun _ H' l => good_grew (((((l9.trans l99).trans l122).trans l124).trans l128).trans l) (fun _ h => .tail _ (.tail _ (h)))) rfl rfl rfl ty23 rfl (Enc.one (α := Ref) _) rfl rfl ?_
     intro H129 l130
     refine WS.pk 15 rfl (good_grew (((((l9.trans l99).trans l122).trans l124).trans l128).trans l130) (fun _ h => .tail _ (.tail _ (h)))) (fun W hC => Pu.assign rfl) ?_
     refine WS.fin (by kernel_rfl) (fun W133 H131 st l132 => ?_)
     obtain ⟨H134, st, l135, f136⟩ := st.keepbox
     obtain ⟨H137, st, l138, f139⟩ := st.keepbox
     refine QX.meets ⟨b120, b97, xx150, xx200⟩ ?_ (.cons rfl (.cons rfl (.cons rfl (.cons rfl (.nil _)))))
     exact ⟨⟨_, st, ((((((((l9.trans l99).trans l122).trans l124).trans l128).trans l130).trans l132).trans l135).trans l138), f139, (k10.le (((((((l99.trans l122).trans l124).trans l128).trans l130).trans l132).trans l135).trans l138)), (f136.le l138), (k125.le ((((l128.trans l130).trans l132).trans l135).trans l138)), (k10.le (((((((l99.trans l122).trans l124).trans l128).trans l130).trans l132).trans l135).trans l138)), (k125.le ((((l128.trans l130).trans l132).trans l135).trans l138))⟩, rfl⟩
  ·refine WO.alloco (c := #[.int .i64 0, .string (⟨#[]⟩ : ByteArray), .string (⟨#[]⟩ : ByteArray), .bool false, .slice none 0 0, .slice none 0 0, .string (⟨#[]⟩ : ByteArray), .slice none 0 0, .slice none 0 0, .slice none 0 0, .slice none 0 0, .slice none 0 0, .slice none 0 0]) 10 rfl rfl rfl ze32 rfl (fun b _ H' l => good_grew ((Le.refl _).trans l) (fun _ h => .tail _ (h))) ?_
   intro b140 H141 l142
   refine WS.two (i := 2) (j := 11) (by kernel_rfl) ?_ ?_
   ·refine WO.call 2 rfl rfl rfl (fun _ H' l => good_grew (l142.trans l) (fun _ h => .tail _ (h))) en14 rfl rfl (fun W H' hs' l => c14 a0.o hs' (k0p.o.le ((l4.trans l142).trans l))) ?_
    rintro _ H143 l144 ⟨xx150, rfl, k145⟩
    refine WS.two (i := 7) (j := 11) (by kernel_rfl) ?_ ?_
    ·refine WO.call 7 rfl rfl rfl (fun _ H' l => good_grew ((l142.trans l144).trans l) (fun _ h => .tail _ (h))) en15 rfl rfl (fun W H' hs' l => c15 a0.to hs' (k0p.to.le (((l4.trans l142).trans l144).trans l))) ?_
     rintro _ H147 l148 ⟨xx200, rfl, k149⟩
     refine WS.one (i := 11) (by kernel_rfl) ?_
     refine WO.alloco (c := #[.int .i64 0, .string (⟨#[]⟩ : ByteArray), .string (⟨#[]⟩ : ByteArray)]) 11 rfl rfl rfl ze23 rfl (fun b _ H' l => good_grew (((l142.trans l144).trans l148).trans l) (fun _ h => .tail _ (.tail _ (h)))) ?_
     intro b151 H152 l153
     refine WS.one (i := 12) (by kernel_rfl) ?_
     refine WO.front2 ?_
     refine WO.store (o := 0) (c' := [.int .i64 xx150.ref.kind, .string xx150.ref.space, .string xx150.ref.name, .bool xx150.good, xx150.labels.v, xx150.ports.v, .string xx150.cls, xx150.listeners.v, xx150.parents.v, xx150.hosts.v, xx150.rules.v, xx150.frm.v, xx150.to.v]) 12 rfl rfl (fun _ H' l => good_grew ((((l142.trans l144).trans l148).trans l153).trans l) (fun _ h => .tail _ (.tail _ (h)))) rfl rfl rfl ty32 rfl (Enc.one (α := Object) _) rfl rfl ?_
     intro H154 l155
     refine WS.pk 13 rfl (good_grew ((((l142.trans l144).trans l148).trans l153).trans l155) (fun _ h => .tail _ (.tail _ (h)))) (fun W hC => Pu.assign rfl) ?_
     refine WS.one (i := 14) (by kernel_rfl) ?_
     refine WO.front2 ?_
     refine WO.store (o := 0) (c' := [.int .i64 xx200.kind, .string xx200.space, .string xx200.name]) 14 rfl rfl (fun _ H' l => good_grew (((((l142.trans l144).trans l148).trans l153).trans l155).trans l) (fun _ h => .tail _ (.tail _ (h)))) rfl rfl rfl ty23 rfl (Enc.one (α := Ref) _) rfl rfl ?_
     intro H156 l157
     refine WS.pk 15 rfl (good_grew (((((l142.trans l144).trans l148).trans l153).trans l155).trans l157) (fun _ h => .tail _ (.tail _ (h)))) (fun W hC => Pu.assign rfl) ?_
     refine WS.fin (by kernel_rfl) (fun W160 H158 st l159 => ?_)
     obtain ⟨H161, st, l162, f163⟩ := st.keepbox
     obtain ⟨H164, st, l165, f166⟩ := st.keepbox
     refine QX.meets ⟨b140, b151, xx150, xx200⟩ ?_ (.cons rfl (.cons rfl (.cons rfl (.cons rfl (.nil _)))))
     exact ⟨⟨_, st, ((((((((l142.trans l144).trans l148).trans l153).trans l155).trans l157).trans l159).trans l162).trans l165), f166, (k145.le ((((((l148.trans l153).trans l155).trans l157).trans l159).trans l162).trans l165)), (f163.le l165), (k149.le (((((l153.trans l155).trans l157).trans l159).trans l162).trans l165)), (k145.le ((((((l148.trans l153).trans l155).trans l157).trans l159).trans l162).trans l165)), (k149.le (((((l153.trans l155).trans l157).trans l159).trans l162).trans l165))⟩, rfl⟩
    ·refine WO.alloco (c := #[.int .i64 0, .string (⟨#[]⟩ : ByteArray), .string (⟨#[]⟩ : ByteArray)]) 11 rfl rfl rfl ze23 rfl (fun b _ H' l => good_grew ((l142.trans l144).trans l) (fun _ h => .tail _ (.tail _ (h)))) ?_
     intro b167 H168 l169
     refine WS.one (i := 7) (by kernel_rfl) ?_
     refine WO.call 7 rfl rfl rfl (fun _ H' l => good_grew (((l142.trans l144).trans l169).trans l) (fun _ h => .tail _ (.tail _ (h)))) en15 rfl rfl (fun W H' hs' l => c15 a0.to hs' (k0p.to.le ((((l4.trans l142).trans l144).trans l169).trans l))) ?_
     rintro _ H170 l171 ⟨xx200, rfl, k172⟩
     refine WS.one (i := 12) (by kernel_rfl) ?_
     refine WO.front2 ?_
     refine WO.store (o := 0) (c' := [.int .i64 xx150.ref.kind, .string xx150.ref.space, .string xx150.ref.name, .bool xx150.good, xx150.labels.v, xx150.ports.v, .string xx150.cls, xx150.listeners.v, xx150.parents.v, xx150.hosts.v, xx150.rules.v, xx150.frm.v, xx150.to.v]) 12 rfl rfl (fun _ H' l => good_grew ((((l142.trans l144).trans l169).trans l171).trans l) (fun _ h => .tail _ (.tail _ (h)))) rfl rfl rfl ty32 rfl (Enc.one (α := Object) _) rfl rfl ?_
     intro H174 l175
     refine WS.pk 13 rfl (good_grew ((((l142.trans l144).trans l169).trans l171).trans l175) (fun _ h => .tail _ (.tail _ (h)))) (fun W hC => Pu.assign rfl) ?_
     refine WS.one (i := 14) (by kernel_rfl) ?_
     refine WO.front2 ?_
     refine WO.store (o := 0) (c' := [.int .i64 xx200.kind, .string xx200.space, .string xx200.name]) 14 rfl rfl (fun _ H' l => good_grew (((((l142.trans l144).trans l169).trans l171).trans l175).trans l) (fun _ h => .tail _ (.tail _ (h)))) rfl rfl rfl ty23 rfl (Enc.one (α := Ref) _) rfl rfl ?_
     intro H176 l177
     refine WS.pk 15 rfl (good_grew (((((l142.trans l144).trans l169).trans l171).trans l175).trans l177) (fun _ h => .tail _ (.tail _ (h)))) (fun W hC => Pu.assign rfl) ?_
     refine WS.fin (by kernel_rfl) (fun W180 H178 st l179 => ?_)
     obtain ⟨H181, st, l182, f183⟩ := st.keepbox
     obtain ⟨H184, st, l185, f186⟩ := st.keepbox
     refine QX.meets ⟨b140, b167, xx150, xx200⟩ ?_ (.cons rfl (.cons rfl (.cons rfl (.cons rfl (.nil _)))))
     exact ⟨⟨_, st, ((((((((l142.trans l144).trans l169).trans l171).trans l175).trans l177).trans l179).trans l182).trans l185), f186, (k145.le ((((((l169.trans l171).trans l175).trans l177).trans l179).trans l182).trans l185)), (f183.le l185), (k172.le ((((l175.trans l177).trans l179).trans l182).trans l185)), (k145.le ((((((l169.trans l171).trans l175).trans l177).trans l179).trans l182).trans l185)), (k172.le ((((l175.trans l177).trans l179).trans l182).trans l185))⟩, rfl⟩
   ·refine WO.alloco (c := #[.int .i64 0, .string (⟨#[]⟩ : ByteArray), .string (⟨#[]⟩ : ByteArray)]) 11 rfl rfl rfl ze23 rfl (fun b _ H' l => good_grew (l142.trans l) (fun _ h => .tail _ (.tail _ (h)))) ?_
    intro b187 H188 l189
    refine WS.one (i := 2) (by kernel_rfl) ?_
    refine WO.call 2 rfl rfl rfl (fun _ H' l => good_grew ((l142.trans l189).trans l) (fun _ h => .tail _ (.tail _ (h)))) en14 rfl rfl (fun W H' hs' l => c14 a0.o hs' (k0p.o.le (((l4.trans l142).trans l189).trans l))) ?_
    rintro _ H190 l191 ⟨xx150, rfl, k192⟩
    refine WS.one (i := 7) (by kernel_rfl) ?_
    refine WO.call 7 rfl rfl rfl (fun _ H' l => good_grew (((l142.trans l189).trans l191).trans l) (fun _ h => .tail _ (.tail _ (h)))) en15 rfl rfl (fun W H' hs' l => c15 a0.to hs' (k0p.to.le ((((l4.trans l142).trans l189).trans l191).trans l))) ?_
    rintro _ H194 l195 ⟨xx200, rfl, k196⟩
    refine WS.one (i := 12) (by kernel_rfl) ?_
    refine WO.front2 ?_
    refine WO.store (o := 0) (c' := [.int .i64 xx150.ref.kind, .string xx150.ref.space, .string xx150.ref.name, .bool xx150.good, xx150.labels.v, xx150.ports.v, .string xx150.cls, xx150.listeners.v, xx150.parents.v, xx150.hosts.v, xx150.rules.v, xx150.frm.v, xx150.to.v]) 12 rfl rfl (fun _ H' l => good_grew ((((l142.trans l189).trans l191).trans l195).trans l) (fun _ h => .tail _ (.tail _ (h)))) rfl rfl rfl ty32 rfl (Enc.one (α := Object) _) rfl rfl ?_
    intro H198 l199
    refine WS.pk 13 rfl (good_grew ((((l142.trans l189).trans l191).trans l195).trans l199) (fun _ h => .tail _ (.tail _ (h)))) (fun W hC => Pu.assign rfl) ?_
    refine WS.one (i := 14) (by kernel_rfl) ?_
    refine WO.front2 ?_
    refine WO.store (o := 0) (c' := [.int .i64 xx200.kind, .string xx200.space, .string xx200.name]) 14 rfl rfl (fun _ H' l => good_grew (((((l142.trans l189).trans l191).trans l195).trans l199).trans l) (fun _ h => .tail _ (.tail _ (h)))) rfl rfl rfl ty23 rfl (Enc.one (α := Ref) _) rfl rfl ?_
    intro H200 l201
    refine WS.pk 15 rfl (good_grew (((((l142.trans l189).trans l191).trans l195).trans l199).trans l201) (fun _ h => .tail _ (.tail _ (h)))) (fun W hC => Pu.assign rfl) ?_
    refine WS.fin (by kernel_rfl) (fun W204 H202 st l203 => ?_)
    obtain ⟨H205, st, l206, f207⟩ := st.keepbox
    obtain ⟨H208, st, l209, f210⟩ := st.keepbox
    refine QX.meets ⟨b140, b187, xx150, xx200⟩ ?_ (.cons rfl (.cons rfl (.cons rfl (.cons rfl (.nil _)))))
    exact ⟨⟨_, st, ((((((((l142.trans l189).trans l191).trans l195).trans l199).trans l201).trans l203).trans l206).trans l209), f210, (k192.le (((((l195.trans l199).trans l201).trans l203).trans l206).trans l209)), (f207.le l209), (k196.le ((((l199.trans l201).trans l203).trans l206).trans l209)), (k192.le (((((l195.trans l199).trans l201).trans l203).trans l206).trans l209)), (k196.le ((((l199.trans l201).trans l203).trans l206).trans l209))⟩, rfl⟩
  ·refine WO.alloco (c := #[.int .i64 0, .string (⟨#[]⟩ : ByteArray), .string (⟨#[]⟩ : ByteArray)]) 11 rfl rfl rfl ze23 rfl (fun b _ H' l => good_grew ((Le.refl _).trans l) (fun _ h => .tail _ (h))) ?_
   intro b211 H212 l213
   refine WS.two (i := 2) (j := 10) (by kernel_rfl) ?_ ?_
   ·refine WO.call 2 rfl rfl rfl (fun _ H' l => good_grew (l213.trans l) (fun _ h => .tail _ (h))) en14 rfl rfl (fun W H' hs' l => c14 a0.o hs' (k0p.o.le ((l4.trans l213).trans l))) ?_
    rintro _ H214 l215 ⟨xx150, rfl, k216⟩
    refine WS.two (i := 7) (j := 10) (by kernel_rfl) ?_ ?_
    ·refine WO.call 7 rfl rfl rfl (fun _ H' l => good_grew ((l213.trans l215).trans l) (fun _ h => .tail _ (h))) en15 rfl rfl (fun W H' hs' l => c15 a0.to hs' (k0p.to.le (((l4.trans l213).trans l215).trans l))) ?_
     rintro _ H218 l219 ⟨xx200, rfl, k220⟩
     refine WS.one (i := 10) (by kernel_rfl) ?_
     refine WO.alloco (c := #[.int .i64 0, .string (⟨#[]⟩ : ByteArray), .string (⟨#[]⟩ : ByteArray), .bool false, .slice none 0 0, .slice none 0 0, .string (⟨#[]⟩ : ByteArray), .slice none 0 0, .slice none 0 0, .slice none 0 0, .slice none 0 0, .slice none 0 0, .slice none 0 0]) 10 rfl rfl rfl ze32 rfl (fun b _ H' l => good_grew (((l213.trans l215).trans l219).trans l) (fun _ h => .tail _ (.tail _ (h)))) ?_
     intro b222 H223 l224
     refine WS.one (i := 12) (by kernel_rfl) ?_
     refine WO.store (o := 0) (c' := [.int .i64 xx150.ref.kind, .string xx150.ref.space, .string xx150.ref.name, .bool xx150.good, xx150.labels.v, xx150.ports.v, .string xx150.cls, xx150.listeners.v, xx150.parents.v, xx150.hosts.v, xx150.rules.v, xx150.frm.v, xx150.to.v]) 12 rfl rfl (fun _ H' l => good_grew ((((l213.trans l215).trans l219).trans l224).trans l) (fun _ h => .tail _ (.tail _ (h)))) rfl rfl rfl ty32 rfl (Enc.one (α := Object) _) rfl rfl ?_
     intro H225 l226
     refine WS.pk 13 rfl (good_grew ((((l213.trans l215).trans l219).trans l224).trans l226) (fun _ h => .tail _ (.tail _ (h)))) (fun W hC => Pu.assign rfl) ?_
     refine WS.one (i := 14) (by kernel_rfl) ?_
     refine WO.front2 ?_
     refine WO.store (o := 0) (c' := [.int .i64 xx200.kind, .string xx200.space, .string xx200.name]) 14 rfl rfl (fun _ H' l => good_grew (((((l213.trans l215).trans l219).trans l224).trans l226).trans l) (fun _ h => .tail _ (.tail _ (h)))) rfl rfl rfl ty23 rfl (Enc.one (α := Ref) _) rfl rfl ?_
     intro H227 l228
     refine WS.pk 15 rfl (good_grew (((((l213.trans l215).trans l219).trans l224).trans l226).trans l228) (fun _ h => .tail _ (.tail _ (h)))) (fun W hC => Pu.assign rfl) ?_
     refine WS.fin (by kernel_rfl) (fun W231 H229 st l230 => ?_)
     obtain ⟨H232, st, l233, f234⟩ := st.keepbox
     obtain ⟨H235, st, l236, f237⟩ := st.keepbox
     refine QX.meets ⟨b222, b211, xx150, xx200⟩ ?_ (.cons rfl (.cons rfl (.cons rfl (.cons rfl (.nil _)))))
     exact ⟨⟨_, st, ((((((((l213.trans l215).trans l219).trans l224).trans l226).trans l228).trans l230).trans l233).trans l236), f237, (k216.le ((((((l219.trans l224).trans l226).trans l228).trans l230).trans l233).trans l236)), (f234.le l236), (k220.le (((((l224.trans l226).trans l228).trans l230).trans l233).trans l236)), (k216.le ((((((l219.trans l224).trans l226).trans l228).trans l230).trans l233).trans l236)), (k220.le (((((l224.trans l226).trans l228).trans l230).trans l233).trans l236))⟩, rfl⟩
    ·refine WO.alloco (c := #[.int .i64 0, .string (⟨#[]⟩ : ByteArray), .string (⟨#[]⟩ : ByteArray), .bool false, .slice none 0 0, .slice none 0 0, .string (⟨#[]⟩ : ByteArray), .slice none 0 0, .slice none 0 0, .slice none 0 0, .slice none 0 0, .slice none 0 0, .slice none 0 0]) 10 rfl rfl rfl ze32 rfl (fun b _ H' l => good_grew ((l213.trans l215).trans l) (fun _ h => .tail _ (.tail _ (h)))) ?_
     intro b238 H239 l240
     refine WS.one (i := 7) (by kernel_rfl) ?_
     refine WO.call 7 rfl rfl rfl (fun _ H' l => good_grew (((l213.trans l215).trans l240).trans l) (fun _ h => .tail _ (.tail _ (h)))) en15 rfl rfl (fun W H' hs' l => c15 a0.to hs' (k0p.to.le ((((l4.trans l213).trans l215).trans l240).trans l))) ?_
     rintro _ H241 l242 ⟨xx200, rfl, k243⟩
     refine WS.one (i := 12) (by kernel_rfl) ?_
     refine WO.store (o := 0) (c' := [.int .i64 xx150.ref.kind, .string xx150.ref.space, .string xx150.ref.name, .bool xx150.good, xx150.labels.v, xx150.ports.v, .string xx150.cls, xx150.listeners.v, xx150.parents.v, xx150.hosts.v, xx150.rules.v, xx150.frm.v, xx150.to.v]) 12 rfl rfl (fun _ H' l => good_grew ((((l213.trans l215).trans l240).trans l242).trans l) (fun _ h => .tail _ (.tail _ (h)))) rfl rfl rfl ty32 rfl (Enc.one (α := Object) _) rfl rfl ?_
     intro H245 l246
     refine WS.pk 13 rfl (good_grew ((((l213.trans l215).trans l240).trans l242).trans l246) (fun _ h => .tail _ (.tail _ (h)))) (fun W hC => Pu.assign rfl) ?_
     refine WS.one (i := 14) (by kernel_rfl) ?_
     refine WO.front2 ?_
     refine WO.store (o := 0) (c' := [.int .i64 xx200.kind, .string xx200.space, .string xx200.name]) 14 rfl rfl (fun _ H' l => good_grew (((((l213.trans l215).trans l240).trans l242).trans l246).trans l) (fun _ h => .tail _ (.tail _ (h)))) rfl rfl rfl ty23 rfl (Enc.one (α := Ref) _) rfl rfl ?_
     intro H247 l248
     refine WS.pk 15 rfl (good_grew (((((l213.trans l215).trans l240).trans l242).trans l246).trans l248) (fun _ h => .tail _ (.tail _ (h)))) (fun W hC => Pu.assign rfl) ?_
     refine WS.fin (by kernel_rfl) (fun W251 H249 st l250 => ?_)
     obtain ⟨H252, st, l253, f254⟩ := st.keepbox
     obtain ⟨H255, st, l256, f257⟩ := st.keepbox
     refine QX.meets ⟨b238, b211, xx150, xx200⟩ ?_ (.cons rfl (.cons rfl (.cons rfl (.cons rfl (.nil _)))))
     exact ⟨⟨_, st, ((((((((l213.trans l215).trans l240).trans l242).trans l246).trans l248).trans l250).trans l253).trans l256), f257, (k216.le ((((((l240.trans l242).trans l246).trans l248).trans l250).trans l253).trans l256)), (f254.le l256), (k243.le ((((l246.trans l248).trans l250).trans l253).trans l256)), (k216.le ((((((l240.trans l242).trans l246).trans l248).trans l250).trans l253).trans l256)), (k243.le ((((l246.trans l248).trans l250).trans l253).trans l256))⟩, rfl⟩
   ·refine WO.alloco (c := #[.int .i64 0, .string (⟨#[]⟩ : ByteArray), .string (⟨#[]⟩ : ByteArray), .bool false, .slice none 0 0, .slice none 0 0, .string (⟨#[]⟩ : ByteArray), .slice none 0 0, .slice none 0 0, .slice none 0 0, .slice none 0 0, .slice none 0 0, .slice none 0 0]) 10 rfl rfl rfl ze32 rfl (fun b _ H' l => good_grew (l213.trans l) (fun _ h => .tail _ (.tail _ (h)))) ?_
    intro b258 H259 l260
    refine WS.one (i := 2) (by kernel_rfl) ?_
    refine WO.call 2 rfl rfl rfl (fun _ H' l => good_grew ((l213.trans l260).trans l) (fun _ h => .tail _ (.tail _ (h)))) en14 rfl rfl (fun W H' hs' l => c14 a0.o hs' (k0p.o.le (((l4.trans l213).trans l260).trans l))) ?_
    rintro _ H261 l262 ⟨xx150, rfl, k263⟩
    refine WS.one (i := 7) (by kernel_rfl) ?_
    refine WO.call 7 rfl rfl rfl (fun _ H' l => good_grew (((l213.trans l260).trans l262).trans l) (fun _ h => .tail _ (.tail _ (h)))) en15 rfl rfl (fun W H' hs' l => c15 a0.to hs' (k0p.to.le ((((l4.trans l213).trans l260).trans l262).trans l))) ?_
    rintro _ H265 l266 ⟨xx200, rfl, k267⟩
    refine WS.one (i := 12) (by kernel_rfl) ?_
    refine WO.store (o := 0) (c' := [.int .i64 xx150.ref.kind, .string xx150.ref.space, .string xx150.ref.name, .bool xx150.good, xx150.labels.v, xx150.ports.v, .string xx150.cls, xx150.listeners.v, xx150.parents.v, xx150.hosts.v, xx150.rules.v, xx150.frm.v, xx150.to.v]) 12 rfl rfl (fun _ H' l => good_grew ((((l213.trans l260).trans l262).trans l266).trans l) (fun _ h => .tail _ (.tail _ (h)))) rfl rfl rfl ty32 rfl (Enc.one (α := Object) _) rfl rfl ?_
    intro H269 l270
    refine WS.pk 13 rfl (good_grew ((((l213.trans l260).trans l262).trans l266).trans l270) (fun _ h => .tail _ (.tail _ (h)))) (fun W hC => Pu.assign rfl) ?_
    refine WS.one (i := 14) (by kernel_rfl) ?_
    refine WO.front2 ?_
    refine WO.store (o := 0) (c' := [.int .i64 xx200.kind, .string xx200.space, .string xx200.name]) 14 rfl rfl (fun _ H' l => good_grew (((((l213.trans l260).trans l262).trans l266).trans l270).trans l) (fun _ h => .tail _ (.tail _ (h)))) rfl rfl rfl ty23 rfl (Enc.one (α := Ref) _) rfl rfl ?_
    intro H271 l272
    refine WS.pk 15 rfl (good_grew (((((l213.trans l260).trans l262).trans l266).trans l270).trans l272) (fun _ h => .tail _ (.tail _ (h)))) (fun W hC => Pu.assign rfl) ?_
    refine WS.fin (by kernel_rfl) (fun W275 H273 st l274 => ?_)
    obtain ⟨H276, st, l277, f278⟩ := st.keepbox
    obtain ⟨H279, st, l280, f281⟩ := st.keepbox
    refine QX.meets ⟨b258, b211, xx150, xx200⟩ ?_ (.cons rfl (.cons rfl (.cons rfl (.cons rfl (.nil _)))))
    exact ⟨⟨_, st, ((((((((l213.trans l260).trans l262).trans l266).trans l270).trans l272).trans l274).trans l277).trans l280), f281, (k263.le (((((l266.trans l270).trans l272).trans l274).trans l277).trans l280)), (f278.le l280), (k267.le ((((l270.trans l272).trans l274).trans l277).trans l280)), (k263.le (((((l266.trans l270).trans l272).trans l274).trans l277).trans l280)), (k267.le ((((l270.trans l272).trans l274).trans l277).trans l280))⟩, rfl⟩
 rintro ⟨r6, r7, xx150, xx200⟩ W284 ⟨⟨H282, st, l283, k286, k287, k288, k289, k290, k291⟩, e285⟩
 replace st : St w _ _ _ [] := st
 replace k286 : At H282 ⟨r6, 0, none⟩ [.int .i64 xx150.ref.kind, .string xx150.ref.space, .string xx150.ref.name, .bool xx150.good, xx150.labels.v, xx150.ports.v, .string xx150.cls, xx150.listeners.v, xx150.parents.v, xx150.hosts.v, xx150.rules.v, xx150.frm.v, xx150.to.v] := k286
 replace k287 : Object.Ok 1048576 H282 xx150 := k287
 replace k288 : At H282 ⟨r7, 0, none⟩ [.int .i64 xx200.kind, .string xx200.space, .string xx200.name] := k288
 replace k289 : Ref.Ok 1048576 H282 xx200 := k289
 replace k290 : Object.Ok 1048576 H282 xx150 := k290
 replace k291 : Ref.Ok 1048576 H282 xx200 := k291
 replace e285 : m3_j0 = () := e285
 show QX _ _ _ [(4, Value.int .i64 a0.kind), (6, Value.int .u8 a0.at_), (3, Value.pointer (some (⟨r6, 0, none⟩ : Addr))), (5, Value.pointer (some (⟨r7, 0, none⟩ : Addr)))] _
 refine QX.thenN ?_
 iterate 2 refine CW.seq ?_
 refine CW.reg ?_
 refine WL.pv (Pu.fa rfl fo32_0) ?_
 refine WL.pv (Pu.fa rfl fo23_2) ?_
 refine WL.pv (Pu.load rfl ty9 (((k286.drop 0).drop 2).w st.sub) rfl) ?_
 refine WL.call rfl rfl en16 rfl rfl st (c16 xx150.ref.name st.sub (Nat.lt_trans k287.ref.name (by decide))) ?_
 rintro _ W292 H293 st l294 ⟨xx260, rfl, k295⟩
 refine WL.lit (M := 1048576) ([(⟨#[119, 101, 98]⟩ : ByteArray), (⟨#[97, 112, 112]⟩ : ByteArray), xx260] : List ByteArray) rfl rfl ap28 rfl rfl rfl rfl rfl rfl rfl rfl rfl (by decide) (OkL.cons (okS (by first|omega|simp<;>omega)) (OkL.cons (okS (by first|omega|simp<;>omega)) (OkL.cons (okS k295) OkL.nil))) st ?_
 intro b298 W297 H299 st l300 k301
 have z302 : ([(⟨#[119, 101, 98]⟩ : ByteArray), (⟨#[97, 112, 112]⟩ : ByteArray), xx260] : List ByteArray).length ≤ 1048576 := k301.top
 refine WL.pv (Pu.lens (n := ([(⟨#[119, 101, 98]⟩ : ByteArray), (⟨#[97, 112, 112]⟩ : ByteArray), xx260] : List ByteArray).length) rfl sl28) ?_
 refine WL.mv rfl ?_
 refine WL.nt ?_
 refine (CW.cuts (fun (s : Unit) W => (∃ H', St w W H H' [] ∧ Le H299 H') ∧ m3_l1 a0 xx150 xx200 xx260 (((([(⟨#[119, 101, 98]⟩ : ByteArray), (⟨#[97, 112, 112]⟩ : ByteArray), xx260] : List ByteArray).length : Int) - 0).toNat) 0 = .inr ()) (fun (s : Unit) => []) ?_ ?_)
 ·refine CW.blk (CW.loop (fun (s : Nat × Int) W => (∃ H', St w W H H' [] ∧ Le H299 H') ∧ 0 ≤ s.2 ∧ s.2 ≤ (([(⟨#[119, 101, 98]⟩ : ByteArray), (⟨#[97, 112, 112]⟩ : ByteArray), xx260] : List ByteArray).length : Int) ∧ s.1 = ((([(⟨#[119, 101, 98]⟩ : ByteArray), (⟨#[97, 112, 112]⟩ : ByteArray), xx260] : List ByteArray).length : Int) - s.2).toNat ∧ m3_l1 a0 xx150 xx200 xx260 s.1 s.2 = m3_l1 a0 xx150 xx200 xx260 (((([(⟨#[119, 101, 98]⟩ : ByteArray), (⟨#[97, 112, 112]⟩ : ByteArray), xx260] : List ByteArray).length : Int) - 0).toNat) 0) (fun (s : Nat × Int) => [(3, Value.pointer (some (⟨r6, 0, none⟩ : Addr))), (4, Value.int .i64 a0.kind), (5, Value.pointer (some (⟨r7, 0, none⟩ : Addr))), (6, Value.int .u8 a0.at_), (27, (⟨some ⟨b298, 0, none⟩, 3, ([(⟨#[119, 101, 98]⟩ : ByteArray), (⟨#[97, 112, 112]⟩ : ByteArray), xx260] : List ByteArray)⟩ : Sl ByteArray).v), (28, Value.int .i64 (([(⟨#[119, 101, 98]⟩ : ByteArray), (⟨#[97, 112, 112]⟩ : ByteArray), xx260] : List ByteArray).length : Int)), (29, Value.int .i64 s.2)]) (fun s => s.1) ⟨((([(⟨#[119, 101, 98]⟩ : ByteArray), (⟨#[97, 112, 112]⟩ : ByteArray), xx260] : List ByteArray).length : Int) - 0).toNat, 0⟩ ⟨⟨_, st, Le.refl _⟩, (by first|omega|simp<;>omega), (by first|omega|simp<;>omega), rfl, rfl⟩ (.cons rfl (.cons rfl (.cons rfl (.cons rfl (.cons rfl (.cons rfl (.cons rfl (.nil _)))))))) ?_)
  rintro ⟨N312, r303⟩ W307 ⟨⟨H305, st, l306⟩, g391, g392, g311, e308⟩
  replace g391 : 0 ≤ r303 := g391
  replace g392 : r303 ≤ (([(⟨#[119, 101, 98]⟩ : ByteArray), (⟨#[97, 112, 112]⟩ : ByteArray), xx260] : List ByteArray).length : Int) := g392
  replace g311 : N312 = ((([(⟨#[119, 101, 98]⟩ : ByteArray), (⟨#[97, 112, 112]⟩ : ByteArray), xx260] : List ByteArray).length : Int) - r303).toNat := g311
  replace e308 : m3_l1 a0 xx150 xx200 xx260 N312 r303 = m3_l1 a0 xx150 xx200 xx260 (((([(⟨#[119, 101, 98]⟩ : ByteArray), (⟨#[97, 112, 112]⟩ : ByteArray), xx260] : List ByteArray).length : Int) - 0).toNat) 0 := e308
  show CW _ _ _ _ [(3, Value.pointer (some (⟨r6, 0, none⟩ : Addr))), (4, Value.int .i64 a0.kind), (5, Value.pointer (some (⟨r7, 0, none⟩ : Addr))), (6, Value.int .u8 a0.at_), (27, (⟨some ⟨b298, 0, none⟩, 3, ([(⟨#[119, 101, 98]⟩ : ByteArray), (⟨#[97, 112, 112]⟩ : ByteArray), xx260] : List ByteArray)⟩ : Sl ByteArray).v), (28, Value.int .i64 (([(⟨#[119, 101, 98]⟩ : ByteArray), (⟨#[97, 112, 112]⟩ : ByteArray), xx260] : List ByteArray).length : Int)), (29, Value.int .i64 r303)] _
  refine CW.seq ?_
  refine CW.reg ?_
  refine WL.pv (Pu.ilt rfl rfl) ?_
  refine WL.nt ?_
  refine CW.seq ?_
  refine CW.condP 30 rfl dT dF (fun h313 => ?_) (fun h313 => ?_)
  ·obtain ⟨n304, rfl⟩ : ∃ k, N312 = k + 1 := ⟨N312 - 1, by omega⟩
   refine CW.skip (QX.thenN ?_)
   refine CW.seq ?_
   refine CW.blk ?_
   refine CW.seq ?_
   refine CW.reg ?_
   have y314 := lg_get (l := ([(⟨#[119, 101, 98]⟩ : ByteArray), (⟨#[97, 112, 112]⟩ : ByteArray), xx260] : List ByteArray)) (i := r303) (by omega) (by omega)
   have k317 : (lg ([(⟨#[119, 101, 98]⟩ : ByteArray), (⟨#[97, 112, 112]⟩ : ByteArray), xx260] : List ByteArray) r303).size < 1048576 := ((k301.le l306).get _ _ y314).2
   refine WL.idx (s := (⟨some ⟨b298, 0, none⟩, 3, ([(⟨#[119, 101, 98]⟩ : ByteArray), (⟨#[97, 112, 112]⟩ : ByteArray), xx260] : List ByteArray)⟩ : Sl ByteArray)) rfl rfl rfl rfl sl28 (k301.le l306) (by omega) y314 ?_
   intro ad315 f316
   refine WL.pv (Pu.load rfl ty9 (f316.w st.sub) rfl) ?_
   refine WL.as rfl ?_
   refine WL.nt ?_
   refine CW.seq ?_
   refine CW.reg ?_
   refine WL.pv (Pu.load (v := Object.v xx150) rfl ty32 ((k286.le ((l294.trans l300).trans l306)).w st.sub) rfl) ?_
   iterate 2 refine WL.mv rfl ?_
   refine WL.pv (Pu.load (v := Ref.v xx200) rfl ty23 ((k288.le ((l294.trans l300).trans l306)).w st.sub) rfl) ?_
   refine WL.callv rfl rfl en17 rfl rfl st (c17 xx150 a0.kind (lg ([(⟨#[119, 101, 98]⟩ : ByteArray), (⟨#[97, 112, 112]⟩ : ByteArray), xx260] : List ByteArray) r303) xx200 st.sub (k287.le ((l294.trans l300).trans l306)) k317 (k289.le ((l294.trans l300).trans l306))) ?_
   intro W318 st
   refine WL.as rfl ?_
   refine WL.nt ?_
   iterate 2 refine CW.seq ?_
   refine CW.reg ?_
   refine WL.pv (Pu.load (v := Object.v xx150) rfl ty32 ((k286.le ((l294.trans l300).trans l306)).w st.sub) rfl) ?_
   refine WL.callv rfl rfl en18 rfl rfl st (c18 xx150 st.sub (k287.le ((l294.trans l300).trans l306))) ?_
   intro W319 st
   refine WL.pv (Pu.notb rfl) ?_
   refine WL.nt ?_
   refine CW.condP 40 rfl mT mF (fun h320 => ?_) (fun h320 => ?_)
   ·refine CW.seq ?_
    refine CW.reg ?_
    refine WL.mv rfl ?_
    refine WL.pv (Pu.notb rfl) ?_
    refine WL.mv rfl ?_
    refine WL.splitP 43 rfl mT mF (fun h321 => ?_) (fun h321 => ?_)
    ·refine WL.callv rfl rfl en19 rfl rfl st (c19  st.sub ) ?_
     intro W322 st
     refine WL.pv (Pu.pickT rfl rfl) ?_
     refine WL.as rfl ?_
     refine WL.nt ?_
     refine CW.ret (QX.thenR (QX.blkR (QX.thenR (QX.thenR (QX.blkR (QX.thenR (QX.thenR (finA Tryz.results3 st (.tmp rfl .nil) ?_))))))))
     exact ⟨xx150, xx200, xx260, congrArg (fun z => Value.bool z) (Eq.symm ((lk1_eq e285).trans (lk_inl ((Eq.symm e308).trans ((if_neg h320).trans (if_neg h321))))))⟩
    ·refine WL.of ?_
     refine WL.pv (Pu.pickF rfl rfl) ?_
     refine WL.as rfl ?_
     refine WL.nt ?_
     refine CW.ret (QX.thenR (QX.blkR (QX.thenR (QX.thenR (QX.blkR (QX.thenR (QX.thenR (finA Tryz.results3 st (.tmp rfl .nil) ?_))))))))
     exact ⟨xx150, xx200, xx260, congrArg (fun z => Value.bool z) (Eq.symm ((lk1_eq e285).trans (lk_inl ((Eq.symm e308).trans ((if_neg h320).trans (if_pos h321))))))⟩
   ·refine CW.skip (QX.thenN ?_)
    refine CW.seq (CW.cuts (fun (s : Unit) W => (∃ H', St w W H H' [] ∧ Le H305 H') ∧ m3_j2 a0 xx150 xx200 xx260 r303 = .inr ()) (fun (s : Unit) => [(3, Value.pointer (some (⟨r6, 0, none⟩ : Addr))), (4, Value.int .i64 a0.kind), (5, Value.pointer (some (⟨r7, 0, none⟩ : Addr))), (6, Value.int .u8 a0.at_), (8, Value.string (lg ([(⟨#[119, 101, 98]⟩ : ByteArray), (⟨#[97, 112, 112]⟩ : ByteArray), xx260] : List ByteArray) r303)), (9, Value.bool (m17 xx150 a0.kind (lg ([(⟨#[119, 101, 98]⟩ : ByteArray), (⟨#[97, 112, 112]⟩ : ByteArray), xx260] : List ByteArray) r303) xx200)), (27, (⟨some ⟨b298, 0, none⟩, 3, ([(⟨#[119, 101, 98]⟩ : ByteArray), (⟨#[97, 112, 112]⟩ : ByteArray), xx260] : List ByteArray)⟩ : Sl ByteArray).v), (28, Value.int .i64 (([(⟨#[119, 101, 98]⟩ : ByteArray), (⟨#[97, 112, 112]⟩ : ByteArray), xx260] : List ByteArray).length : Int)), (29, Value.int .i64 r303)]) ?_ ?_)
    ·refine CW.seq ?_
     refine CW.reg ?_
     refine WL.pv (Pu.fa rfl fo32_9) ?_
     refine WL.pv (Pu.load rfl ty30 (((k286.le ((l294.trans l300).trans l306)).drop 11).w st.sub) rfl) ?_
     have z323 : xx150.frm.l.length ≤ 1048576 := (k287.frm.le ((l294.trans l300).trans l306)).top
     refine WL.pv (Pu.lens (n := xx150.frm.l.length) rfl sl30) ?_
     refine WL.pv (Pu.igt rfl rfl) ?_
     refine WL.nt ?_
     refine CW.condP 49 rfl dT dF (fun h324 => ?_) (fun h324 => ?_)
     ·refine CW.seq ?_
      refine CW.reg ?_
      refine WL.mv rfl ?_
      have z325 := k0p.at__r
      refine WL.pv (Pu.convi (c := a0.at_) rfl Tryz.underlying5 Tryz.underlying3 (w64 (by omega) (by omega))) ?_
      refine WL.pv (Pu.fa rfl fo32_9) ?_
      refine WL.pv (Pu.load rfl ty30 (((k286.le ((l294.trans l300).trans l306)).drop 11).w st.sub) rfl) ?_
      have z326 : xx150.frm.l.length ≤ 1048576 := (k287.frm.le ((l294.trans l300).trans l306)).top
      refine WL.pv (Pu.lens (n := xx150.frm.l.length) rfl sl30) ?_
      have z327 := Int.emod_nonneg a0.at_ (show (xx150.frm.l.length : Int) ≠ 0 by omega)
      have z328 := Int.emod_lt_of_pos a0.at_ (show 0 < (xx150.frm.l.length : Int) by omega)
      refine WL.pv (Pu.irem rfl rfl (by omega) (by omega)) ?_
      refine WL.as rfl ?_
      refine WL.nt ?_
      refine CW.seq ?_
      refine CW.reg ?_
      refine WL.pv (Pu.load (v := Object.v xx150) rfl ty32 ((k286.le ((l294.trans l300).trans l306)).w st.sub) rfl) ?_
      refine WL.alloco (c := #[.int .i64 0, .string (⟨#[]⟩ : ByteArray), .string (⟨#[]⟩ : ByteArray), .bool false, .slice none 0 0, .slice none 0 0, .string (⟨#[]⟩ : ByteArray), .slice none 0 0, .slice none 0 0, .slice none 0 0, .slice none 0 0, .slice none 0 0, .slice none 0 0]) rfl rfl ze32 rfl st ?_
      intro b329 W330 st
      refine WL.store (o := 0) (c' := [.int .i64 xx150.ref.kind, .string xx150.ref.space, .string xx150.ref.name, .bool xx150.good, xx150.labels.v, xx150.ports.v, .string xx150.cls, xx150.listeners.v, xx150.parents.v, xx150.hosts.v, xx150.rules.v, xx150.frm.v, xx150.to.v]) rfl rfl rfl rfl ty32 rfl (Enc.one (α := Object) _) rfl rfl st ?_
      intro W331 st
      refine WL.nt ?_
      refine CW.seq ?_
      refine CW.regS (C := Cl w H305 [Own.box b329 (.cells #[.int .i64 xx150.ref.kind, .string xx150.ref.space, .string xx150.ref.name, .bool xx150.good, xx150.labels.v, xx150.ports.v, .string xx150.cls, xx150.listeners.v, xx150.parents.v, xx150.hosts.v, xx150.rules.v, xx150.frm.v, xx150.to.v] 32 (0, 0))]) (tail := [13]) (S := Grew w H H305 [Own.box b329 (.cells #[.int .i64 xx150.ref.kind, .string xx150.ref.space, .string xx150.ref.name, .bool xx150.good, xx150.labels.v, xx150.ports.v, .string xx150.cls, xx150.listeners.v, xx150.parents.v, xx150.hosts.v, xx150.rules.v, xx150.frm.v, xx150.to.v] 32 (0, 0))]) mixed (fun W' h1 h2 h3 h4 => grew_start st h1 h2 h3 h4) (n := 14) rfl ?_
      refine WS.pk 1 rfl gg (fun W hC => Pu.fa rfl fo32_9) ?_
      refine WS.pk 2 rfl gg (fun W hC => Pu.load rfl ty30 (((k286.le ((l294.trans l300).trans l306)).drop 11).w hC.1) rfl) ?_
      refine WS.pk 3 rfl gg (fun W hC => Pu.move rfl) ?_
      have z332 : (xx150.frm.hi (a0.at_ % (xx150.frm.l.length : Int))).l.length = min (a0.at_ % (xx150.frm.l.length : Int)).toNat xx150.frm.l.length := List.length_take
      refine WS.pk 4 rfl gg (fun W hC => Pu.slhi (s := xx150.frm) rfl rfl sl30 (k287.frm.le ((l294.trans l300).trans l306)) (by omega) (by omega)) ?_
      refine WS.pk 6 rfl gg (fun W hC => Pu.fa rfl fo32_9) ?_
      refine WS.pk 7 rfl gg (fun W hC => Pu.load rfl ty30 (((k286.le ((l294.trans l300).trans l306)).drop 11).w hC.1) rfl) ?_
      refine WS.pk 8 rfl gg (fun W hC => Pu.move rfl) ?_
      refine WS.pk 9 rfl gg (fun W hC => Pu.iadd rfl rfl (c := (a0.at_ % (xx150.frm.l.length : Int)) + 1) (w64 (by omega) (by omega))) ?_
      have z333 : (xx150.frm.lo ((a0.at_ % (xx150.frm.l.length : Int)) + 1)).l.length = xx150.frm.l.length - ((a0.at_ % (xx150.frm.l.length : Int)) + 1).toNat := List.length_drop
      refine WS.pk 10 rfl gg (fun W hC => Pu.sllo (s := xx150.frm) rfl rfl sl30 (k287.frm.le ((l294.trans l300).trans l306)) (by omega) (by omega)) ?_
      refine WS.one (i := 0) (by kernel_rfl) ?_
      refine WO.litrow ([] : List Side) 0 rfl rfl rfl (fun b _ H' l => good_grew ((Le.refl _).trans l) (fun _ h => .tail _ (h))) ap30 rfl rfl rfl rfl rfl rfl rfl rfl rfl ?_
      intro b334 H335 l336
      refine WS.one (i := 5) (by kernel_rfl) ?_
      refine WO.appS (s2 := xx150.frm.hi (a0.at_ % (xx150.frm.l.length : Int))) 5 rfl rfl rfl (fun _ A m c H' l => good_grew (l336.trans l) (fun _ h => .tail _ (h))) ap30 rfl rfl rfl rfl rfl (((k287.frm.le ((l294.trans l300).trans l306)).hi (a0.at_ % (xx150.frm.l.length : Int))).le l336) (by first|omega|simp<;>omega) (by first|omega|simp<;>omega) ?_
      intro A337 mm338 n339 H340 l341
      refine WS.one (i := 11) (by kernel_rfl) ?_
      refine WO.appS (s2 := xx150.frm.lo ((a0.at_ % (xx150.frm.l.length : Int)) + 1)) 11 rfl rfl rfl (fun _ A m c H' l => good_grew ((l336.trans l341).trans l) (fun _ h => .tail _ (h))) ap30 rfl rfl rfl rfl rfl (((k287.frm.le ((l294.trans l300).trans l306)).lo ((a0.at_ % (xx150.frm.l.length : Int)) + 1)).le (l336.trans l341)) (by first|omega|simp<;>omega) (by first|omega|simp<;>omega) ?_
      intro A342 mm343 n344 H345 l346
      refine WS.pk 12 rfl (good_grew ((l336.trans l341).trans l346) (fun _ h => .tail _ (h))) (fun W hC => Pu.fa rfl fo32_9) ?_
      refine WS.one (i := 13) (by kernel_rfl) ?_
      refine WO.front2 ?_
      refine WO.store (o := 11) (c' := [.int .i64 xx150.ref.kind, .string xx150.ref.space, .string xx150.ref.name, .bool xx150.good, xx150.labels.v, xx150.ports.v, .string xx150.cls, xx150.listeners.v, xx150.parents.v, xx150.hosts.v, xx150.rules.v, (.slice A342 mm343 n344), xx150.to.v]) 13 rfl rfl (tlT (by kernel_rfl)) rfl rfl rfl ty30 rfl (one1 rfl rfl) rfl rfl ?_
      intro H347 l348
      refine WS.fin (by kernel_rfl) (fun W351 H349 st l350 => ?_)
      refine QX.thenN ?_
      refine CW.seq ?_
      refine CW.reg ?_
      replace st := st.front2
      obtain ⟨H352, st', l353, rfl, k354⟩ := st.settle (M := 1048576) (OkL.app (OkL.app OkL.nil (OkL.of (((k287.frm.le ((l294.trans l300).trans l306)).hi (a0.at_ % (xx150.frm.l.length : Int))).le ((((l336.trans l341).trans l346).trans l348).trans l350)))) (OkL.of (((k287.frm.le ((l294.trans l300).trans l306)).lo ((a0.at_ % (xx150.frm.l.length : Int)) + 1)).le ((((l336.trans l341).trans l346).trans l348).trans l350)))) (by first|omega|simp<;>omega)
      have st := st'
      refine WL.pv (Pu.load (v := Object.v (⟨xx150.ref, xx150.good, xx150.labels, xx150.ports, xx150.cls, xx150.listeners, xx150.parents, xx150.hosts, xx150.rules, (⟨A342, n344, (([] : List Side) ++ (xx150.frm.l.take (a0.at_ % (xx150.frm.l.length : Int)).toNat)) ++ (xx150.frm.l.drop ((a0.at_ % (xx150.frm.l.length : Int)) + 1).toNat)⟩ : Sl Side), xx150.to⟩ : Object)) rfl ty32 (AtW.block (st.own _ (.head _)).1.2) rfl) ?_
      iterate 2 refine WL.mv rfl ?_
      refine WL.pv (Pu.load (v := Ref.v xx200) rfl ty23 ((k288.le ((((((((l294.trans l300).trans l306).trans l336).trans l341).trans l346).trans l348).trans l350).trans l353)).w st.sub) rfl) ?_
      refine WL.callv (r := .bool (m17 (⟨xx150.ref, xx150.good, xx150.labels, xx150.ports, xx150.cls, xx150.listeners, xx150.parents, xx150.hosts, xx150.rules, (⟨none, 0, (([] : List Side) ++ (xx150.frm.l.take (a0.at_ % (xx150.frm.l.length : Int)).toNat)) ++ (xx150.frm.l.drop ((a0.at_ % (xx150.frm.l.length : Int)) + 1).toNat)⟩ : Sl Side), xx150.to⟩ : Object) a0.kind (lg ([(⟨#[119, 101, 98]⟩ : ByteArray), (⟨#[97, 112, 112]⟩ : ByteArray), xx260] : List ByteArray) r303) xx200)) rfl rfl en17 rfl rfl st ((c17 (⟨xx150.ref, xx150.good, xx150.labels, xx150.ports, xx150.cls, xx150.listeners, xx150.parents, xx150.hosts, xx150.rules, (⟨A342, n344, (([] : List Side) ++ (xx150.frm.l.take (a0.at_ % (xx150.frm.l.length : Int)).toNat)) ++ (xx150.frm.l.drop ((a0.at_ % (xx150.frm.l.length : Int)) + 1).toNat)⟩ : Sl Side), xx150.to⟩ : Object) a0.kind (lg ([(⟨#[119, 101, 98]⟩ : ByteArray), (⟨#[97, 112, 112]⟩ : ByteArray), xx260] : List ByteArray) r303) xx200 st.sub ⟨(k287.ref.le ((((((((l294.trans l300).trans l306).trans l336).trans l341).trans l346).trans l348).trans l350).trans l353)), (k287.labels.le ((((((((l294.trans l300).trans l306).trans l336).trans l341).trans l346).trans l348).trans l350).trans l353)), (k287.ports.le ((((((((l294.trans l300).trans l306).trans l336).trans l341).trans l346).trans l348).trans l350).trans l353)), k287.cls, (k287.listeners.le ((((((((l294.trans l300).trans l306).trans l336).trans l341).trans l346).trans l348).trans l350).trans l353)), (k287.parents.le ((((((((l294.trans l300).trans l306).trans l336).trans l341).trans l346).trans l348).trans l350).trans l353)), (k287.hosts.le ((((((((l294.trans l300).trans l306).trans l336).trans l341).trans l346).trans l348).trans l350).trans l353)), (k287.rules.le ((((((((l294.trans l300).trans l306).trans l336).trans l341).trans l346).trans l348).trans l350).trans l353)), k354, (k287.to.le ((((((((l294.trans l300).trans l306).trans l336).trans l341).trans l346).trans l348).trans l350).trans l353))⟩ k317 (k289.le ((((((((l294.trans l300).trans l306).trans l336).trans l341).trans l346).trans l348).trans l350).trans l353))).mono fun _ _ _ h => h.trans (by kernel_rfl)) ?_
      intro W355 st
      refine WL.mv rfl ?_
      refine WL.splitP 75 rfl rT rF (fun h356 => ?_) (fun h356 => ?_)
      ·refine WL.mv rfl ?_
       refine WL.pv (Pu.notb rfl) ?_
       refine WL.pv (Pu.pickT rfl rfl) ?_
       refine WL.nt ?_
       refine CW.condP 78 rfl mT mF (fun h357 => ?_) (fun h357 => ?_)
       ·refine CW.seq ?_
        refine CW.reg ?_
        refine WL.as rfl ?_
        refine WL.nt ?_
        refine CW.ret (QX.thenR (QX.thenR (QX.blkR (QX.thenR (QX.thenR (QX.blkR (QX.thenR (QX.thenR (finA Tryz.results3 st (.tmp rfl .nil) ?_)))))))))
        exact ⟨xx150, xx200, xx260, congrArg (fun z => Value.bool z) (Eq.symm ((lk1_eq e285).trans (lk_inl ((Eq.symm e308).trans ((if_pos h320).trans (lkR_inl ((if_pos h324).trans ((if_pos h356).trans (if_neg h357)))))))))⟩
       ·refine CW.skip (QX.meets () ?_ (.cons rfl (.cons rfl (.cons rfl (.cons rfl (.cons rfl (.cons rfl (.cons rfl (.cons rfl (.cons rfl (.nil _)))))))))))
        replace st := st.forget
        exact ⟨⟨_, st, (((((l336.trans l341).trans l346).trans l348).trans l350).trans l353)⟩, (if_pos h324).trans ((if_pos h356).trans (if_pos h357))⟩
      ·refine WL.of ?_
       refine WL.of ?_
       refine WL.pv (Pu.pickF rfl rfl) ?_
       refine WL.nt ?_
       refine CW.condF rfl ?_
       refine CW.skip (QX.meets () ?_ (.cons rfl (.cons rfl (.cons rfl (.cons rfl (.cons rfl (.cons rfl (.cons rfl (.cons rfl (.cons rfl (.nil _)))))))))))
       replace st := st.forget
       exact ⟨⟨_, st, (((((l336.trans l341).trans l346).trans l348).trans l350).trans l353)⟩, (if_pos h324).trans (if_neg h356)⟩
     ·refine CW.skip (QX.meets () ?_ (.cons rfl (.cons rfl (.cons rfl (.cons rfl (.cons rfl (.cons rfl (.cons rfl (.cons rfl (.cons rfl (.nil _)))))))))))
      exact ⟨⟨_, st, (Le.refl _)⟩, if_neg h324⟩
    rintro _ W360 ⟨⟨H358, st, l359⟩, e361⟩
    show QX _ _ _ [(3, Value.pointer (some (⟨r6, 0, none⟩ : Addr))), (4, Value.int .i64 a0.kind), (5, Value.pointer (some (⟨r7, 0, none⟩ : Addr))), (6, Value.int .u8 a0.at_), (8, Value.string (lg ([(⟨#[119, 101, 98]⟩ : ByteArray), (⟨#[97, 112, 112]⟩ : ByteArray), xx260] : List ByteArray) r303)), (9, Value.bool (m17 xx150 a0.kind (lg ([(⟨#[119, 101, 98]⟩ : ByteArray), (⟨#[97, 112, 112]⟩ : ByteArray), xx260] : List ByteArray) r303) xx200)), (27, (⟨some ⟨b298, 0, none⟩, 3, ([(⟨#[119, 101, 98]⟩ : ByteArray), (⟨#[97, 112, 112]⟩ : ByteArray), xx260] : List ByteArray)⟩ : Sl ByteArray).v), (28, Value.int .i64 (([(⟨#[119, 101, 98]⟩ : ByteArray), (⟨#[97, 112, 112]⟩ : ByteArray), xx260] : List ByteArray).length : Int)), (29, Value.int .i64 r303)] _
    refine QX.thenN ?_
    refine CW.seq ?_
    refine CW.reg ?_
    refine WL.pv (Pu.fa rfl fo32_10) ?_
    refine WL.pv (Pu.load rfl ty30 (((k286.le (((l294.trans l300).trans l306).trans l359)).drop 12).w st.sub) rfl) ?_
    have z362 : xx150.to.l.length ≤ 1048576 := (k287.to.le (((l294.trans l300).trans l306).trans l359)).top
    refine WL.pv (Pu.lens (n := xx150.to.l.length) rfl sl30) ?_
    refine WL.pv (Pu.igt rfl rfl) ?_
    refine WL.mv rfl ?_
    refine WL.splitP 83 rfl dT dF (fun h363 => ?_) (fun h363 => ?_)
    ·refine WL.pv (Pu.fa rfl fo32_10) ?_
     refine WL.pv (Pu.load rfl ty30 (((k286.le (((l294.trans l300).trans l306).trans l359)).drop 12).w st.sub) rfl) ?_
     have z364 : xx150.to.l.length ≤ 1048576 := (k287.to.le (((l294.trans l300).trans l306).trans l359)).top
     refine WL.pv (Pu.lens (n := xx150.to.l.length) rfl sl30) ?_
     refine WL.pv (Pu.ilt rfl rfl) ?_
     refine WL.pv (Pu.pickT rfl rfl) ?_
     refine WL.nt ?_
     refine CW.condP 88 rfl dT dF (fun h365 => ?_) (fun h365 => ?_)
     ·refine CW.seq ?_
      refine CW.reg ?_
      refine WL.pv (Pu.load (v := Object.v xx150) rfl ty32 ((k286.le (((l294.trans l300).trans l306).trans l359)).w st.sub) rfl) ?_
      refine WL.alloco (c := #[.int .i64 0, .string (⟨#[]⟩ : ByteArray), .string (⟨#[]⟩ : ByteArray), .bool false, .slice none 0 0, .slice none 0 0, .string (⟨#[]⟩ : ByteArray), .slice none 0 0, .slice none 0 0, .slice none 0 0, .slice none 0 0, .slice none 0 0, .slice none 0 0]) rfl rfl ze32 rfl st ?_
      intro b366 W367 st
      refine WL.store (o := 0) (c' := [.int .i64 xx150.ref.kind, .string xx150.ref.space, .string xx150.ref.name, .bool xx150.good, xx150.labels.v, xx150.ports.v, .string xx150.cls, xx150.listeners.v, xx150.parents.v, xx150.hosts.v, xx150.rules.v, xx150.frm.v, xx150.to.v]) rfl rfl rfl rfl ty32 rfl (Enc.one (α := Object) _) rfl rfl st ?_
      intro W368 st
      refine WL.nt ?_
      refine CW.seq ?_
      refine CW.reg ?_
      refine WL.litrow ([] : List Side) rfl rfl ap30 rfl rfl rfl rfl rfl rfl rfl rfl rfl st ?_
      intro b370 W369 st
      refine WL.pv (Pu.fa rfl fo32_10) ?_
      refine WL.pv (Pu.load rfl ty30 (((k286.le (((l294.trans l300).trans l306).trans l359)).drop 12).w st.sub) rfl) ?_
      refine WL.appS (s2 := xx150.to) rfl rfl ap30 rfl rfl rfl rfl rfl (k287.to.le (((l294.trans l300).trans l306).trans l359)) (by first|omega|simp<;>omega) (by first|omega|simp<;>omega) st ?_
      intro A371 mm372 n373 W374 st
      refine WL.pv (Pu.buildL (cs := Side.c (⟨3, (⟨#[]⟩ : ByteArray), (⟨#[]⟩ : ByteArray)⟩ : Side)) st41 rfl rfl rfl) ?_
      refine WL.lit (M := 1048576) ([(⟨3, (⟨#[]⟩ : ByteArray), (⟨#[]⟩ : ByteArray)⟩ : Side)] : List Side) rfl rfl ap30 rfl rfl rfl rfl rfl rfl rfl rfl rfl (by decide) (OkL.cons (show Side.Ok _ _ (⟨3, (⟨#[]⟩ : ByteArray), (⟨#[]⟩ : ByteArray)⟩ : Side) from ⟨(by first|omega|simp<;>omega), (by first|omega|simp<;>omega)⟩) OkL.nil) st ?_
      intro b376 W375 H377 st l378 k379
      refine WL.appS (s2 := (⟨some ⟨b376, 0, none⟩, 1, ([(⟨3, (⟨#[]⟩ : ByteArray), (⟨#[]⟩ : ByteArray)⟩ : Side)] : List Side)⟩ : Sl Side)) rfl rfl ap30 rfl rfl rfl rfl rfl k379 (by first|omega|simp<;>omega) (by first|omega|simp<;>omega) st ?_
      intro A380 mm381 n382 W383 st
      refine WL.pv (Pu.fa rfl fo32_10) ?_
      replace st := st.front2
      refine WL.store (o := 12) (c' := [.int .i64 xx150.ref.kind, .string xx150.ref.space, .string xx150.ref.name, .bool xx150.good, xx150.labels.v, xx150.ports.v, .string xx150.cls, xx150.listeners.v, xx150.parents.v, xx150.hosts.v, xx150.rules.v, xx150.frm.v, (.slice A380 mm381 n382)]) rfl rfl rfl rfl ty30 rfl (one1 rfl rfl) rfl rfl st ?_
      intro W384 st
      refine WL.nt ?_
      refine CW.seq ?_
      refine CW.reg ?_
      iterate 2 refine WL.mv rfl ?_
      refine WL.splitP 99 rfl rT rF (fun h385 => ?_) (fun h385 => ?_)
      ·replace st := st.front2
       obtain ⟨H386, st', l387, rfl, k388⟩ := st.settle (M := 1048576) (OkL.app (OkL.app OkL.nil (OkL.of (k287.to.le ((((l294.trans l300).trans l306).trans l359).trans l378)))) (OkL.cons (show Side.Ok _ _ (⟨3, (⟨#[]⟩ : ByteArray), (⟨#[]⟩ : ByteArray)⟩ : Side) from ⟨(by first|omega|simp<;>omega), (by first|omega|simp<;>omega)⟩) OkL.nil)) (by first|omega|simp<;>omega)
       have st := st'
       refine WL.pv (Pu.load (v := Object.v (⟨xx150.ref, xx150.good, xx150.labels, xx150.ports, xx150.cls, xx150.listeners, xx150.parents, xx150.hosts, xx150.rules, xx150.frm, (⟨A380, n382, (([] : List Side) ++ xx150.to.l) ++ ([(⟨3, (⟨#[]⟩ : ByteArray), (⟨#[]⟩ : ByteArray)⟩ : Side)] : List Side)⟩ : Sl Side)⟩ : Object)) rfl ty32 (AtW.block (st.own _ (.head _)).1.2) rfl) ?_
       iterate 2 refine WL.mv rfl ?_
       refine WL.pv (Pu.load (v := Ref.v xx200) rfl ty23 ((k288.le (((((l294.trans l300).trans l306).trans l359).trans l378).trans l387)).w st.sub) rfl) ?_
       refine WL.callv (r := .bool (m17 (⟨xx150.ref, xx150.good, xx150.labels, xx150.ports, xx150.cls, xx150.listeners, xx150.parents, xx150.hosts, xx150.rules, xx150.frm, (⟨none, 0, (([] : List Side) ++ xx150.to.l) ++ ([(⟨3, (⟨#[]⟩ : ByteArray), (⟨#[]⟩ : ByteArray)⟩ : Side)] : List Side)⟩ : Sl Side)⟩ : Object) a0.kind (lg ([(⟨#[119, 101, 98]⟩ : ByteArray), (⟨#[97, 112, 112]⟩ : ByteArray), xx260] : List ByteArray) r303) xx200)) rfl rfl en17 rfl rfl st ((c17 (⟨xx150.ref, xx150.good, xx150.labels, xx150.ports, xx150.cls, xx150.listeners, xx150.parents, xx150.hosts, xx150.rules, xx150.frm, (⟨A380, n382, (([] : List Side) ++ xx150.to.l) ++ ([(⟨3, (⟨#[]⟩ : ByteArray), (⟨#[]⟩ : ByteArray)⟩ : Side)] : List Side)⟩ : Sl Side)⟩ : Object) a0.kind (lg ([(⟨#[119, 101, 98]⟩ : ByteArray), (⟨#[97, 112, 112]⟩ : ByteArray), xx260] : List ByteArray) r303) xx200 st.sub ⟨(k287.ref.le (((((l294.trans l300).trans l306).trans l359).trans l378).trans l387)), (k287.labels.le (((((l294.trans l300).trans l306).trans l359).trans l378).trans l387)), (k287.ports.le (((((l294.trans l300).trans l306).trans l359).trans l378).trans l387)), k287.cls, (k287.listeners.le (((((l294.trans l300).trans l306).trans l359).trans l378).trans l387)), (k287.parents.le (((((l294.trans l300).trans l306).trans l359).trans l378).trans l387)), (k287.hosts.le (((((l294.trans l300).trans l306).trans l359).trans l378).trans l387)), (k287.rules.le (((((l294.trans l300).trans l306).trans l359).trans l378).trans l387)), (k287.frm.le (((((l294.trans l300).trans l306).trans l359).trans l378).trans l387)), k388⟩ k317 (k289.le (((((l294.trans l300).trans l306).trans l359).trans l378).trans l387))).mono fun _ _ _ h => h.trans (by kernel_rfl)) ?_
       intro W389 st
       refine WL.pv (Pu.notb rfl) ?_
       refine WL.pv (Pu.pickT rfl rfl) ?_
       refine WL.nt ?_
       refine CW.condP 106 rfl mT mF (fun h390 => ?_) (fun h390 => ?_)
       ·refine CW.seq ?_
        refine CW.reg ?_
        refine WL.as rfl ?_
        refine WL.nt ?_
        refine CW.ret (QX.blkR (QX.thenR (QX.thenR (QX.blkR (QX.thenR (QX.thenR (finA Tryz.results3 st (.tmp rfl .nil) ?_)))))))
        exact ⟨xx150, xx200, xx260, congrArg (fun z => Value.bool z) (Eq.symm ((lk1_eq e285).trans (lk_inl ((Eq.symm e308).trans ((if_pos h320).trans ((lkR_inr e361).trans ((if_pos h363).trans ((if_pos h365).trans ((if_pos h385).trans (if_neg h390))))))))))⟩
       ·refine CW.skip (QX.blkN (QX.thenN ?_))
        refine CW.reg ?_
        refine WL.pv (Pu.iadd rfl rfl (c := r303 + 1) (w64 (by omega) (by omega))) ?_
        refine WL.mv rfl ?_
        refine WL.nil (QX.round ⟨n304, r303 + 1⟩ ?_ (Nat.lt_succ_self _) (.cons rfl (.cons rfl (.cons rfl (.cons rfl (.cons rfl (.cons rfl (.cons rfl (.nil _)))))))))
        replace st := st.forget
        exact ⟨⟨_, st, (((l306.trans l359).trans l378).trans l387)⟩, (by first|omega|simp<;>omega), (by first|omega|simp<;>omega), (by first|omega|simp<;>omega), Eq.symm ((Eq.symm e308).trans ((if_pos h320).trans ((lkR_inr e361).trans ((if_pos h363).trans ((if_pos h365).trans ((if_pos h385).trans (if_pos h390)))))))⟩
      ·refine WL.of ?_
       iterate 5 refine WL.of ?_
       refine WL.pv (Pu.pickF rfl rfl) ?_
       refine WL.nt ?_
       refine CW.condF rfl ?_
       refine CW.skip (QX.blkN (QX.thenN ?_))
       refine CW.reg ?_
       refine WL.pv (Pu.iadd rfl rfl (c := r303 + 1) (w64 (by omega) (by omega))) ?_
       refine WL.mv rfl ?_
       refine WL.nil (QX.round ⟨n304, r303 + 1⟩ ?_ (Nat.lt_succ_self _) (.cons rfl (.cons rfl (.cons rfl (.cons rfl (.cons rfl (.cons rfl (.cons rfl (.nil _)))))))))
       replace st := st.forget
       replace st := st.forget
       exact ⟨⟨_, st, ((l306.trans l359).trans l378)⟩, (by first|omega|simp<;>omega), (by first|omega|simp<;>omega), (by first|omega|simp<;>omega), Eq.symm ((Eq.symm e308).trans ((if_pos h320).trans ((lkR_inr e361).trans ((if_pos h363).trans ((if_pos h365).trans (if_neg h385))))))⟩
     ·refine CW.skip (QX.blkN (QX.thenN ?_))
      refine CW.reg ?_
      refine WL.pv (Pu.iadd rfl rfl (c := r303 + 1) (w64 (by omega) (by omega))) ?_
      refine WL.mv rfl ?_
      refine WL.nil (QX.round ⟨n304, r303 + 1⟩ ?_ (Nat.lt_succ_self _) (.cons rfl (.cons rfl (.cons rfl (.cons rfl (.cons rfl (.cons rfl (.cons rfl (.nil _)))))))))
      exact ⟨⟨_, st, (l306.trans l359)⟩, (by first|omega|simp<;>omega), (by first|omega|simp<;>omega), (by first|omega|simp<;>omega), Eq.symm ((Eq.symm e308).trans ((if_pos h320).trans ((lkR_inr e361).trans ((if_pos h363).trans (if_neg h365)))))⟩
    ·refine WL.of ?_
     iterate 3 refine WL.of ?_
     refine WL.pv (Pu.pickF rfl rfl) ?_
     refine WL.nt ?_
     refine CW.condF rfl ?_
     refine CW.skip (QX.blkN (QX.thenN ?_))
     refine CW.reg ?_
     refine WL.pv (Pu.iadd rfl rfl (c := r303 + 1) (w64 (by omega) (by omega))) ?_
     refine WL.mv rfl ?_
     refine WL.nil (QX.round ⟨n304, r303 + 1⟩ ?_ (Nat.lt_succ_self _) (.cons rfl (.cons rfl (.cons rfl (.cons rfl (.cons rfl (.cons rfl (.cons rfl (.nil _)))))))))
     exact ⟨⟨_, st, (l306.trans l359)⟩, (by first|omega|simp<;>omega), (by first|omega|simp<;>omega), (by first|omega|simp<;>omega), Eq.symm ((Eq.symm e308).trans ((if_pos h320).trans ((lkR_inr e361).trans (if_neg h363))))⟩
  ·obtain rfl : N312 = 0 := by omega
   refine CW.exit (QX.thenE (QX.thenE (QX.hit (QX.meets () ?_ (.nil _)))))
   exact ⟨⟨_, st, l306⟩, Eq.symm e308⟩
 rintro _ W395 ⟨⟨H393, st, l394⟩, e396⟩
 show QX _ _ _ [] _
 refine QX.thenN ?_
 refine CW.seq ?_
 refine CW.reg ?_
 refine WL.callv rfl rfl en19 rfl rfl st (c19  st.sub ) ?_
 intro W397 st
 refine WL.as rfl ?_
 refine WL.nt ?_
 refine CW.ret (finA Tryz.results3 st (.tmp rfl .nil) ?_)
 exact ⟨xx150, xx200, xx260, congrArg (fun z => Value.bool z) (Eq.symm ((lk1_eq e285).trans (lk_inr e396)))⟩
end Go.Proofs.TB
