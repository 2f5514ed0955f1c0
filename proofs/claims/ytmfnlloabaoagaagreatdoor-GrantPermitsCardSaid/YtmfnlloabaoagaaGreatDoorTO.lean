/- By hand: the iterator grant.by's function, over the contract of grant.Lets. -/
import Derived.Test.YtmfnlloabaoagaaGreatDoorTN
import Derived.Test.YtmfnlloabaoagaaGreatDoorTT
import Derived.Test.YtmfnlloabaoagaaGreatDoorProg
import Derived.Test.YtmfnlloabaoagaaGreatDoorGC
import Derived.RangeFuncKeeps
import Derived.RangeFuncBound
set_option linter.unusedVariables false
set_option maxRecDepth 100000
namespace Go.Proofs.TB
open Go.RowKit
theorem sl43o : slOf Tryz.prog 43 = some 13 := by kernel_rfl
theorem ty43o : tyOf Tryz.prog 43 = some (false, 1) := by kernel_rfl
theorem ze32o : zeOf Tryz.prog 32 = some (.agg #[.int .i64 0, .string ⟨#[]⟩, .string ⟨#[]⟩, .bool false, .slice none 0 0, .slice none 0 0, .string ⟨#[]⟩, .slice none 0 0, .slice none 0 0, .slice none 0 0, .slice none 0 0, .slice none 0 0, .slice none 0 0]) := by kernel_rfl
/-- The refs of those that let it. -/
def hits (l : List Object) (k : Int) (s : ByteArray) (to : Ref) : List Ref := (l.filter fun o => m17 o k s to).map Object.ref
theorem hits_lt {l : List Object} {k : Int} {s : ByteArray} {to : Ref} (h : l.length ≤ 1048576) (m : Nat) : (hits (l.take m) k s to).length < 1048577 := by
  have h1 : (hits (l.take m) k s to).length ≤ (l.take m).length := by unfold hits; rw [List.length_map]; exact List.length_filter_le _ _
  rw [List.length_take] at h1
  omega
theorem hits_step {l : List Object} {k : Int} {s : ByteArray} {to : Ref} {i : Int} (g : 0 ≤ i) (y : l[i.toNat]? = some (lg l i)) : hits (l.take (i + 1).toNat) k s to = hits (l.take i.toNat) k s to ++ (if m17 (lg l i) k s to = true then [(lg l i).ref] else []) := by
  have h1 : (i + 1).toNat = i.toNat + 1 := by omega
  rw [h1, List.take_add_one, y]
  unfold hits
  rw [List.filter_append, List.map_append]
  congr 1
  by_cases h : m17 (lg l i) k s to = true <;> simp [h]
theorem hits_pre {l : List Object} {k : Int} {s : ByteArray} {to : Ref} (m : Nat) : ∃ r, hits l k s to = hits (l.take m) k s to ++ r := by
  refine ⟨hits (l.drop m) k s to, ?_⟩
  unfold hits
  rw [← List.map_append, ← List.filter_append, List.take_append_drop]
theorem it146 (a0 : Sl Object) (a1 : Int) (a2 : ByteArray) (a3 : Ref) (b0 b1 b2 b3 : Addr) {w : World} {H : PH} (hs : Sub H w) (k0 : Sl.Ok 1048576 H a0) (k2 : a2.size < 1048576) (k3 : Ref.Ok 1048576 H a3) (f0 : At H b0 [a0.v]) (f1 : At H b1 [.int .i64 a1]) (f2 : At H b2 [.string a2]) (f3 : At H b3 (Ref.c a3)) (n : Nat) :
    SeqStopsK Fence.wide n Tryz.prog 146 #[.pointer (some b0), .pointer (some b1), .pointer (some b2), .pointer (some b3)] (fun x : Ref => #[x.v]) (Below w.heap.size) (fun xs => xs = hits a0.l a1 a2 a3) (fun pre => ∃ r, hits a0.l a1 a2 a3 = pre ++ r ∧ pre ≠ []) 1048577 w := by
  intro l J Jx W hW hJ hJx hY h0
  have hsW : Sub H W := hs.below hW
  refine callsIn_wide.2 (Calls.enter (l := [.func (.yield l) #[] #[], .pointer (some b0), .pointer (some b1), .pointer (some b2), .pointer (some b3)]) Tryz.func146 rfl Tryz.ntmps146 rfl ?_)
  refine CW.seq (CW.reg ?_)
  have z1 : a0.l.length ≤ 1048576 := k0.top
  refine WL.pu rfl rfl (Pu.load rfl ty43o (f0.w hsW) rfl) ?_
  refine WL.pu rfl rfl (Pu.lens (n := a0.l.length) rfl sl43o) ?_
  refine WL.pu rfl rfl (Pu.move rfl) ?_
  refine WL.nil (QX.thenN ?_)
  refine CW.blk (CW.loop (σ := Int) (fun i W => 0 ≤ i ∧ i ≤ a0.l.length ∧ Below w.heap.size w W ∧ J (hits (a0.l.take i.toNat) a1 a2 a3) W) (fun i => [(0, Value.func (.yield l) #[] #[]), (1, Value.pointer (some b0)), (2, Value.pointer (some b1)), (3, Value.pointer (some b2)), (4, Value.pointer (some b3)), (8, a0.v), (9, Value.int .i64 (a0.l.length : Int)), (10, Value.int .i64 i)]) (fun i => ((a0.l.length : Int) - i).toNat) 0 ⟨by omega, by omega, hW, h0⟩ (.cons rfl (.cons rfl (.cons rfl (.cons rfl (.cons rfl (.cons rfl (.cons rfl (.cons rfl (.nil _))))))))) ?_)
  rintro i W1 ⟨g0, g1, hb, hj⟩
  show CW _ _ _ _ [(0, Value.func (.yield l) #[] #[]), (1, Value.pointer (some b0)), (2, Value.pointer (some b1)), (3, Value.pointer (some b2)), (4, Value.pointer (some b3)), (8, a0.v), (9, Value.int .i64 (a0.l.length : Int)), (10, Value.int .i64 i)] _
  have hs1 : Sub H W1 := hs.below hb
  have st := St.start hs1
  refine CW.seq (CW.reg ?_)
  refine WL.pu rfl rfl (Pu.ilt rfl rfl) ?_
  refine WL.nil (QX.thenN ?_)
  refine CW.seq ?_
  refine CW.condP 11 rfl dT dF (fun h => ?_) (fun h => ?_)
  · refine CW.skip (QX.thenN ?_)
    refine CW.seq (CW.blk ?_)
    refine CW.seq (CW.reg ?_)
    have y := lg_get (l := a0.l) (i := i) (by omega) (by omega)
    have ky : Object.Ok 1048576 H (lg a0.l i) := (k0.get _ _ y).2
    refine WL.idx (s := a0) rfl rfl rfl rfl sl43o k0 (by omega) y ?_
    intro ad f
    refine WL.pu rfl rfl (Pu.load (v := Object.v (lg a0.l i)) rfl ty32 (f.w st.sub) rfl) ?_
    refine WL.alloco rfl rfl ze32o rfl st ?_
    intro b W2 st
    refine WL.store (o := 0) (c' := Object.c (lg a0.l i)) rfl rfl rfl rfl ty32 rfl (Enc.one (α := Object) _) rfl rfl st ?_
    intro W3 st
    obtain ⟨H4, st, l4, f4⟩ := st.keepbox
    refine WL.nil (QX.thenN ?_)
    refine CW.seq (CW.regI n ?_)
    have hF : OpenF Fence.wide := .inl rfl
    refine WLI.pu hF rfl rfl (Pu.load (v := Object.v (lg a0.l i)) rfl ty32 (f4.w st.sub) rfl) ?_
    refine WLI.pu hF rfl rfl (Pu.load rfl ty3 ((f1.le l4).w st.sub) rfl) ?_
    refine WLI.pu hF rfl rfl (Pu.load rfl ty9 ((f2.le l4).w st.sub) rfl) ?_
    refine WLI.pu hF rfl rfl (Pu.load (v := Ref.v a3) rfl ty23 ((f3.le l4).w st.sub) rfl) ?_
    refine WLI.callv hF rfl rfl en17 rfl rfl st (c17 (lg a0.l i) a1 a2 a3 st.sub (ky.le l4) k2 (k3.le l4)) ?_
    intro W5 st
    refine WLI.pu hF rfl rfl (Pu.move rfl) ?_
    refine WLI.splitP 19 rfl rT rF (fun h5 => ?_) (fun h5 => ?_)
    · refine WLI.pu hF rfl rfl (Pu.move rfl) ?_
      refine WLI.pu hF rfl rfl (Pu.fa rfl fo32_0) ?_
      refine WLI.pu hF rfl rfl (Pu.load (v := Ref.v (lg a0.l i).ref) rfl ty23 ((f4.drop 0).w st.sub) rfl) ?_
      have hj5 : J (hits (a0.l.take i.toNat) a1 a2 a3) W5 := abides_below hJ hj st.bel
      have hb5 : Below w.heap.size w W5 := hb.trans (st.bel.mono hb.size)
      refine WLI.yield (R := fun b W' => (b = true ∧ J (hits (a0.l.take i.toNat) a1 a2 a3 ++ [(lg a0.l i).ref]) W' ∧ Below w.heap.size W5 W') ∨ (b = false ∧ Jx (hits (a0.l.take i.toNat) a1 a2 a3 ++ [(lg a0.l i).ref]) W')) hF rfl rfl rfl rfl (YieldAt.mono (hY _ (lg a0.l i).ref _ hj5 (hits_lt z1 _)) fun e W' he => ?_) ?_
      · rcases he with ⟨rfl, h6, h7⟩ | ⟨rfl, h6⟩
        · exact ⟨true, rfl, .inl ⟨rfl, h6, h7⟩⟩
        · exact ⟨false, rfl, .inr ⟨rfl, h6⟩⟩
      rintro b6 W6 (⟨rfl, h6, h7⟩ | ⟨rfl, h6⟩)
      · refine WLI.pu hF rfl rfl (Pu.notb rfl) ?_
        refine WLI.pu hF rfl rfl (Pu.pickT rfl rfl) ?_
        refine WLI.nilW (QX.thenN ?_)
        refine CW.condF rfl ?_
        refine CW.skip (QX.blkN (QX.thenN ?_))
        refine CW.reg ?_
        refine WL.pu rfl rfl (Pu.iadd rfl rfl (c := i + 1) (w64 (by omega) (by omega))) ?_
        refine WL.pu rfl rfl (Pu.move rfl) ?_
        refine WL.nil (QX.round (i + 1) ?_ (by omega) (.cons rfl (.cons rfl (.cons rfl (.cons rfl (.cons rfl (.cons rfl (.cons rfl (.cons rfl (.nil _)))))))))) 
        refine ⟨by omega, by omega, hb5.trans h7, ?_⟩
        rw [hits_step g0 y, if_pos h5]
        exact h6
      · refine WLI.pu hF rfl rfl (Pu.notb rfl) ?_
        refine WLI.pu hF rfl rfl (Pu.pickT rfl rfl) ?_
        refine WLI.nilW (QX.thenN ?_)
        refine CW.condT rfl ?_
        refine CW.ret (QX.blkR (QX.thenR (QX.thenR (QX.blkR (fun a ha => bodyPost_ret (run_results ha Tryz.results146 .nil) ha.defers ⟨⟨_, rfl⟩, .inr ⟨_, ?_, h6⟩⟩)))))
        obtain ⟨r, hr⟩ := hits_pre (l := a0.l) (k := a1) (s := a2) (to := a3) (i + 1).toNat
        rw [hits_step g0 y, if_pos h5] at hr
        exact ⟨r, hr, by simp⟩
    · refine WLI.off hF rfl rfl ?_
      refine WLI.off hF rfl rfl ?_
      refine WLI.off hF rfl rfl ?_
      refine WLI.off hF rfl rfl ?_
      refine WLI.off hF rfl rfl ?_
      refine WLI.pu hF rfl rfl (Pu.pickF rfl rfl) ?_
      refine WLI.nilW (QX.thenN ?_)
      refine CW.condF rfl ?_
      refine CW.skip (QX.blkN (QX.thenN ?_))
      refine CW.reg ?_
      refine WL.pu rfl rfl (Pu.iadd rfl rfl (c := i + 1) (w64 (by omega) (by omega))) ?_
      refine WL.pu rfl rfl (Pu.move rfl) ?_
      refine WL.nil (QX.round (i + 1) ?_ (by omega) (.cons rfl (.cons rfl (.cons rfl (.cons rfl (.cons rfl (.cons rfl (.cons rfl (.cons rfl (.nil _)))))))))) 
      refine ⟨by omega, by omega, hb.trans (st.bel.mono hb.size), ?_⟩
      rw [hits_step g0 y, if_neg h5, List.append_nil]
      exact abides_below hJ hj st.bel
  · refine CW.exit (QX.thenE (QX.thenE (QX.hit ?_)))
    have hi : (a0.l.take i.toNat) = a0.l := List.take_of_length_le (by omega)
    rw [hi] at hj
    refine fun a ha => ⟨ha.defers, _, run_results ha Tryz.results146 .nil, ⟨_, rfl⟩, .inl ⟨_, rfl, hj⟩⟩
theorem en90 : En Tryz.prog 90 := En.of Tryz.func90 (by kernel_rfl) rfl
theorem c90 (a0 : Sl Object) (a1 : Int) (a2 : ByteArray) (a3 : Ref) {w : World} {H : PH} (hs : Sub H w) : Spec Tryz.prog 90 [a0.v, .int .i64 a1, .string a2, a3.v].toArray w H (fun H' v => ∃ b0 b1 b2 b3 : Addr, v = .func (.func 146) #[] [.pointer (some b0), .pointer (some b1), .pointer (some b2), .pointer (some b3)].toArray ∧ At H' b0 [a0.v] ∧ At H' b1 [.int .i64 a1] ∧ At H' b2 [.string a2] ∧ At H' b3 (Ref.c a3)) := by
  refine Spec.enter Tryz.func90 rfl Tryz.ntmps90 rfl ?_
  have st := St.start hs
  refine CW.seq (CW.reg ?_)
  refine WL.box rfl rfl rfl rfl st ?_
  intro b0 W0 H0 st l0 f0
  refine WL.box rfl rfl rfl rfl st ?_
  intro b1 W1 H1 st l1 f1
  refine WL.box rfl rfl rfl rfl st ?_
  intro b2 W2 H2 st l2 f2
  refine WL.box rfl rfl rfl rfl st ?_
  intro b3 W3 H3 st l3 f3
  refine WL.pu rfl rfl (Pu.assign rfl) ?_
  refine WL.nil (QX.thenN ?_)
  refine CW.seq (CW.reg ?_)
  refine WL.pu rfl rfl (Pu.mkf rfl) ?_
  refine WL.pu rfl rfl (Pu.assign rfl) ?_
  refine WL.nil (QX.thenN ?_)
  refine CW.ret (fun a ha => finR Tryz.results90 st (.tmp rfl .nil) ?_ ha)
  exact ⟨_, _, _, _, rfl, f0.le ((l1.trans l2).trans l3), f1.le (l2.trans l3), f2.le l3, f3⟩
def m22 (l : List Object) (k : Int) (s : ByteArray) (to : Ref) : Bool := !(hits l k s to).isEmpty || decide (s = to.space)
theorem c22 (a0 : Sl Object) (a1 : Int) (a2 : ByteArray) (a3 : Ref) {w : World} {H : PH} (hs : Sub H w) (k0 : Sl.Ok 1048576 H a0) (k2 : a2.size < 1048576) (k3 : Ref.Ok 1048576 H a3) : Spec Tryz.prog 22 [a0.v, .int .i64 a1, .string a2, a3.v].toArray w H (fun _ v => v = .bool (m22 a0.l a1 a2 a3)) := by
  refine Spec.marks Tryz.func22 rfl Tryz.ntmps22 rfl ?_
  have st := St.start hs
  refine CW.seq (CW.reg ?_)
  refine WL.box rfl rfl rfl rfl st ?_
  intro b7 W1 H1 st l1 f7
  refine WL.alloco (c := #[.bool false]) rfl rfl ze4 rfl st ?_
  intro b8 W2 st
  refine WL.nil (QX.thenN ?_)
  refine CW.seq (CW.seq (CW.reg ?_))
  refine WL.pu rfl rfl (Pu.move rfl) ?_
  refine WL.pu rfl rfl (Pu.move rfl) ?_
  refine WL.pu rfl rfl (Pu.move rfl) ?_
  refine WL.pu rfl rfl (Pu.load (v := Ref.v a3) rfl ty23 (f7.w st.sub) rfl) ?_
  refine WL.call rfl rfl en90 rfl rfl st (c90 a0 a1 a2 a3 st.sub) ?_
  rintro _ W3 H3 st l3 ⟨d0, d1, d2, d3, rfl, e0, e1, e2, e3⟩
  refine WL.nil (QX.thenN ?_)
  refine CW.blk ?_
  intro a ha
  refine (wpIn_wide (n := 3)).1 ?_
  have hB : ∀ b o, H3 b = some o → b < W3.heap.size := fun b o e => st.lt e
  have cel : ∀ (v : Bool), ∀ e ∈ [Own.box b8 (.cells #[.bool v] 4 (0, 0))], e.celly := fun v e he => by rw [List.mem_singleton.1 he]; rfl
  have hz := k0.top
  have hD3 : ∀ D, W3.heap.size ≤ D → H3 D = none := fun D hD => by
    cases e : H3 D with
    | none => rfl
    | some o => have := hB D o e; omega
  have hb8 := (Array.getElem?_eq_some_iff.1 (st.own _ (.head _)).1.2).1
  refine wpIn_rangeFunc_ownF rfl (by omega) (gf := 146) (lb := #[.pointer (some d0), .pointer (some d1), .pointer (some d2), .pointer (some d3)]) (ha.eval (x := .tmp 13) rfl) trivial (En.of Tryz.func146 (by kernel_rfl) rfl)
    (it146 a0 a1 a2 a3 d0 d1 d2 d3 st.sub (k0.le (l1.trans l3)) k2 (k3.le (l1.trans l3)) e0 e1 e2 e3 2) belowK_t (fun W l o o' hl h h1 h2 => belowK_b (Nat.le_refl _) W l o o' hl h h1 h2) (Below.refl _ _) (fun _ => rfl)
    (fun pre W => pre = [] ∧ St w W H H3 [.box b8 (.cells #[.bool false] 4 (0, 0))]) (fun c pre W => c = .ret ∧ St w W H H3 [.box b8 (.cells #[.bool true] 4 (0, 0))])
    (fun s A B row hs hg hr => ⟨hs.1, hs.2.grownF st.bel.size hB (cel _) hg hr⟩) (fun c s A B row hs hg hr => ⟨hs.1, hs.2.grownF st.bel.size hB (cel _) hg hr⟩) ⟨rfl, st⟩
    (fun x => { tmps := (#[14].zip #[x.v]).foldl (fun t (p, v) => t.setIfInBounds p v) a.tmps, defers := [] }) ?_ ?_ ?_ ?_
  · intro l x W K hK
    exact wpIn_skip hK
  · rintro l pre x W ⟨rfl, hs⟩ _
    have hF : OpenF (Fence.wide.inRound l) := .inr ⟨l, rfl⟩
    have hh : HoldsD 19 [] { tmps := (#[14].zip #[x.v]).foldl (fun t (p, v) => t.setIfInBounds p v) a.tmps, defers := [] } [(8, .pointer (some ⟨b8, 0, none⟩))] := by
      have hz2 : (#[14].zip #[x.v]).foldl (fun t (p, v) => t.setIfInBounds p v) a.tmps = a.tmps.setIfInBounds 14 x.v := by simp [Array.zip]
      rw [hz2]
      exact HoldsD.of (a := { tmps := a.tmps.setIfInBounds 14 x.v, defers := [] }) ((Holds.put ⟨ha.size, rfl, ha.get⟩ (a := { tmps := a.tmps, defers := [] }) (d := 14) rfl x.v).sub (.cons rfl (.nil _))) rfl
    refine wpIn_block (CWI.seq (CWI.reg ?_) _ hh)
    refine WLI.store (o := 0) (c' := [.bool true]) hF rfl rfl rfl rfl ty4 rfl (one1 rfl rfl) rfl rfl hs ?_
    intro W5 st5 hg
    refine WLI.nil (fun a'' ha'' => ?_)
    refine CWI.ret (F := Fence.wide.inRound l) (n := 1) (P := Tryz.prog) (N := 19) (D := []) (fun a3 ha3 => ?_) a'' ha''
    exact ⟨KeepsOthers.of_turn hg (hs.own _ (.head _)).1.2 rfl, rfl, st5⟩
  · rintro D xs W hD hx ⟨rfl, hI⟩ hK
    have hF : OpenF Fence.wide := .inl rfl
    have hd : HoldsD 19 [{ target := .collected D, args := #[] }] { a with defers := { target := .collected D, args := #[] } :: a.defers } [(2, .string a2), (7, .pointer (some ⟨b7, 0, none⟩)), (8, .pointer (some ⟨b8, 0, none⟩))] := ⟨ha.size, by show _ :: a.defers = _; rw [ha.defers], (ha.sub (.cons rfl (.cons rfl (.cons rfl (.nil _))))).get⟩
    refine (wpIn_wide (n := 3)).1 (CWI.seq (CWI.reg ?_) _ hd)
    refine WLI.pu hF rfl rfl (Pu.move rfl) ?_
    refine WLI.pu hF rfl rfl (Pu.fa rfl fo23_1) ?_
    refine WLI.pu hF rfl rfl (Pu.load rfl ty9 (((f7.le l3).drop 1).w hI.sub) rfl) ?_
    refine WLI.pu hF rfl rfl (Pu.seq rfl rfl) ?_
    refine WLI.store (o := 0) (c' := [.bool (decide (a2 = a3.space))]) hF rfl rfl rfl rfl ty4 rfl (one1 rfl rfl) rfl rfl hI ?_
    intro W4 st4 hg
    have hDb : W4.heap[D]? = some (.deferred (some [])) := (hg.block D (Array.getElem?_eq_some_iff.1 hK).1 (fun e => by cases e; omega)).trans hK
    refine WLI.nil (fun a' ha' => ?_)
    refine CWI.ret (F := Fence.wide) (n := 3) (P := Tryz.prog) (N := 19) (D := [{ target := .collected D, args := #[] }]) (env := [(8, .pointer (some ⟨b8, 0, none⟩))]) (fun a2' ha2 => ?_) a' ⟨ha'.size, ha'.defers, (ha'.h.sub (.cons rfl (.nil _))).get⟩
    refine finM (vs := [.bool (decide (a2 = a3.space))]) Tryz.results22 hDb st4 (by have := st.bel.size; omega) (hD3 D hD) (fun e he => by rw [List.mem_singleton.1 he]; rfl) (fun W' s' => .cell rfl ty4 (AtW.block (s'.own _ (.head _)).1.2) rfl .nil) (fun W' s' => ⟨H3, s'.forget, ?_⟩) ha2
    show Value.bool (decide (a2 = a3.space)) = .bool (m22 a0.l a1 a2 a3)
    rw [m22, ← hx]
    rfl
  · rintro D c pre W hD ⟨r, hr, hne⟩ ⟨rfl, hI⟩ hK
    have hd : HoldsD 19 [{ target := .collected D, args := #[] }] { a with defers := { target := .collected D, args := #[] } :: a.defers } [(8, .pointer (some ⟨b8, 0, none⟩))] := ⟨ha.size, by show _ :: a.defers = _; rw [ha.defers], (ha.sub (.cons rfl (.nil _))).get⟩
    refine CWI.ret (fun a2' ha2 => ?_) _ hd
    refine finM (vs := [.bool true]) Tryz.results22 hK hI (by have := st.bel.size; omega) (hD3 D hD) (cel _) (fun W' s' => .cell rfl ty4 (AtW.block (s'.own _ (.head _)).1.2) rfl .nil) (fun W' s' => ⟨H3, s'.forget, ?_⟩) ha2
    show Value.bool true = .bool (m22 a0.l a1 a2 a3)
    rw [m22, hr]
    cases pre with
    | nil => exact absurd rfl hne
    | cons x p => rfl
end Go.Proofs.TB
