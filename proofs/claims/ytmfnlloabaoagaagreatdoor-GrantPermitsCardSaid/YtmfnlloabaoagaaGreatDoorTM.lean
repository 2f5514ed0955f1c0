/- By hand: dns.Name, over the library's SplitSeq. -/
import Derived.Test.YtmfnlloabaoagaaGreatDoorTN
import Derived.Test.YtmfnlloabaoagaaGreatDoorGA
import Derived.Test.YtmfnlloabaoagaaGreatDoorGB
set_option linter.unusedVariables false
set_option maxRecDepth 100000
namespace Go.Proofs.TB
open Go.RowKit
theorem en212 : En Tryz.prog 212 := En.of Tryz.func212 (by kernel_rfl) rfl
theorem en263 : En Tryz.prog 263 := En.of Tryz.func263 (by kernel_rfl) rfl
theorem en300 : En Tryz.prog 300 := En.of Tryz.func300 (by kernel_rfl) rfl
theorem ze4 : zeOf Tryz.prog 4 = some (.bool false) := by kernel_rfl
abbrev R263 (a0 a1 : ByteArray) (w : World) (H : PH) : Ending → World → Prop := fun e W' => ∃ (b : Nat) (p1 p3 : Addr) (H' : PH), e = .returned (.func (.func 300) #[] [.pointer (some p1), .pointer (some (⟨b, 0, none⟩ : Addr)), .pointer (some p3)].toArray) ∧ St w W' H H' [.box b (.cells #[.string a0] 9 (0, 0))] ∧ At H' p1 [.string a1] ∧ At H' p3 [.int .i64 0]
theorem c263 (a0 a1 : ByteArray) {w : World} {H : PH} (hs : Sub H w) : Calls Tryz.prog 263 [.string a0, .string a1, .int .i64 0].toArray w (R263 a0 a1 w H) := by
  refine Calls.enter Tryz.func263 rfl Tryz.ntmps263 rfl ?_
  have st := St.start hs
  refine CW.seq (CW.reg ?_)
  refine WL.boxo (c := #[.string a0]) rfl rfl rfl rfl st ?_
  intro b W1 st
  refine WL.box rfl rfl rfl rfl st ?_
  intro b1 W2 H2 st l2 f2
  refine WL.box rfl rfl rfl rfl st ?_
  intro b2 W3 H3 st l3 f3
  refine WL.pu rfl rfl (Pu.assign rfl) ?_
  refine WL.nil (QX.thenN ?_)
  refine CW.seq (CW.reg ?_)
  refine WL.pu rfl rfl (Pu.mkf rfl) ?_
  refine WL.pu rfl rfl (Pu.assign rfl) ?_
  refine WL.nil (QX.thenN ?_)
  exact CW.ret (fun a ha => bodyPost_ret (run_results ha Tryz.results263 (.tmp rfl .nil)) ha.defers ⟨b, _, _, H3, rfl, st, f2.le l3, f3⟩)
theorem c212 (a0 a1 : ByteArray) {w : World} {H : PH} (hs : Sub H w) : Calls Tryz.prog 212 [.string a0, .string a1].toArray w (R263 a0 a1 w H) := by
  refine Calls.enter Tryz.func212 rfl Tryz.ntmps212 rfl ?_
  have st := St.start hs
  refine CW.seq (CW.reg ?_)
  refine WL.pu rfl rfl (Pu.assign rfl) ?_
  refine WL.nil (QX.thenN ?_)
  refine CW.seq (CW.reg ?_)
  refine WL.pu rfl rfl (Pu.move rfl) ?_
  refine WL.pu rfl rfl (Pu.move rfl) ?_
  refine WL.callR rfl rfl en263 rfl rfl (c263 a0 a1 st.sub) (fun e W' ⟨b, p1, p3, H', h, _⟩ => ⟨_, h⟩) ?_
  rintro _ W1 ⟨b, p1, p3, H1, h, st, f1, f3⟩
  cases h
  refine WL.pu rfl rfl (Pu.assign rfl) ?_
  refine WL.nil (QX.thenN ?_)
  exact CW.ret (fun a ha => bodyPost_ret (run_results ha Tryz.results212 (.tmp rfl .nil)) ha.defers ⟨b, _, _, H1, rfl, st, f1, f3⟩)
theorem c302d (s : ByteArray) {w : World} {H : PH} (hs : Sub H w) (k : s.size < 1048576) : Spec Tryz.prog 302 [.string s, .string ⟨#[46]⟩].toArray w H (fun _ v => v = .int .i64 (ixb s 46)) :=
  (c302 s ⟨#[46]⟩ hs k (by decide) rfl).mono (fun _ v _ h => by
    rw [h]
    congr 1
    show (if (⟨#[46]⟩ : ByteArray) = s then 0 else ixb s (bt ⟨#[46]⟩ 0)) = ixb s 46
    have e : bt ⟨#[46]⟩ 0 = 46 := rfl
    rw [e]
    split
    · rename_i h
      subst h
      decide
    · rfl)
theorem it300 (a0 : ByteArray) (b : Nat) (p1 p3 : Addr) {w : World} {H : PH} (hs : Sub H w) (f1 : At H p1 [.string ⟨#[46]⟩]) (f3 : At H p3 [.int .i64 0]) (hb : w.heap[b]? = some (.cells #[.string a0] 9 (0, 0))) (hH : H b = none) (k0 : a0.size < 1048576) (n : Nat) :
    SeqB Fence.wide n Tryz.prog 300 #[.pointer (some p1), .pointer (some ⟨b, 0, none⟩), .pointer (some p3)] (fun x : ByteArray => #[.string x]) (fun x => x.size < 1048576) (Below w.heap.size) (fun xs => xs = pieces a0) (fun pre => ∃ r, pieces a0 = pre ++ r) 1048577 b w := by
  intro l J Jx W hW hJ hJx hT hTx hY h0
  have hbw : b < w.heap.size := (Array.getElem?_eq_some_iff.1 hb).1
  have hsW : Sub H W := hs.below hW
  have hbW : W.heap[b]? = some (.cells #[.string a0] 9 (0, 0)) := (hW.block b hbw).trans hb
  have hlow : ∀ k o, H k = some o → k < w.heap.size := fun k o e => (Array.getElem?_eq_some_iff.1 (hs k o e)).1
  have np := pieces_len a0
  refine callsIn_wide.2 (Calls.enter (l := [.func (.yield l) #[] #[], .pointer (some p1), .pointer (some ⟨b, 0, none⟩), .pointer (some p3)]) Tryz.func300 rfl Tryz.ntmps300 rfl ?_)
  refine CW.seq (CW.seq (CW.reg ?_))
  refine WL.pu rfl rfl (Pu.load rfl ty9 (f1.w hsW) rfl) ?_
  refine WL.pu rfl rfl (Pu.lenstr rfl Tryz.underlying9) ?_
  refine WL.pu rfl rfl (Pu.ieq rfl rfl) ?_
  refine WL.nil (QX.thenN ?_)
  refine CW.condF rfl (CW.skip (QX.thenN ?_))
  refine CW.seq (CW.blk (CW.loop (σ := List ByteArray × ByteArray) (fun s W => Sub H W ∧ W.heap[b]? = some (.cells #[.string s.2] 9 (0, 0)) ∧ J s.1 W ∧ pieces a0 = s.1 ++ pieces s.2 ∧ s.2.size < 1048576) (fun _ => [(0, Value.func (.yield l) #[] #[]), (1, Value.pointer (some p1)), (2, Value.pointer (some ⟨b, 0, none⟩)), (3, Value.pointer (some p3))]) (fun s => s.2.size) ([], a0) ⟨hsW, hbW, h0, rfl, k0⟩ (.cons rfl (.cons rfl (.cons rfl (.cons rfl (.nil _))))) ?_))
  rintro ⟨pre, s⟩ W1 ⟨hs1, hb1, hj, hp, hk⟩
  show CW _ _ _ _ [(0, Value.func (.yield l) #[] #[]), (1, Value.pointer (some p1)), (2, Value.pointer (some ⟨b, 0, none⟩)), (3, Value.pointer (some p3))] _
  replace hb1 : W1.heap[b]? = some (.cells #[.string s] 9 (0, 0)) := hb1
  replace hp : pieces a0 = pre ++ pieces s := hp
  replace hj : J pre W1 := hj
  replace hk : s.size < 1048576 := hk
  have sub1 : Sub (put1 H b (.cells #[.string s] 9 (0, 0))) W1 := fun k o e => by
    unfold put1 at e
    split at e
    · rename_i hx; subst hx; rw [← e]; exact hb1
    · exact hs1 k o e
  have l1 : Le H (put1 H b (.cells #[.string s] 9 (0, 0))) := le_put1 _ hH
  have fb : At (put1 H b (.cells #[.string s] 9 (0, 0))) ⟨b, 0, none⟩ [.string s] := At.block (put1_self _ _ _)
  have st := St.start sub1
  have hne : (pieces s).length ≠ 0 := by
    by_cases h : ixb s 46 < 0
    · rw [pieces_no h]; simp
    · rw [pieces_yes (by omega)]; simp
  have hlen : pre.length < 1048577 := by
    have := congrArg List.length hp
    rw [List.length_append] at this
    omega
  refine CW.blk ?_
  refine CW.seq (CW.reg ?_)
  refine WL.pu rfl rfl (Pu.load rfl ty9 (fb.w st.sub) rfl) ?_
  refine WL.pu rfl rfl (Pu.load rfl ty9 ((f1.le l1).w st.sub) rfl) ?_
  refine WL.callv rfl rfl en302 rfl rfl st (c302d s st.sub hk) ?_
  intro W2 st
  refine WL.pu rfl rfl (Pu.assign rfl) ?_
  refine WL.nil (QX.thenN ?_)
  refine CW.seq (CW.seq (CW.reg ?_))
  refine WL.pu rfl rfl (Pu.move rfl) ?_
  refine WL.pu rfl rfl (Pu.ilt rfl rfl) ?_
  refine WL.nil (QX.thenN ?_)
  refine CW.condP 33 rfl dT dF (fun h => ?_) (fun h => ?_)
  · refine CW.exit (QX.thenE (QX.miss rfl (QX.thenE (QX.hit (QX.thenN ?_)))))
    refine CW.regI n ?_
    have hF : OpenF Fence.wide := .inl rfl
    refine WLI.pu hF rfl rfl (Pu.move rfl) ?_
    refine WLI.pu hF rfl rfl (Pu.load rfl ty9 (fb.w st.sub) rfl) ?_
    have hj2 : J pre W2 := abides_below hJ hj st.bel
    refine WLI.yield (R := fun c W' => (c = true ∧ J (pre ++ [s]) W') ∨ (c = false ∧ Jx (pre ++ [s]) W')) hF rfl rfl rfl rfl (YieldAt.mono (hY pre s _ hk hj2 hlen) fun e W' he => ?_) ?_
    · rcases he with ⟨rfl, h6, h7⟩ | ⟨rfl, h6⟩
      · exact ⟨true, rfl, .inl ⟨rfl, h6⟩⟩
      · exact ⟨false, rfl, .inr ⟨rfl, h6⟩⟩
    intro c W3 hc
    have hp' : pieces a0 = pre ++ [s] := by rw [hp, pieces_no h]
    refine WLI.nilW (fun a ha => ⟨ha.defers, _, run_results ha Tryz.results300 .nil, ⟨_, rfl⟩, ?_⟩)
    rcases hc with ⟨rfl, h6⟩ | ⟨rfl, h6⟩
    · exact .inl ⟨_, hp'.symm, h6⟩
    · exact .inr ⟨_, ⟨[], by rw [hp', List.append_nil]⟩, h6⟩
  · refine CW.skip (QX.thenN ?_)
    have hi := ixb_lt s 46
    refine CW.seq (CW.reg ?_)
    refine WL.pu rfl rfl (Pu.load rfl ty9 (fb.w st.sub) rfl) ?_
    refine WL.pu rfl rfl (Pu.move rfl) ?_
    refine WL.pu rfl rfl (Pu.load rfl ty3 ((f3.le l1).w st.sub) rfl) ?_
    refine WL.pu rfl rfl (Pu.iadd rfl rfl (c := ixb s 46) (by rw [Int.add_zero]; exact w64 (by omega) (by omega))) ?_
    refine WL.pu rfl rfl (Pu.slh rfl rfl Tryz.underlying9 (by omega) (by omega)) ?_
    refine WL.pu rfl rfl (Pu.assign rfl) ?_
    refine WL.nil (QX.thenN ?_)
    refine CW.seq (CW.seq (CW.regI n ?_))
    have hF : OpenF Fence.wide := .inl rfl
    refine WLI.pu hF rfl rfl (Pu.move rfl) ?_
    refine WLI.pu hF rfl rfl (Pu.move rfl) ?_
    have hj2 : J pre W2 := abides_below hJ hj st.bel
    refine WLI.yield (R := fun c W' => (c = true ∧ J (pre ++ [s.extract 0 (ixb s 46).toNat]) W' ∧ Below w.heap.size W2 W') ∨ (c = false ∧ Jx (pre ++ [s.extract 0 (ixb s 46).toNat]) W')) hF rfl rfl rfl rfl (YieldAt.mono (hY pre _ _ (by show (s.extract _ _).size < _; rw [ByteArray.size_extract]; omega) hj2 hlen) fun e W' he => ?_) ?_
    · rcases he with ⟨rfl, h6, h7⟩ | ⟨rfl, h6⟩
      · exact ⟨true, rfl, .inl ⟨rfl, h6, h7⟩⟩
      · exact ⟨false, rfl, .inr ⟨rfl, h6⟩⟩
    have hp' : pieces a0 = (pre ++ [s.extract 0 (ixb s 46).toNat]) ++ pieces (s.extract ((ixb s 46).toNat + 1) s.size) := by rw [hp, pieces_yes (by omega)]; simp
    rintro c W3 (⟨rfl, h6, h7⟩ | ⟨rfl, h6⟩)
    · refine WLI.pu hF rfl rfl (Pu.notb rfl) ?_
      refine WLI.nilW (QX.thenN ?_)
      refine CW.condF rfl (CW.skip (QX.thenN ?_))
      have sub3 : Sub (put1 H b (.cells #[.string s] 9 (0, 0))) W3 := fun k o e => by
        refine (h7.block k ?_).trans (st.sub k o e)
        unfold put1 at e
        split at e
        · omega
        · exact hlow k o e
      refine CW.reg ?_
      refine WL.pu rfl rfl (Pu.load rfl ty9 (fb.w sub3) rfl) ?_
      refine WL.pu rfl rfl (Pu.move rfl) ?_
      refine WL.pu rfl rfl (Pu.load rfl ty9 ((f1.le l1).w sub3) rfl) ?_
      refine WL.pu rfl rfl (Pu.lenstr rfl Tryz.underlying9) ?_
      refine WL.pu rfl rfl (Pu.iadd rfl rfl (c := ixb s 46 + 1) (w64 (by show (_ : Int) ≤ ixb s 46 + 1; omega) (by show ixb s 46 + 1 ≤ (_ : Int); omega))) ?_
      refine WL.pu rfl rfl (Pu.sll rfl rfl Tryz.underlying9 (by omega) (by omega)) ?_
      refine WL.storeR rfl rfl rfl ty9 rfl rfl (sub3 b _ (put1_self _ _ _)) ?_
      intro W4 hg hb4
      have e1 : (ixb s 46 + 1).toNat = (ixb s 46).toNat + 1 := by omega
      rw [e1] at hb4
      refine WL.nil (QX.blkN (QX.round (pre ++ [s.extract 0 (ixb s 46).toNat], s.extract ((ixb s 46).toNat + 1) s.size) ?_ ?_ (.cons rfl (.cons rfl (.cons rfl (.cons rfl (.nil _)))))))
      · refine ⟨fun k o e => ?_, hb4, hT _ _ _ h6 hg, hp', ?_⟩
        · have hkb : k ≠ b := fun e' => by subst e'; rw [hH] at e; cases e
          exact (hg.block k (Array.getElem?_eq_some_iff.1 (sub3 k o (l1 k o e))).1 (fun e' => by cases e'; exact hkb rfl)).trans (sub3 k o (l1 k o e))
        · rw [ByteArray.size_extract]; omega
      · show (s.extract _ _).size < s.size
        rw [ByteArray.size_extract]; omega
    · refine WLI.pu hF rfl rfl (Pu.notb rfl) ?_
      refine WLI.nilW (QX.thenN ?_)
      refine CW.condT rfl ?_
      refine CW.ret (QX.thenR (QX.blkR (QX.thenR (QX.blkR (QX.thenR (fun a ha => bodyPost_ret (run_results ha Tryz.results300 .nil) ha.defers ⟨⟨_, rfl⟩, .inr ⟨_, ?_, h6⟩⟩))))))
      exact ⟨_, hp'⟩
/-- Is a text a name? -/
def m151 (s : ByteArray) : Bool := if (60 : Int) < (s.size : Int) then false else (pieces s).all m152
theorem c151 (a0 : ByteArray) {w : World} {H : PH} (hs : Sub H w) (k0p : a0.size < 1048576) : Spec Tryz.prog 151 [.string a0].toArray w H (fun _ v => v = .bool (m151 a0)) := by
  refine Spec.marks Tryz.func151 rfl Tryz.ntmps151 rfl ?_
  have st := St.start hs
  refine CW.seq (CW.reg ?_)
  refine WL.alloco (c := #[.bool false]) rfl rfl ze4 rfl st ?_
  intro b2 W1 st
  refine WL.nil (QX.thenN ?_)
  refine CW.seq (CW.seq (CW.reg ?_))
  refine WL.pu rfl rfl (Pu.move rfl) ?_
  refine WL.pu rfl rfl (Pu.lenstr rfl Tryz.underlying9) ?_
  refine WL.pu rfl rfl (Pu.igt rfl rfl) ?_
  refine WL.nil (QX.thenN ?_)
  refine CW.condP 6 rfl dT dF (fun h1 => ?_) (fun h1 => ?_)
  · refine CW.seq (CW.reg ?_)
    refine WL.store (o := 0) (c' := [.bool false]) rfl rfl rfl rfl ty4 rfl (one1 rfl rfl) rfl rfl st ?_
    intro W2 st
    refine WL.nil (QX.thenN ?_)
    refine CW.ret (QX.thenR (fun a ha => finM0 Tryz.results151 st (.cell (v := .bool false) rfl ty4 (AtW.block (st.own _ (.head _)).1.2) rfl .nil) ?_ ha))
    show Value.bool false = .bool (m151 a0)
    rw [m151, if_pos h1]
  refine CW.skip (QX.thenN ?_)
  refine CW.seq (CW.seq (CW.reg ?_))
  refine WL.pu rfl rfl (Pu.move rfl) ?_
  refine WL.callR rfl rfl en212 rfl rfl (c212 a0 ⟨#[46]⟩ st.sub) (fun e W' ⟨b, p1, p3, H', h, _⟩ => ⟨_, h⟩) ?_
  rintro _ W3 ⟨b, p1, p3, H3, h, st3, f1, f3⟩
  cases h
  have st := st.growO st3
  refine WL.nil (QX.thenN ?_)
  refine CW.blk ?_
  intro a ha
  refine (wpIn_wide (n := 3)).1 ?_
  have hB : ∀ b o, H3 b = some o → b < W3.heap.size := fun b o e => st.lt e
  have hb := (st.own _ (.head _)).1
  have hH : H3 b = none := (st.own _ (.head _)).2 b rfl
  have hne : b2 ≠ b := fun e => by
    have := st.nd
    simp [Own.blk, e] at this
  have hbB : w.heap.size ≤ b := hb.1
  have stI : St w W3 H H3 [.box b2 (.cells #[.bool false] 4 (0, 0))] := st.forget
  have cel : ∀ e ∈ [Own.box b2 (.cells #[.bool false] 4 (0, 0))], e.celly := fun e he => by rw [List.mem_singleton.1 he]; rfl
  have blk : ∀ e ∈ [Own.box b2 (.cells #[.bool false] 4 (0, 0))], e.blk ≠ some b := fun e he => by rw [List.mem_singleton.1 he]; exact fun h => hne (Option.some.inj h)
  have env0 : ∀ x : ByteArray, HoldsD 13 [] { tmps := a.tmps.setIfInBounds 9 (.string x), defers := [] } [(9, .string x), (2, .pointer (some ⟨b2, 0, none⟩))] := fun x =>
    HoldsD.of (a := { tmps := a.tmps.setIfInBounds 9 (.string x), defers := [] }) ((Holds.put ⟨ha.size, rfl, ha.get⟩ (a := { tmps := a.tmps, defers := [] }) (d := 9) rfl (.string x)).sub (.cons rfl (.cons rfl (.nil _)))) rfl
  refine rangeB (n := 3) (N := 1048577) (Kp := Below W3.heap.size) (encs := fun x : ByteArray => #[.string x]) (G := fun x => x.size < 1048576) (S := fun xs => xs = pieces a0) (Sp := fun pre => ∃ r, pieces a0 = pre ++ r) (b := b) (w0 := W3)
    (ha.eval (x := .tmp 8) rfl) en300 (it300 a0 b p1 p3 st.sub f1 f3 hb.2 hH k0p 2) (by omega) (Array.getElem?_eq_some_iff.1 hb.2).1 belowK_t (fun W l o o' hl h h1 h2 => belowK_b (Nat.le_refl _) W l o o' hl h h1 h2) (Below.refl _ _) (fun _ => rfl)
    (fun pre W => St w W H H3 [.box b2 (.cells #[.bool false] 4 (0, 0))] ∧ W3.heap.size ≤ W.heap.size ∧ pre.all m152 = true) (fun c pre W => c = .ret ∧ St w W H H3 [.box b2 (.cells #[.bool false] 4 (0, 0))] ∧ pre.all m152 = false)
    (fun s A B row hs hg hr => ⟨hs.1.grownF st.bel.size hB cel hg hr, Nat.le_trans hs.2.1 hg.size, hs.2.2⟩) (fun c s A B row hs hg hr => ⟨hs.1, hs.2.1.grownF st.bel.size hB cel hg hr, hs.2.2⟩)
    (fun s A B hs hg => ⟨hs.1.grownB hbB hH blk hg, Nat.le_trans hs.2.1 hg.size, hs.2.2⟩) (fun c s A B hs hg => ⟨hs.1, hs.2.1.grownB hbB hH blk hg, hs.2.2⟩) ⟨stI, Nat.le_refl _, rfl⟩
    (fun x => { tmps := (a.tmps.setIfInBounds 9 (.string x)).setIfInBounds 3 (.string x), defers := [] }) ?_ ?_ ?_ ?_
  · intro l x W K hK
    have hF : OpenF (Fence.wide.inRound l) := .inr ⟨l, rfl⟩
    have hz : (#[9].zip #[Value.string x]).foldl (fun t (p, v) => t.setIfInBounds p v) a.tmps = a.tmps.setIfInBounds 9 (.string x) := by simp [Array.zip]
    rw [hz]
    exact assign1 hF (v := .string x) (by
      have hsz : 9 < a.tmps.size := by rw [ha.size]; decide
      simp [Act.eval, hsz]) hK
  · rintro l pre x W hx ⟨hs, hsz, hp⟩ _
    have hF : OpenF (Fence.wide.inRound l) := .inr ⟨l, rfl⟩
    refine wpIn_block (CWI.seq (CWI.reg ?_) _ ((env0 x).put (d := 3) rfl (.string x)))
    refine WLI.pu hF rfl rfl (Pu.move rfl) ?_
    refine WLI.callv hF rfl rfl en152 rfl rfl (St.start hs.sub) (c152 x hs.sub hx) ?_
    intro W4 st4
    have bel := st4.bel
    refine WLI.pu hF rfl rfl (Pu.notb rfl) ?_
    refine WLI.nil (fun a' ha' => ?_)
    refine CWI.condP (F := Fence.wide.inRound l) (N := 13) (D := []) 12 rfl mT mF (fun h => ?_) (fun h => ?_) a' ha'
    · refine CWI.seq (CWI.reg ?_)
      refine WLI.store (o := 0) (c' := [.bool false]) hF rfl rfl rfl rfl ty4 rfl (one1 rfl rfl) rfl rfl (hs.below bel) ?_
      intro W5 st5 hg
      refine WLI.nil (fun a'' ha'' => ?_)
      refine CWI.ret (F := Fence.wide.inRound l) (n := 1) (P := Tryz.prog) (N := 13) (D := []) (fun a3 ha3 => ?_) a'' ha''
      refine ⟨(KeepsOthers.of_below bel).trans (KeepsOthers.of_turn hg ((hs.below bel).own _ (.head _)).1.2 rfl), rfl, st5, ?_⟩
      rw [List.all_append, hp]
      simpa using h
    · refine CWI.skip (fun a3 ha3 => ?_)
      refine ⟨KeepsOthers.of_below bel, bel.mono hsz, hs.below bel, Nat.le_trans hsz bel.size, ?_⟩
      rw [List.all_append, hp]
      simpa using h
  · rintro D xs W hD rfl ⟨hI, hsz, hp⟩ hK
    have hF : OpenF Fence.wide := .inl rfl
    have hd : HoldsD 13 [{ target := .collected D, args := #[] }] { a with defers := { target := .collected D, args := #[] } :: a.defers } [(2, .pointer (some ⟨b2, 0, none⟩))] := ⟨ha.size, by show _ :: a.defers = _; rw [ha.defers], (ha.sub (.cons rfl (.nil _))).get⟩
    refine (wpIn_wide (n := 3)).1 (CWI.seq (CWI.reg ?_) _ hd)
    refine WLI.store (o := 0) (c' := [.bool true]) hF rfl rfl rfl rfl ty4 rfl (one1 rfl rfl) rfl rfl hI ?_
    intro W4 st4 hg
    have hDb : W4.heap[D]? = some (.deferred (some [])) := (hg.block D (Array.getElem?_eq_some_iff.1 hK).1 (fun e => by
      have := (stI.own _ (.head _)).1.2
      have := (Array.getElem?_eq_some_iff.1 this).1
      cases e
      omega)).trans hK
    refine WLI.nil (fun a' ha' => ?_)
    refine CWI.ret (F := Fence.wide) (n := 3) (P := Tryz.prog) (N := 13) (D := [{ target := .collected D, args := #[] }]) (env := [(2, .pointer (some ⟨b2, 0, none⟩))]) (fun a2 ha2 => ?_) a' ha'
    refine finM (vs := [.bool true]) Tryz.results151 hDb st4 (by have := st.bel.size; omega) ?_ (fun e he => by rw [List.mem_singleton.1 he]; rfl) (fun W' s' => .cell rfl ty4 (AtW.block (s'.own _ (.head _)).1.2) rfl .nil) (fun W' s' => ⟨H3, s'.forget, ?_⟩) ha2
    · cases e : H3 D with
      | none => rfl
      | some o => have := hB D o e; omega
    · show Value.bool true = .bool (m151 a0)
      rw [m151, if_neg h1, hp]
  · rintro D c pre W hD ⟨r, hr⟩ ⟨rfl, hI, hp⟩ hK
    have hd : HoldsD 13 [{ target := .collected D, args := #[] }] { a with defers := { target := .collected D, args := #[] } :: a.defers } [(2, .pointer (some ⟨b2, 0, none⟩))] := ⟨ha.size, by show _ :: a.defers = _; rw [ha.defers], (ha.sub (.cons rfl (.nil _))).get⟩
    refine CWI.ret (fun a2 ha2 => ?_) _ hd
    refine finM (vs := [.bool false]) Tryz.results151 hK hI (by have := st.bel.size; omega) ?_ cel (fun W' s' => .cell rfl ty4 (AtW.block (s'.own _ (.head _)).1.2) rfl .nil) (fun W' s' => ⟨H3, s'.forget, ?_⟩) ha2
    · cases e : H3 D with
      | none => rfl
      | some o => have := hB D o e; omega
    · show Value.bool false = .bool (m151 a0)
      rw [m151, if_neg h1, hr, List.all_append, hp]
      rfl
end Go.Proofs.TB
