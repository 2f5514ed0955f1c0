/- Opening what a row hands over: data of structs and slices. -/
import Derived.Test.YtmfnlloabaoagaaGreatDoorTI
import Derived.SizedLaws
import Derived.DataReads
import Derived.ChangeOld
import Derived.OpenShut
set_option linter.unusedVariables false
set_option linter.unusedSimpArgs false
namespace Go.Proofs.TB
open Go.RowKit
abbrev heapOf (W : World) : PH := fun b => W.heap[b]?
def WOk (ns : List Nat) : Prop := ∀ n ∈ ns, n ≤ reachBytes
/-- Whatever is read at type t is of the form R. -/
def OpP (P : Program) (t : TypeId) (R : PH → List Value → Prop) : Prop :=
  ∀ (H : Type) (enc : TypeId × Value → H) (W : World) (fuel : Nat) (cs : List Value) (d : DataW H) (ps : List MemPlace),
    DataW.trod enc P W 0 (fun _ => true) true fuel t cs = some (d, ps) → WOk (d.weights P t) → R (heapOf W) cs
theorem OpP.mono {P : Program} {t : TypeId} {R R' : PH → List Value → Prop} (h : OpP P t R) (k : ∀ H cs, R H cs → R' H cs) : OpP P t R' :=
  fun H enc W fuel cs d ps e w => k _ _ (h H enc W fuel cs d ps e w)
theorem OpP.int {P : Program} {t : TypeId} {k : IntKind} (ht : P.underlying t = some (.int k)) : OpP P t (fun _ cs => ∃ n : Int, cs = [.int k n]) := by
  intro H enc W fuel cs d ps e w
  cases fuel with
  | zero => simp [DataW.trod] at e
  | succ f =>
    simp only [DataW.trod, ht] at e
    split at e <;> simp_all
theorem OpP.intb {P : Program} {t : TypeId} (ht : P.underlying t = some (.int .u8)) : OpP P t (fun _ cs => ∃ n : Int, cs = [.int .u8 n] ∧ (0 ≤ n ∧ n < 256)) := by
  intro H enc W fuel cs d ps e w
  cases fuel with
  | zero => simp [DataW.trod] at e
  | succ f =>
    simp only [DataW.trod, ht] at e
    split at e <;> try (simp_all; done)
    rename_i k k' n hk
    simp only [Option.some.injEq, TypeDesc.int.injEq] at hk
    subst hk
    split at e
    · rename_i hw
      obtain ⟨rfl, hw⟩ := hw
      have := bounds_u8 hw
      exact ⟨n, rfl, by omega, by omega⟩
    · cases e
theorem OpP.bool {P : Program} {t : TypeId} (ht : P.underlying t = some .bool) : OpP P t (fun _ cs => ∃ b : Bool, cs = [.bool b]) := by
  intro H enc W fuel cs d ps e w
  cases fuel with
  | zero => simp [DataW.trod] at e
  | succ f =>
    simp only [DataW.trod, ht] at e
    split at e <;> simp_all
theorem OpP.str {P : Program} {t : TypeId} (ht : P.underlying t = some .string) : OpP P t (fun _ cs => ∃ s : ByteArray, cs = [.string s] ∧ s.size < 140737488355329) := by
  intro H enc W fuel cs d ps e w
  cases fuel with
  | zero => simp [DataW.trod] at e
  | succ f =>
    simp only [DataW.trod, ht] at e
    split at e <;> simp_all
    have h1 := w
    rw [← e.2.1] at h1
    simp only [DataW.weights, WOk, List.mem_singleton, forall_eq, Array.length_toList] at h1
    have h2 : reachBytes < 140737488355329 := by decide
    exact Nat.lt_of_le_of_lt h1 h2
theorem weightsAll_mem {H : Type} {P : Program} {e : TypeId} : ∀ {ds : List (DataW H)} {d : DataW H}, d ∈ ds → ∀ n ∈ d.weights P e, n ∈ DataW.weightsAll P e ds
  | d0 :: r, d, hd, n, hn => by
    simp only [DataW.weightsAll, List.mem_append]
    rcases List.mem_cons.1 hd with rfl | hd
    · exact .inl hn
    · exact .inr (weightsAll_mem hd n hn)
theorem OpP.sl {P : Program} {t e : TypeId} {α : Type} [Enc α] (ht : P.underlying t = some (.slice e)) (hc : P.cellsOf e = Enc.sz α) (hb : Nat.blt 0 (P.bytesOf e) = true)
    (he : OpP P e (fun H cs => ∃ x : α, cs = Enc.c x ∧ Enc.ok 140737488355329 H x)) : OpP P t (fun H cs => ∃ s : Sl α, cs = [s.v] ∧ Sl.Ok 140737488355329 H s) := by
  intro H enc W fuel cs d ps e0 w
  cases fuel with
  | zero => simp [DataW.trod] at e0
  | succ f =>
    simp only [DataW.trod, ht] at e0
    split at e0 <;> try (simp_all; done)
    · exact ⟨Sl.nil, rfl, Sl.Ok.nil⟩
    · rename_i e' a len cap hte
      simp only [Option.some.injEq, TypeDesc.slice.injEq] at hte
      subst hte
      rw [hc] at e0
      split at e0
      case isFalse => cases e0
      rename_i h1
      obtain ⟨-, h1, h2⟩ := h1
      rw [Option.bind_eq_some_iff] at e0
      obtain ⟨elems, hm, e0⟩ := e0
      rw [Option.map_eq_some_iff] at e0
      obtain ⟨rest, hr, hd⟩ := e0
      simp only [Prod.mk.injEq] at hd
      replace hd := hd.1
      subst hd
      have hlen := mapM_some_length hm
      simp only [List.length_range] at hlen
      have key : ∀ i, i < len → ∃ x : α, (∀ j v, (Enc.c x)[j]? = some v → W.cell? ((a.add (i * Enc.sz α)).add j) = some v) ∧ Enc.ok 140737488355329 (heapOf W) x := by
        intro i hi
        have hg := mapM_some_get hm i i (by simp [hi])
        obtain ⟨y, hy⟩ : ∃ y, elems[i]? = some y := ⟨elems[i]'(by omega), List.getElem?_eq_getElem (by omega)⟩
        rw [hy] at hg
        rw [Option.bind_eq_some_iff] at hg
        obtain ⟨cs', hcs, ht'⟩ := hg
        obtain ⟨y1, y2⟩ := y
        obtain ⟨x, hx, hok⟩ := he H enc W f cs' y1 y2 ht' (fun n hn => w n (by
          simp only [DataW.weights, ht, List.mem_cons, List.mem_append]
          exact .inr (.inl (weightsAll_mem (List.mem_map.2 ⟨(y1, y2), List.mem_of_getElem? hy, rfl⟩) n hn))))
        refine ⟨x, fun j v hj => ?_, hok⟩
        obtain ⟨_, h4, h5⟩ := World.cells?_some hcs
        rw [hx] at h4 h5
        have hjl : j < (Enc.c x).length := (List.getElem?_eq_some_iff.1 hj).1
        have := h5 j (by omega)
        rw [hj] at this
        exact this
      have key2 : ∃ l : List α, l.length = len ∧ ∀ i x, l[i]? = some x → (∀ j v, (Enc.c x)[j]? = some v → W.cell? ((a.add (i * Enc.sz α)).add j) = some v) ∧ Enc.ok 140737488355329 (heapOf W) x := by
        have : ∀ n, n ≤ len → ∃ l : List α, l.length = n ∧ ∀ i x, l[i]? = some x → (∀ j v, (Enc.c x)[j]? = some v → W.cell? ((a.add (i * Enc.sz α)).add j) = some v) ∧ Enc.ok 140737488355329 (heapOf W) x := by
          intro n
          induction n with
          | zero => exact fun _ => ⟨[], rfl, fun i x h => by simp at h⟩
          | succ n ih =>
            intro hn
            obtain ⟨l, hl, hp⟩ := ih (by omega)
            obtain ⟨x, hx⟩ := key n (by omega)
            refine ⟨l ++ [x], by simp [hl], fun i y hy => ?_⟩
            by_cases hi : i < n
            · rw [List.getElem?_append_left (by omega)] at hy
              exact hp i y hy
            · rw [List.getElem?_append_right (by omega)] at hy
              have : i = n := by
                have := (List.getElem?_eq_some_iff.1 hy).1
                simp at this
                omega
              subst this
              rw [hl] at hy
              simp at hy
              subst hy
              exact hx
        exact this len (Nat.le_refl _)
      obtain ⟨l, hl, hp⟩ := key2
      refine ⟨⟨some a, cap, l⟩, by simp [Sl.v, hl], ⟨by simp [hl]; exact h1, ?_, fun i x hx => ⟨⟨a, rfl, fun j v hj => (hp i x hx).1 j v hj⟩, (hp i x hx).2⟩⟩⟩
      have h3 := w ((elems.length + rest.length) * P.bytesOf e) (by simp [DataW.weights, ht])
      have hb' : 0 < P.bytesOf e := by simpa using hb
      have h4 : reachBytes < 140737488355329 := by decide
      have h5 : elems.length + rest.length ≤ (elems.length + rest.length) * P.bytesOf e := Nat.le_mul_of_pos_right _ hb'
      show l.length ≤ _
      omega
/-- A struct's fields. -/
def sfOf (P : Program) (t : TypeId) : Option (List (TypeId × Nat) × Nat) :=
  match P.underlying t with
  | some (.struct fs) => some (fs.toList.map (fun f => (f.type, f.offset)), P.cellsOf t)
  | _ => none
def OpFs (P : Program) (T : Nat) (fs : List (TypeId × Nat)) (o : Nat) (R : PH → List Value → Prop) : Prop :=
  ∀ (H : Type) (enc : TypeId × Value → H) (W : World) (fuel : Nat) (cs : List Value) (xs : List (DataW H × List MemPlace)),
    fs.mapM (fun f => DataW.trod enc P W 0 (fun _ => true) true fuel f.1 ((cs.drop f.2).take (P.cellsOf f.1))) = some xs → WOk (DataW.weightsEach P (fs.map (·.1)) (xs.map (·.1))) → cs.length = T → R (heapOf W) (cs.drop o)
theorem OpFs.nil {P : Program} {T o : Nat} (h : Nat.beq o T = true) : OpFs P T [] o (fun _ cs => cs = []) := by
  intro H enc W fuel cs xs _ _ hl
  have := Nat.eq_of_beq_eq_true h
  exact List.drop_eq_nil_of_le (by omega)
theorem OpFs.cons {P : Program} {T o n : Nat} {t : TypeId} {fs : List (TypeId × Nat)} {R1 R2 : PH → List Value → Prop} (hn : P.cellsOf t = n) (h1 : OpP P t R1) (h2 : OpFs P T fs (o + n) R2) : OpFs P T ((t, o) :: fs) o (fun H cs => ∃ c1 c2, cs = c1 ++ c2 ∧ R1 H c1 ∧ R2 H c2) := by
  intro H enc W fuel cs xs e w hl
  simp only [List.mapM_cons, Option.bind_eq_bind, Option.bind_eq_some_iff] at e
  obtain ⟨y, hy, ys, hys, hx⟩ := e
  simp only [Option.pure_def, Option.some.injEq] at hx
  subst hx
  simp only [List.map_cons, DataW.weightsEach] at w
  rw [hn] at hy
  have h3 := h1 H enc W fuel _ y.1 y.2 hy (fun m hm => w m (List.mem_append.2 (.inl hm)))
  have h4 := h2 H enc W fuel cs ys hys (fun m hm => w m (List.mem_append.2 (.inr hm))) hl
  have : cs.drop o = (cs.drop o).take n ++ cs.drop (o + n) := by
    rw [← List.drop_drop, List.take_append_drop]
  rw [this]
  exact ⟨_, _, rfl, h3, h4⟩
theorem mapM_map_opt {α β γ : Type} (g : α → β) (f : β → Option γ) : ∀ (l : List α), l.mapM (fun x => f (g x)) = (l.map g).mapM f
  | [] => rfl
  | x :: r => by simp only [List.mapM_cons, List.map_cons, mapM_map_opt g f r]
theorem OpP.st {P : Program} {t : TypeId} {fs : List (TypeId × Nat)} {T : Nat} {R : PH → List Value → Prop} (hs : sfOf P t = some (fs, T)) (h : OpFs P T fs 0 R) : OpP P t R := by
  intro H enc W fuel cs d ps e w
  unfold sfOf at hs
  cases hu : P.underlying t with
  | none => simp [hu] at hs
  | some ds =>
    cases ds <;> simp only [hu, reduceCtorEq] at hs
    rename_i fl
    simp only [Option.some.injEq, Prod.mk.injEq] at hs
    obtain ⟨hfs, hT⟩ := hs
    cases fuel with
    | zero => simp [DataW.trod] at e
    | succ f =>
      have e' : (if cs.length = P.cellsOf t then (fl.toList.mapM fun f' => DataW.trod enc P W 0 (fun _ => true) true f f'.type ((cs.drop f'.offset).take (P.cellsOf f'.type))).map fun xs => (DataW.agg (xs.map (·.1)), xs.flatMap (·.2)) else none) = some (d, ps) := by
        rw [← e]
        simp only [DataW.trod, hu]
      split at e'
      · rename_i hl
        rw [Option.map_eq_some_iff] at e'
        obtain ⟨xs, hx, hd⟩ := e'
        simp only [Prod.mk.injEq] at hd
        obtain ⟨hd, _⟩ := hd
        subst hd
        simp only [DataW.weights, hu] at w
        have := h H enc W f cs xs (by rw [← hfs, ← mapM_map_opt]; exact hx) (by rw [← hfs, List.map_map]; exact w) (hl.trans hT)
        simpa using this
      · cases e'
/-- A row's argument, opened. -/
theorem OpP.arg {P : Program} {t : TypeId} {R : PH → List Value → Prop} (h : OpP P t R) {H : Type} {enc : TypeId × Value → H} {W : World} {v : Value} {d : DataW H} {ps : List MemPlace} (k : DataW.Trod enc P W 0 (fun _ => true) true t v d ps) (w : WOk (d.weights P t)) : R (heapOf W) v.cells.toList := by
  obtain ⟨f, e⟩ := k
  exact h H enc W f _ d ps e w
theorem weights_arg {H : Type} {P : Program} {ts : List TypeId} {ds : List (DataW H)} (h : (DataW.weightsEach P ts ds).all (· ≤ reachBytes) = true) {j : Nat} {t : TypeId} {d : DataW H} (ht : ts[j]? = some t) (hd : ds[j]? = some d) : WOk (d.weights P t) := fun n hn => by
  simpa using List.all_eq_true.1 h n (DataW.weights_mem_each ht hd n hn)
end Go.Proofs.TB
