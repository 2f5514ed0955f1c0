/- Plain: which grants may be, and what they let. -/
import Derived.Test.YtmfnlloabaoagaaGreatDoorPB
import Derived.Test.YtmfnlloabaoagaaGreatDoorGC
set_option linter.unusedVariables false
set_option linter.unusedSimpArgs false
namespace Go.Proofs.TB
open Go.RowKit
theorem ref_eq (r : Ref) : m82 r = m107 r := by
  unfold m82 m107 m153
  simp only [label_eq, name_eq]
  by_cases h1 : r.kind = 1
  · simp [h1]
  · by_cases h2 : r.kind = 2
    · simp [h2]
    · by_cases h3 : r.kind < 1
      · rw [if_pos h3]
        simp [h1, h2]
        omega
      · by_cases h4 : 7 < r.kind
        · rw [if_neg h3, if_pos h4]
          simp [h1, h2]
          omega
        · have h5 : ¬ r.kind < 3 := by omega
          have h6 : 1 ≤ r.kind := by omega
          have h7 : r.kind ≤ 7 := by omega
          simp [h1, h2, h3, h4, h5, h6, h7]
theorem any81 {a : List Side} {p : Side → Bool} : m81 a p = true ↔ ∃ x ∈ a, p x = true := by
  unfold m81 m137
  rw [decide_eq_true_eq]
  exact findLoop_ge (fun r => rfl) (fun n r => ⟨fun h => if_pos h, fun h => if_neg h⟩)
theorem all207 {a : List Side} {n : Int} {p : Side → Bool} : m207 a n p = true ↔ (a.length : Int) ≤ n ∧ ∀ x ∈ a, p x = true := by
  unfold m207
  rw [ite_tf, Bool.not_eq_true', ← Bool.not_eq_true, any81]
  simp only [m255]
  constructor
  · rintro ⟨h1, h2⟩
    refine ⟨h1, fun x hx => ?_⟩
    cases h : p x with
    | true => rfl
    | false => exact (h2 ⟨x, hx, by rw [h]; rfl⟩).elim
  · rintro ⟨h1, h2⟩
    exact ⟨h1, fun ⟨x, hx, h⟩ => by rw [h2 x hx] at h; cases h⟩
theorem kind_eq (n : Int) : m144 n = m153 n := rfl
/-- What a grant has not. -/
structure Bare (o : Object) : Prop where
  good : o.good = false
  cls : o.cls = ⟨#[]⟩
  labels : o.labels.l = []
  hosts : o.hosts.l = []
  ports : o.ports.l = []
  listeners : o.listeners.l = []
  parents : o.parents.l = []
  rules : o.rules.l = []
structure Grant (o : Object) : Prop where
  ref : m107 o.ref = true
  f1 : 1 ≤ o.frm.l.length
  f4 : o.frm.l.length ≤ 4
  t1 : 1 ≤ o.to.l.length
  t4 : o.to.l.length ≤ 4
  f : ∀ x ∈ o.frm.l, m205 x = true
  t : ∀ x ∈ o.to.l, m206 x = true
  bare : Bare o
theorem len_nil {α : Type} {l : List α} : ((([] : List α).length : Int) = (l.length : Int)) ↔ l = [] := by
  cases l <;> simp
  omega
theorem e176 {a b : List Pair} : m176 a b = true ↔ a = b := eqLoop (fun r => rfl) (fun n r => ⟨fun h => if_pos h, fun h => if_neg h⟩)
theorem e177 {a b : List Int} : m177 a b = true ↔ a = b := eqLoop (fun r => rfl) (fun n r => ⟨fun h => if_pos h, fun h => if_neg h⟩)
theorem e178 {a b : List ByteArray} : m178 a b = true ↔ a = b := eqLoop (fun r => rfl) (fun n r => ⟨fun h => if_pos h, fun h => if_neg h⟩)
theorem e179 {a b : List Parent} : m179 a b = true ↔ a = b := eqLoop (fun r => rfl) (fun n r => ⟨fun h => if_pos h, fun h => if_neg h⟩)
theorem e180 {a b : List Side} : m180 a b = true ↔ a = b := eqLoop (fun r => rfl) (fun n r => ⟨fun h => if_pos h, fun h => if_neg h⟩)
theorem e93 {a b : List Pair} : m93 a b = true ↔ a = b := eqLoop (fun r => rfl) (fun n r => ⟨fun h => if_pos h, fun h => if_neg h⟩)
theorem e94 {a b : List ByteArray} : m94 a b = true ↔ a = b := eqLoop (fun r => rfl) (fun n r => ⟨fun h => if_pos h, fun h => if_neg h⟩)
theorem p181 {a b : List Listener} {p : Listener → Listener → Bool} : m181 a b p = true ↔ a.length = b.length ∧ ∀ k : Nat, k < a.length → p (lg a k) (lg b k) = true := pairLoop (fun r => rfl) (fun n r => ⟨fun h => if_pos h, fun h => if_neg h⟩)
theorem p183 {a b : List Rule} {p : Rule → Rule → Bool} : m183 a b p = true ↔ a.length = b.length ∧ ∀ k : Nat, k < a.length → p (lg a k) (lg b k) = true := pairLoop (fun r => rfl) (fun n r => ⟨fun h => if_pos h, fun h => if_neg h⟩)
theorem pair_nil {α : Type} [Inhabited α] {a : List α} {p : α → α → Bool} : (a.length = ([] : List α).length ∧ ∀ k : Nat, k < a.length → p (lg a k) (lg [] k) = true) ↔ a = [] :=
  ⟨fun h => List.eq_nil_of_length_eq_zero h.1, fun h => by subst h; exact ⟨rfl, fun k hk => by simp at hk⟩⟩
theorem m136_fst (o : Object) : (m136 ⟨o⟩).1 = true ↔ 1 ≤ o.frm.l.length ∧ 1 ≤ o.to.l.length ∧ m207 o.frm.l 4 (fun x0 => m205 x0) = true ∧ m207 o.to.l 4 (fun x0 => m206 x0) = true := by
  unfold m136
  by_cases h1 : (0 : Int) < (o.frm.l.length : Int)
  · by_cases h2 : (0 : Int) < (o.to.l.length : Int)
    · by_cases h3 : m207 o.frm.l 4 (fun x0 => m205 x0) = true
      · simp only [h1, h2, h3, if_true]
        exact ⟨fun h => ⟨by omega, by omega, trivial, h⟩, fun h => h.2.2.2⟩
      · simp only [h1, h2, h3, if_true, if_false]
        exact ⟨fun h => (by cases h), fun h => (by cases h.2.2.1)⟩
    · simp only [h1, h2, if_true, if_false]
      exact ⟨fun h => (by cases h), fun h => (h2 (by omega)).elim⟩
  · simp only [h1, if_false]
    exact ⟨fun h => (by cases h), fun h => (h1 (by omega)).elim⟩
theorem m136_snd (o : Object) : (m136 ⟨o⟩).2 = ⟨⟨o.ref, o.good, o.labels, o.ports, o.cls, o.listeners, o.parents, o.hosts, o.rules, Sl.nil, Sl.nil⟩⟩ := by
  unfold m136
  repeat' split
  all_goals rfl
theorem same128 (o : Object) : m128 ⟨o.ref, o.good, o.labels, o.ports, o.cls, o.listeners, o.parents, o.hosts, o.rules, Sl.nil, Sl.nil⟩ ⟨o.ref, false, Sl.nil, Sl.nil, ⟨#[]⟩, Sl.nil, Sl.nil, Sl.nil, Sl.nil, Sl.nil, Sl.nil⟩ = true ↔ Bare o := by
  unfold m128 m128_j0 m128_j1 lk1
  have hn : ∀ {α : Type}, (Sl.nil : Sl α).l = [] := rfl
  simp only [hn, if_true]
  have h180 : m180 ([] : List Side) [] = true := rfl
  constructor
  · intro h
    by_cases hg : (o.good == false) = true
    · rw [if_pos hg] at h
      by_cases hc : o.cls = ⟨#[]⟩
      · simp only [hc, decide_true, Bool.not_true, Bool.false_eq_true, if_false] at h
        by_cases hl : m176 o.labels.l [] = true
        · rw [if_pos hl] at h
          by_cases hp : m177 o.ports.l [] = true
          · rw [if_pos hp] at h
            by_cases hh : m178 o.hosts.l [] = true
            · rw [hh] at h
              simp only [Bool.not_true, Bool.false_eq_true, if_false, h180, if_true, ite_tf] at h
              obtain ⟨q1, q2, q3⟩ := h
              exact ⟨by simpa using hg, hc, e176.1 hl, e178.1 hh, e177.1 hp, pair_nil.1 (p181.1 q2), e179.1 q1, pair_nil.1 (p183.1 q3)⟩
            · simp only [Bool.not_eq_true] at hh
              rw [hh] at h
              simp at h
          · rw [if_neg hp] at h; simp at h
        · rw [if_neg hl] at h; simp at h
      · simp [hc] at h
    · rw [if_neg hg] at h; simp at h
  · intro h
    obtain ⟨h1, h2, h3, h4, h5, h6, h7, h8⟩ := h
    simp only [h1, h2, h3, h4, h5, h6, h7, h8]
    decide
theorem same25 (o : Object) : m25 ⟨o.ref, false, Sl.nil, Sl.nil, ⟨#[]⟩, Sl.nil, Sl.nil, Sl.nil, Sl.nil, o.frm, o.to⟩ o = true ↔ Bare o := by
  have l3 : ∀ n r, m25_l3 ⟨o.ref, false, Sl.nil, Sl.nil, ⟨#[]⟩, Sl.nil, Sl.nil, Sl.nil, Sl.nil, o.frm, o.to⟩ o n r = .inr () := fun n => by
    induction n with
    | zero => exact fun r => rfl
    | succ n ih => exact fun r => (if_pos rfl).trans (ih _)
  have l4 : ∀ n r, m25_l4 ⟨o.ref, false, Sl.nil, Sl.nil, ⟨#[]⟩, Sl.nil, Sl.nil, Sl.nil, Sl.nil, o.frm, o.to⟩ o n r = .inr () := fun n => by
    induction n with
    | zero => exact fun r => rfl
    | succ n ih => exact fun r => (if_pos rfl).trans (ih _)
  unfold m25
  have hn : ∀ {α : Type}, (Sl.nil : Sl α).l = [] := rfl
  have z : ((([] : List Int).length : Int) - 0).toNat = 0 := rfl
  simp only [hn, if_true, ite_tf, e93, e94, len_nil, l3, l4, lk2]
  constructor
  · intro h
    exact ⟨by have := h.1; cases hg : o.good <;> simp_all, h.2.1.symm, h.2.2.1.symm, h.2.2.2.1.symm, h.2.2.2.2.1, h.2.2.2.2.2.1, h.2.2.2.2.2.2.1, h.2.2.2.2.2.2.2.1⟩
  · intro h
    exact ⟨by rw [h.good]; rfl, h.cls.symm, h.labels.symm, h.hosts.symm, h.ports, h.listeners, h.parents, h.rules, rfl⟩
theorem grant80 {o : Object} (hk : o.ref.kind = 7) : m80 o = true ↔ Grant o := by
  unfold m80
  rw [ite_tf, ite_tf, m136_fst, m136_snd, same128, all207, all207]
  constructor
  · rintro ⟨h1, ⟨h2, h3, ⟨h4, h5⟩, h6, h7⟩, h8⟩
    exact ⟨h1, h2, by omega, h3, by omega, h5, h7, h8⟩
  · intro h
    have := h.f4
    have := h.t4
    exact ⟨h.ref, ⟨h.f1, h.t1, ⟨by omega, h.f⟩, by omega, h.t⟩, h.bare⟩
theorem grant87 (o : Object) : m87 o = true ↔ (∀ x ∈ o.frm.l, m205 x = true) ∧ (∀ x ∈ o.to.l, m206 x = true) ∧ 1 ≤ o.frm.l.length ∧ o.frm.l.length ≤ 4 ∧ 1 ≤ o.to.l.length ∧ o.to.l.length ≤ 4 := by
  have e1 : ∀ (x : Side) (n : Nat) (r : Int), True := fun _ _ _ => trivial
  unfold m87
  have h2 : ∀ b, lk2 (m87_l1 o (((o.to.l.length : Int) - 0).toNat) 0) (fun _ => b) = true ↔ (∀ x ∈ o.to.l, m206 x = true) ∧ b = true := fun b => allLoop (fun r => rfl) (fun n r => by
    simp only [m87_l1, m206, kind_eq, name_eq, ite_tf]
    constructor
    · rintro ⟨h1, h2, h3⟩
      rw [if_pos h1, if_pos h2]
      by_cases h : (lg o.to.l r).name = (⟨#[]⟩ : ByteArray)
      · rw [if_pos h]
      · rw [if_neg h] at h3
        rw [if_neg h, if_pos h3]
    · intro h
      by_cases h1 : m153 (lg o.to.l r).kind = true
      · rw [if_pos h1]
        by_cases h2 : (lg o.to.l r).space = (⟨#[]⟩ : ByteArray)
        · rw [if_pos h2]
          by_cases h3 : (lg o.to.l r).name = (⟨#[]⟩ : ByteArray)
          · exact (h ⟨h1, h2, by rw [if_pos h3]⟩).elim
          · rw [if_neg h3]
            by_cases h4 : m151 (lg o.to.l r).name = true
            · exact (h ⟨h1, h2, by rw [if_neg h3]; exact h4⟩).elim
            · rw [if_neg h4]
        · rw [if_neg h2]
      · rw [if_neg h1])
  have h1 : ∀ b, lk2 (m87_l0 o (((o.frm.l.length : Int) - 0).toNat) 0) (fun _ => b) = true ↔ (∀ x ∈ o.frm.l, m205 x = true) ∧ b = true := fun b => allLoop (fun r => rfl) (fun n r => by
    simp only [m87_l0, m205, kind_eq, label_eq, ite_tf, decide_eq_true_eq]
    constructor
    · rintro ⟨h1, h2, h3⟩
      rw [if_pos h1, if_pos h2, if_pos h3]
    · intro h
      by_cases h1 : m153 (lg o.frm.l r).kind = true
      · rw [if_pos h1]
        by_cases h2 : m152 (lg o.frm.l r).space = true
        · rw [if_pos h2]
          by_cases h3 : (lg o.frm.l r).name = (⟨#[]⟩ : ByteArray)
          · exact (h ⟨h1, h2, h3⟩).elim
          · rw [if_neg h3]
        · rw [if_neg h2]
      · rw [if_neg h1])
  rw [h1, h2, ite_tf, ite_tf, ite_tf, decide_eq_true_eq]
  constructor
  · rintro ⟨a, b, c, d, e, f⟩
    exact ⟨a, b, by omega, by omega, by omega, by omega⟩
  · rintro ⟨a, b, c, d, e, f⟩
    exact ⟨a, b, by omega, by omega, by omega, by omega⟩
theorem grant18 {o : Object} (hk : o.ref.kind = 7) : m18 o = true ↔ Grant o := by
  unfold m18
  simp only [hk, show ¬ (7 : Int) = 1 by decide, show ¬ (7 : Int) = 4 by decide, show ¬ (7 : Int) = 2 by decide, show ¬ (7 : Int) = 3 by decide, show ¬ (7 : Int) = 5 by decide, show ¬ (7 : Int) = 6 by decide, if_false, if_true, ite_tf, ref_eq, grant87, same25]
  constructor
  · rintro ⟨h1, ⟨h2, h3, h4, h5, h6, h7⟩, h8⟩
    exact ⟨h1, h4, h5, h6, h7, h2, h3, h8⟩
  · intro h
    exact ⟨h.ref, ⟨h.f, h.t, h.f1, h.f4, h.t1, h.t4⟩, h.bare⟩
/-- What a grant lets. -/
theorem lets_iff {o : Object} {k : Int} {s : ByteArray} {to : Ref} : m17 o k s to = true ↔ o.ref.kind = 7 ∧ o.ref.space = to.space ∧ Grant o ∧ (∃ x ∈ o.frm.l, m78 x k s = true) ∧ (∃ x ∈ o.to.l, m79 x to = true) := by
  unfold m17
  rw [ite_tf, ite_tf, ite_tf, ite_tf, any81, any81]
  constructor
  · rintro ⟨h1, h2, h3, h4, h5⟩
    exact ⟨h1, h2, (grant80 h1).1 h3, h4, h5⟩
  · rintro ⟨h1, h2, h3, h4, h5⟩
    exact ⟨h1, h2, (grant80 h1).2 h3, h4, h5⟩
end Go.Proofs.TB
