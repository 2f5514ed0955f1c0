/- Plain: what loops come to. -/
import Derived.Test.YtmfnlloabaoagaaGreatDoorTK
import Derived.Test.YtmfnlloabaoagaaGreatDoorTT
set_option linter.unusedVariables false
set_option linter.unusedSimpArgs false
namespace Go.Proofs.TB
open Go.RowKit
section
variable {ρ : Type}
theorem loopT {x : ρ} {P : Int → Prop} {f : Nat → Int → ρ ⊕ Unit} (h0 : ∀ r, f 0 r = .inr ()) (hs : ∀ n r, (P r → f (n + 1) r = f n (r + 1)) ∧ (¬ P r → f (n + 1) r = .inl x)) :
    ∀ n r, ((∀ k : Nat, k < n → P (r + k)) → f n r = .inr ()) ∧ ((¬ ∀ k : Nat, k < n → P (r + k)) → f n r = .inl x)
  | 0, r => ⟨fun _ => h0 r, fun h => (h (fun k hk => by omega)).elim⟩
  | n + 1, r => by
    obtain ⟨i1, i2⟩ := loopT h0 hs n (r + 1)
    obtain ⟨s1, s2⟩ := hs n r
    refine ⟨fun h => ?_, fun h => ?_⟩
    · rw [s1 (by have := h 0 (by omega); simpa using this)]
      refine i1 (fun k hk => ?_)
      have := h (k + 1) (by omega)
      rw [show r + ((k + 1 : Nat) : Int) = r + 1 + k by omega] at this
      exact this
    · by_cases hp : P r
      · rw [s1 hp]
        refine i2 (fun hk => h (fun k hk' => ?_))
        cases k with
        | zero => simpa using hp
        | succ k =>
          have := hk k (by omega)
          rw [show r + ((k + 1 : Nat) : Int) = r + 1 + k by omega]
          exact this
      · exact s2 hp
theorem lk2_loop {P : Int → Prop} {f : Nat → Int → Bool ⊕ Unit} {b : Bool} (n : Nat) (h0 : ∀ r, f 0 r = .inr ()) (hs : ∀ n r, (P r → f (n + 1) r = f n (r + 1)) ∧ (¬ P r → f (n + 1) r = .inl false)) :
    lk2 (f n 0) (fun _ => b) = true ↔ (∀ k : Nat, k < n → P (k : Int)) ∧ b = true := by
  obtain ⟨h1, h2⟩ := loopT h0 hs n 0
  simp only [Int.zero_add] at h1 h2
  by_cases h : ∀ k : Nat, k < n → P (k : Int)
  · rw [h1 h]; exact ⟨fun e => ⟨h, e⟩, fun e => e.2⟩
  · rw [h2 h]; exact ⟨fun e => (by cases e), fun e => (h e.1).elim⟩
/-- The first that is so. -/
theorem loopE {g : Int → ρ} {P : Int → Prop} {f : Nat → Int → ρ ⊕ Unit} (h0 : ∀ r, f 0 r = .inr ()) (hs : ∀ n r, (P r → f (n + 1) r = .inl (g r)) ∧ (¬ P r → f (n + 1) r = f n (r + 1))) :
    ∀ n r, ((∀ k : Nat, k < n → ¬ P (r + k)) ∧ f n r = .inr ()) ∨ (∃ k : Nat, k < n ∧ P (r + k) ∧ (∀ j : Nat, j < k → ¬ P (r + j)) ∧ f n r = .inl (g (r + k)))
  | 0, r => .inl ⟨fun k hk => by omega, h0 r⟩
  | n + 1, r => by
    obtain ⟨s1, s2⟩ := hs n r
    by_cases hp : P r
    · exact .inr ⟨0, by omega, by simpa using hp, fun j hj => by omega, by rw [s1 hp]; simp⟩
    · rw [s2 hp]
      have e : ∀ k : Nat, r + ((k + 1 : Nat) : Int) = r + 1 + k := fun k => by omega
      rcases loopE h0 hs n (r + 1) with ⟨h1, h2⟩ | ⟨k, h1, h2, h3, h4⟩
      · refine .inl ⟨fun k hk => ?_, h2⟩
        cases k with
        | zero => simpa using hp
        | succ k => rw [e]; exact h1 k (by omega)
      · refine .inr ⟨k + 1, by omega, by rw [e]; exact h2, fun j hj => ?_, by rw [e]; exact h4⟩
        cases j with
        | zero => simpa using hp
        | succ j => rw [e]; exact h3 j (by omega)
end
section
variable {α : Type} [Inhabited α]
theorem lg_nat {l : List α} {k : Nat} (h : k < l.length) : lg l (k : Int) = l[k] := by
  simp [lg, List.getD_eq_getElem?_getD, List.getElem?_eq_getElem h]
theorem all_lg {l : List α} {p : α → Prop} : (∀ k : Nat, k < l.length → p (lg l (k : Int))) ↔ ∀ x ∈ l, p x := by
  constructor
  · intro h x hx
    obtain ⟨k, hk, e⟩ := List.mem_iff_getElem.1 hx
    have := h k hk
    rw [lg_nat hk, e] at this
    exact this
  · intro h k hk
    rw [lg_nat hk]
    exact h _ (List.getElem_mem _)
theorem eq_lg {a b : List α} (hl : a.length = b.length) : (∀ k : Nat, k < a.length → lg a (k : Int) = lg b (k : Int)) ↔ a = b := by
  constructor
  · intro h
    refine List.ext_getElem hl (fun k h1 h2 => ?_)
    have := h k h1
    rwa [lg_nat h1, lg_nat h2] at this
  · rintro rfl _ _; rfl
end
theorem toNat_len {n : Nat} : ((n : Int) - 0).toNat = n := by omega
section
variable {α : Type} [Inhabited α]
theorem eqLoop {a b : List α} {f : Nat → Int → Bool ⊕ Unit} (h0 : ∀ r, f 0 r = .inr ()) (hs : ∀ n r, (lg a r = lg b r → f (n + 1) r = f n (r + 1)) ∧ (¬ lg a r = lg b r → f (n + 1) r = .inl false)) :
    (if (a.length : Int) = (b.length : Int) then lk2 (f (((a.length : Int) - 0).toNat) 0) (fun _ => true) else false) = true ↔ a = b := by
  rw [toNat_len]
  by_cases hl : (a.length : Int) = (b.length : Int)
  · rw [if_pos hl, lk2_loop _ h0 hs, eq_lg (by omega)]
    simp
  · rw [if_neg hl]
    exact ⟨fun h => (by cases h), fun h => (hl (by rw [h])).elim⟩
theorem pairLoop {β : Type} [Inhabited β] {a : List α} {b : List β} {p : α → β → Bool} {f : Nat → Int → Bool ⊕ Unit} (h0 : ∀ r, f 0 r = .inr ()) (hs : ∀ n r, (p (lg a r) (lg b r) = true → f (n + 1) r = f n (r + 1)) ∧ (¬ p (lg a r) (lg b r) = true → f (n + 1) r = .inl false)) :
    (if (a.length : Int) = (b.length : Int) then lk2 (f (((a.length : Int) - 0).toNat) 0) (fun _ => true) else false) = true ↔ a.length = b.length ∧ ∀ k : Nat, k < a.length → p (lg a k) (lg b k) = true := by
  rw [toNat_len]
  by_cases hl : (a.length : Int) = (b.length : Int)
  · rw [if_pos hl, lk2_loop _ h0 hs]
    exact ⟨fun h => ⟨by omega, h.1⟩, fun h => ⟨h.2, rfl⟩⟩
  · rw [if_neg hl]
    exact ⟨fun h => (by cases h), fun h => (hl (by omega)).elim⟩
theorem allLoop {a : List α} {p : α → Prop} {f : Nat → Int → Bool ⊕ Unit} {b : Bool} (h0 : ∀ r, f 0 r = .inr ()) (hs : ∀ n r, (p (lg a r) → f (n + 1) r = f n (r + 1)) ∧ (¬ p (lg a r) → f (n + 1) r = .inl false)) :
    lk2 (f (((a.length : Int) - 0).toNat) 0) (fun _ => b) = true ↔ (∀ x ∈ a, p x) ∧ b = true := by
  rw [toNat_len, lk2_loop (P := fun r => p (lg a r)) _ h0 hs, all_lg (p := p)]
/-- The place of the first, -1: none. -/
theorem findLoop {a : List α} {p : α → Bool} {f : Nat → Int → Int ⊕ Unit} (h0 : ∀ r, f 0 r = .inr ()) (hs : ∀ n r, (p (lg a r) = true → f (n + 1) r = .inl r) ∧ (¬ p (lg a r) = true → f (n + 1) r = f n (r + 1))) :
    (lk2 (f (((a.length : Int) - 0).toNat) 0) (fun _ => (-1)) = -1 ∧ ∀ x ∈ a, ¬ p x = true) ∨ ∃ k : Nat, k < a.length ∧ lk2 (f (((a.length : Int) - 0).toNat) 0) (fun _ => (-1)) = (k : Int) ∧ p (lg a k) = true ∧ ∀ j : Nat, j < k → ¬ p (lg a j) = true := by
  rw [toNat_len]
  rcases loopE (g := fun r => r) (P := fun r => p (lg a r) = true) h0 hs a.length 0 with ⟨h1, h2⟩ | ⟨k, h1, h2, h3, h4⟩
  · left
    rw [h2]
    refine ⟨rfl, all_lg.1 (fun k hk => ?_)⟩
    have := h1 k hk
    rwa [Int.zero_add] at this
  · right
    rw [h4]
    simp only [Int.zero_add] at h2 h3
    exact ⟨k, h1, by simp [lk2], h2, h3⟩
theorem findLoop_ge {a : List α} {p : α → Bool} {f : Nat → Int → Int ⊕ Unit} (h0 : ∀ r, f 0 r = .inr ()) (hs : ∀ n r, (p (lg a r) = true → f (n + 1) r = .inl r) ∧ (¬ p (lg a r) = true → f (n + 1) r = f n (r + 1))) :
    (0 : Int) ≤ lk2 (f (((a.length : Int) - 0).toNat) 0) (fun _ => (-1)) ↔ ∃ x ∈ a, p x = true := by
  rcases findLoop h0 hs with ⟨h1, h2⟩ | ⟨k, h1, h2, h3, h4⟩
  · rw [h1]
    exact ⟨fun h => (by omega), fun ⟨x, hx, hp⟩ => (h2 x hx hp).elim⟩
  · rw [h2]
    exact ⟨fun _ => ⟨lg a k, by rw [lg_nat h1]; exact List.getElem_mem _, h3⟩, fun _ => by omega⟩
end
theorem ite_tf {c : Prop} [Decidable c] {b : Bool} : (if c then b else false) = true ↔ c ∧ b = true := by
  by_cases h : c <;> simp [h]
end Go.Proofs.TB
