/- Plain: the law GrantBys. -/
import Derived.Test.YtmfnlloabaoagaaGreatDoorPC
import Derived.Test.YtmfnlloabaoagaaGreatDoorGF
set_option linter.unusedVariables false
set_option linter.unusedSimpArgs false
set_option maxRecDepth 100000
namespace Go.Proofs.TB
open Go.RowKit
theorem awake4 : m19 = true := by kernel_rfl
theorem lg_mid {α : Type} [Inhabited α] {p r : List α} {x : α} {i : Int} (h : i = (p.length : Int)) : lg (p ++ x :: r) i = x := by
  subst h
  rw [lg_nat (by simp)]
  simp
theorem count4 (q : Ask11) : ∀ (r p : List Object), q.l.l = p ++ r →
    m4_l0 q r.length ((p.filter fun o => m17 o q.kind q.space q.to).length : Int) (p.length : Int) = .inr ((q.l.l.filter fun o => m17 o q.kind q.space q.to).length : Int)
  | [], p, h => by rw [h]; simp [m4_l0]
  | x :: r, p, h => by
    have ih := count4 q r (p ++ [x]) (by rw [h]; simp)
    have hx : lg q.l.l (p.length : Int) = x := by rw [h]; exact lg_mid rfl
    rw [List.length_append, List.length_singleton, Int.natCast_add] at ih
    simp only [List.length_cons, m4_l0, hx]
    by_cases hm : m17 x q.kind q.space q.to = true
    · have hl : (p ++ [x]).filter (fun o => m17 o q.kind q.space q.to) = p.filter (fun o => m17 o q.kind q.space q.to) ++ [x] := by simp [List.filter_append, hm]
      have hh : m21 q.l.l q.kind q.space q.to = ((p.filter fun o => m17 o q.kind q.space q.to).map Object.ref) ++ x.ref :: ((r.filter fun o => m17 o q.kind q.space q.to).map Object.ref) := by
        unfold m21 hits
        rw [h]; simp [List.filter_append, hm]
      obtain ⟨h1, h2, _⟩ := lets_iff.1 hm
      have hr : lg (m21 q.l.l q.kind q.space q.to) ((p.filter fun o => m17 o q.kind q.space q.to).length : Int) = x.ref := by rw [hh]; exact lg_mid (by simp)
      have hn : ¬ ((m21 q.l.l q.kind q.space q.to).length : Int) ≤ ((p.filter fun o => m17 o q.kind q.space q.to).length : Int) := by rw [hh]; simp; omega
      rw [if_pos hm, if_neg hn, if_pos hr, if_pos h1, if_pos h2]
      rw [hl, List.length_append, List.length_singleton, Int.natCast_add] at ih
      exact ih
    · have hl : (p ++ [x]).filter (fun o => m17 o q.kind q.space q.to) = p.filter (fun o => m17 o q.kind q.space q.to) := by simp [List.filter_append, hm]
      rw [if_neg hm]
      rw [hl] at ih
      exact ih
theorem back4 (q : Ask11) : ∀ (n : Nat) (a : List Object), n ≤ q.l.l.length → m4_l1 q n a ((n : Int) - 1) = a ++ (q.l.l.take n).reverse
  | 0, a, h => by simp [m4_l1]
  | n + 1, a, h => by
    have e : (((n + 1 : Nat) : Int) - 1) = (n : Int) := by omega
    rw [e, m4_l1, back4 q n _ (by omega), lg_nat (by omega), List.take_succ_eq_append_getElem (by omega), List.reverse_append]
    simp
theorem law4 (a0 q : Ask11) : m4 a0 q = true := by
  have h0 := count4 q q.l.l [] (by simp)
  have h1 := back4 q q.l.l.length [] (Nat.le_refl _)
  simp only [List.filter_nil, List.length_nil, Int.natCast_zero, List.nil_append, List.take_length] at h0 h1
  unfold m4
  rw [toNat_len, show (((q.l.l.length : Int) - 1) + 1).toNat = q.l.l.length by omega]
  rw [h0, h1]
  simp only [lk2, lk1]
  have h2 : (m21 q.l.l q.kind q.space q.to).length = (q.l.l.filter fun o => m17 o q.kind q.space q.to).length := by simp [m21, hits]
  rw [if_pos (by rw [h2])]
  have h3 : m22 q.l.l.reverse q.kind q.space q.to = m22 q.l.l q.kind q.space q.to := by
    unfold m22 hits
    rw [List.filter_reverse]
    simp
  rw [h3]
  simp [awake4]
end Go.Proofs.TB
