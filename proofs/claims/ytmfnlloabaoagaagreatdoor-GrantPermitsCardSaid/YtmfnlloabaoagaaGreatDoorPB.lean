/- Plain: labels and names, as the program and the reference tell them, are the same. -/
import Derived.Test.YtmfnlloabaoagaaGreatDoorPA
import Derived.Test.YtmfnlloabaoagaaGreatDoorTM
import Derived.Test.YtmfnlloabaoagaaGreatDoorGA2
import Derived.Laws.RangeString
import Derived.Laws.RangeAny
set_option linter.unusedVariables false
set_option linter.unusedSimpArgs false
namespace Go.Proofs.TB
open Go.RowKit
abbrev oct (c : Int) : Prop := (97 ≤ c ∧ c ≤ 122) ∨ (48 ≤ c ∧ c ≤ 57) ∨ c = 45
structure Lab (s : ByteArray) : Prop where
  one : 1 ≤ s.size
  most : s.size ≤ 20
  octs : ∀ k : Nat, k < s.size → oct (bt s k)
  first : bt s 0 ≠ 45
  last : bt s ((s.size : Int) - 1) ≠ 45
theorem lab139 (s : ByteArray) : m139 s = true ↔ Lab s := by
  unfold m139
  rw [toNat_len, lk2_loop (P := fun r => oct (bt s r) ∧ (¬ bt s r = 45 ∨ (¬ r = 0 ∧ ¬ r = (s.size : Int) - 1))) _ (fun r => rfl) (fun n r => by
    simp only [m139_l0, Bool.not_eq_true', decide_eq_false_iff_not, oct]
    constructor
    · intro h
      repeat' split
      all_goals first | rfl | (exfalso; omega)
    · intro h
      repeat' split
      all_goals first | rfl | (exfalso; omega)), ite_tf]
  simp only [decide_eq_true_eq]
  constructor
  · rintro ⟨h1, h2, h3⟩
    refine ⟨by omega, by omega, fun k hk => (h1 k hk).1, fun e => ?_, fun e => ?_⟩
    · have := (h1 0 (by omega)).2
      rcases this with h | h
      · exact h e
      · exact h.1 rfl
    · have := (h1 (s.size - 1) (by omega)).2
      rw [show ((s.size - 1 : Nat) : Int) = (s.size : Int) - 1 by omega] at this
      rcases this with h | h
      · exact h e
      · exact h.2 rfl
  · intro h
    have h1 := h.one
    have h2 := h.most
    refine ⟨fun k hk => ⟨h.octs k hk, ?_⟩, by omega, by omega⟩
    by_cases e : bt s k = 45
    · refine .inr ⟨fun h0 => ?_, fun h0 => ?_⟩
      · rw [h0] at e; exact h.first e
      · rw [h0] at e; exact h.last e
    · exact .inl e
theorem oct214 (c : Int) : m214 c = true ↔ oct c := by
  unfold m214 oct
  repeat' split
  all_goals simp only [decide_eq_true_eq, true_iff]
  all_goals omega
theorem bt_at {s : ByteArray} {k : Nat} (h : k < s.size) : bt s k = ((s[k]'h).toNat : Int) := by
  have hl2 : k < s.data.toList.length := by rw [Array.length_toList]; exact h
  simp only [bt, Int.toNat_natCast, List.getD_eq_getElem?_getD, List.getElem?_eq_getElem hl2, Option.getD_some]
  rfl
theorem run_octs (s : ByteArray) : ∀ (n r : Nat), s.size - r ≤ n → (m264_l0 s (fun x0 => m213 x0) true n r = .inr () ∧ ∀ k : Nat, r ≤ k → k < s.size → oct (bt s k)) ∨ ((∃ i : Nat, m264_l0 s (fun x0 => m213 x0) true n r = .inl (i : Int)) ∧ ∃ k : Nat, k < s.size ∧ ¬ oct (bt s k))
  | 0, r, h => .inl ⟨rfl, fun k h1 h2 => by omega⟩
  | n + 1, r, h => by
    simp only [m264_l0]
    by_cases hr : r < s.size
    · rw [if_pos hr]
      have hrc : ∀ h : (s[r]'hr).toNat < 128, rc s r = bt s r ∧ rw_ s r = 1 := fun h => by
        have := decode_ascii s r hr h
        exact ⟨by unfold rc; rw [this, bt_at hr], by unfold rw_; rw [this]⟩
      by_cases ho : oct (rc s r)
      · have hlow : (s[r]'hr).toNat < 128 := by
          rcases Nat.lt_or_ge (s[r]'hr).toNat 128 with h | h
          · exact h
          · have := (decode_high s r hr h).1
            have h2 : rc s r = ((Utf8.decode s r).1 : Nat) := rfl
            unfold oct at ho
            omega
        obtain ⟨e1, e2⟩ := hrc hlow
        have hm : m213 (rc s r) = false := by
          unfold m213
          rw [(oct214 _).2 ho]
          rfl
        rw [if_neg (by rw [hm]; decide), e2]
        rcases run_octs s n (r + 1) (by omega) with ⟨h1, h2⟩ | h1
        · refine .inl ⟨h1, fun k hk hk2 => ?_⟩
          by_cases hkr : k = r
          · subst hkr; rw [← e1]; exact ho
          · exact h2 k (by omega) hk2
        · exact .inr h1
      · have hm : m213 (rc s r) = true := by
          unfold m213
          cases h : m214 (rc s r) with
          | true => exact (ho ((oct214 _).1 h)).elim
          | false => rfl
        rw [if_pos (by rw [hm]; decide)]
        refine .inr ⟨⟨r, rfl⟩, r, hr, fun hb => ?_⟩
        rw [bt_at hr] at hb
        have hlow : (s[r]'hr).toNat < 128 := by unfold oct at hb; omega
        rw [(hrc hlow).1, bt_at hr] at ho
        exact ho hb
    · rw [if_neg hr]
      exact .inl ⟨rfl, fun k h1 h2 => by omega⟩
theorem run215 (s : ByteArray) : m215 s (fun x0 => m213 x0) < 0 ↔ ∀ k : Nat, k < s.size → oct (bt s k) := by
  unfold m215 m264
  rcases run_octs s (s.size - 0) 0 (by omega) with ⟨h1, h2⟩ | ⟨⟨i, h1⟩, k, hk, hn⟩
  · rw [h1]
    exact ⟨fun _ k hk => h2 k (by omega) hk, fun _ => by simp [lk2]⟩
  · rw [h1]
    exact ⟨fun h => by simp [lk2] at h; omega, fun h => (hn (h k hk)).elim⟩
theorem lab152 (s : ByteArray) : m152 s = true ↔ Lab s := by
  unfold m152
  by_cases h0 : s = (⟨#[]⟩ : ByteArray)
  · rw [if_pos h0]
    subst h0
    exact ⟨fun h => (by cases h), fun h => by have := h.one; simp [ByteArray.size_mk0] at this⟩
  · rw [if_neg h0, ite_tf, ite_tf, run215]
    have h1 := size_ne h0
    have e : (if bt s 0 = 45 then false else !decide (bt s ((s.size : Int) - 1) = 45)) = true ↔ bt s 0 ≠ 45 ∧ bt s ((s.size : Int) - 1) ≠ 45 := by
      by_cases h : bt s 0 = 45 <;> simp [h]
    rw [e]
    exact ⟨fun ⟨a, b, c, d⟩ => ⟨h1, by omega, b, c, d⟩, fun h => ⟨by have := h.most; omega, h.octs, h.first, h.last⟩⟩
theorem label_eq (s : ByteArray) : m139 s = m152 s := by
  rw [Bool.eq_iff_iff, lab139, lab152]
/-! ### names -/
theorem splitOn_snoc (c b : UInt8) : ∀ l : List UInt8, ∃ xs y, splitOn c l = xs ++ [y] ∧ splitOn c (l ++ [b]) = (if b == c then xs ++ [y] ++ [[]] else xs ++ [y ++ [b]])
  | [] => ⟨[], [], rfl, by
    simp only [List.nil_append, splitOn]
    split <;> rfl⟩
  | a :: r => by
    obtain ⟨xs, y, h1, h2⟩ := splitOn_snoc c b r
    simp only [List.cons_append, splitOn]
    by_cases ha : (a == c) = true
    · refine ⟨[] :: xs, y, by simp [ha, h1], ?_⟩
      rw [if_pos ha, h2]
      split <;> simp
    · simp only [ha, h1]
      cases xs with
      | nil =>
        refine ⟨[], a :: y, by simp, ?_⟩
        rw [h2]
        by_cases hb : (b == c) = true <;> simp [hb]
      | cons x xs =>
        refine ⟨(a :: x) :: xs, y, by simp, ?_⟩
        rw [h2]
        by_cases hb : (b == c) = true <;> simp [hb]
theorem set_last {α : Type} (xs : List α) (y z : α) : (xs ++ [y]).set xs.length z = xs ++ [z] := by
  induction xs with
  | nil => rfl
  | cons x xs ih => simp [ih]
theorem bytesOf_snoc {s : ByteArray} {r : Nat} (h : r < s.size) (y : List UInt8) : bytesOf (y ++ [s[r]'h]) = bytesOf y ++ s.extract r (r + 1) := by
  have e : (s.extract r (r + 1)).data.toList = [s[r]'h] := by
    rw [extract_list]
    have h' : r < s.data.toList.length := by rw [Array.length_toList]; exact h
    rw [List.drop_eq_getElem_cons h']
    simp
    rfl
  have e2 : (bytesOf y ++ s.extract r (r + 1)).data.toList = y ++ [s[r]'h] := by
    rw [ByteArray.data_append, Array.toList_append, e]
    rfl
  rw [← bytesOf_data (bytesOf y ++ s.extract r (r + 1)), e2]
theorem run172 (s : ByteArray) : ∀ (n r : Nat) (st : List ByteArray), n = s.size - r → r ≤ s.size → st = (splitOn 46 (s.data.toList.take r)).map bytesOf → m172_l0 s 46 n st (r : Int) = pieces s
  | 0, r, st, hn, hr, hst => by
    simp only [m172_l0]
    rw [hst, List.take_of_length_le (by rw [Array.length_toList]; show s.size ≤ r; omega)]
    rfl
  | n + 1, r, st, hn, hr, hst => by
    have h : r < s.size := by omega
    have h' : r < s.data.toList.length := by rw [Array.length_toList]; exact h
    simp only [m172_l0]
    have ht : s.data.toList.take (r + 1) = s.data.toList.take r ++ [s[r]'h] := by
      rw [List.take_succ_eq_append_getElem h']; rfl
    obtain ⟨xs, y, h1, h2⟩ := splitOn_snoc 46 (s[r]'h) (s.data.toList.take r)
    have hc : ((r : Int) + 1) = ((r + 1 : Nat) : Int) := by omega
    have hb : bt s r = 46 ↔ ((s[r]'h) == 46) = true := by
      rw [bt_at h, beq_iff_eq, ← UInt8.toNat_inj]
      show _ ↔ _ = 46
      omega
    rw [h1, List.map_append] at hst
    by_cases he : bt s r = 46
    · rw [if_pos he, hc]
      refine run172 s n (r + 1) _ (by omega) (by omega) ?_
      rw [ht, h2, if_pos (hb.1 he), hst]
      simp [bytesOf]
    · rw [if_neg he, hc]
      refine run172 s n (r + 1) _ (by omega) (by omega) ?_
      rw [ht, h2, if_neg (fun e => he (hb.2 e)), hst]
      have hl : (((xs.map bytesOf ++ [y].map bytesOf).length : Int) - 1).toNat = (xs.map bytesOf).length := by simp
      have hlg : lg (xs.map bytesOf ++ [y].map bytesOf) (((xs.map bytesOf ++ [y].map bytesOf).length : Int) - 1) = bytesOf y := by
        have : ((xs.map bytesOf ++ [y].map bytesOf).length : Int) - 1 = ((xs.map bytesOf).length : Int) := by simp
        rw [this, lg_nat (by simp)]
        simp
      rw [hl, hlg, List.map_singleton, set_last, List.map_append, List.map_singleton, bytesOf_snoc h]
      simp
theorem split_eq (s : ByteArray) : m172 s 46 = pieces s := by
  unfold m172
  rw [toNat_len]
  exact run172 s s.size 0 _ (by omega) (by omega) (by simp [splitOn, bytesOf])
theorem name_eq (s : ByteArray) : m138 s = m151 s := by
  unfold m138 m151
  split
  · rfl
  · rw [Bool.eq_iff_iff, allLoop (p := fun x => m139 x = true) (fun r => rfl) (fun n r => ⟨fun h => if_pos h, fun h => if_neg h⟩), split_eq, List.all_eq_true]
    simp [label_eq]
end Go.Proofs.TB
