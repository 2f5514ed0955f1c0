/- Plain: the law GrantPermits. -/
import Derived.Test.YtmfnlloabaoagaaGreatDoorPC
import Derived.Test.YtmfnlloabaoagaaGreatDoorGG
set_option linter.unusedVariables false
set_option linter.unusedSimpArgs false
set_option maxRecDepth 100000
namespace Go.Proofs.TB
open Go.RowKit
theorem awake5 : m19 = true := by kernel_rfl
theorem reflLoop {ρ : Type} {f : Nat → Int → ρ ⊕ Unit} (h0 : ∀ r, f 0 r = .inr ()) (hs : ∀ n r, f (n + 1) r = f n (r + 1)) : ∀ n r, f n r = .inr ()
  | 0, r => h0 r
  | n + 1, r => (hs n r).trans (reflLoop h0 hs n (r + 1))
theorem refl147 (x : Match) : m147 x x = true := by
  unfold m147
  simp [e93.2]
theorem refl95 (x : List Need) : m95 x x = true := by
  unfold m95
  rw [if_pos rfl, reflLoop (f := m95_l0 x x) (fun _ => rfl) (fun n r => by simp [m95_l0, e94.2])]
  rfl
theorem refl96 (x : Rule) : m96 x x = true := by
  unfold m96
  rw [if_pos rfl, if_pos rfl, if_pos rfl, reflLoop (f := m96_l0 x x) (fun _ => rfl) (fun n r => by simp [m96_l0, refl147]), reflLoop (f := m96_l1 x x) (fun _ => rfl) (fun n r => by simp [m96_l1]), reflLoop (f := m96_l2 x x) (fun _ => rfl) (fun n r => by simp [m96_l2])]
  rfl
theorem refl25 (x : Object) : m25 x x = true := by
  unfold m25
  rw [reflLoop (f := m25_l0 x x) (fun _ => rfl) (fun n r => by simp [m25_l0]), reflLoop (f := m25_l1 x x) (fun _ => rfl) (fun n r => by simp [m25_l1, e94.2, refl95]), reflLoop (f := m25_l2 x x) (fun _ => rfl) (fun n r => by simp [m25_l2]), reflLoop (f := m25_l3 x x) (fun _ => rfl) (fun n r => by simp [m25_l3]), reflLoop (f := m25_l4 x x) (fun _ => rfl) (fun n r => by simp [m25_l4]), reflLoop (f := m25_l5 x x) (fun _ => rfl) (fun n r => by simp [m25_l5, refl96])]
  simp [e93.2, e94.2, lk2]
theorem anyLoop {α : Type} [Inhabited α] {a : List α} {p : α → Prop} {f : Nat → Int → Bool ⊕ Unit} (h0 : ∀ r, f 0 r = .inr ()) (hs : ∀ n r, (p (lg a r) → f (n + 1) r = .inl true) ∧ (¬ p (lg a r) → f (n + 1) r = f n (r + 1))) :
    ((∃ x ∈ a, p x) ∧ f (((a.length : Int) - 0).toNat) 0 = .inl true) ∨ ((¬ ∃ x ∈ a, p x) ∧ f (((a.length : Int) - 0).toNat) 0 = .inr ()) := by
  rw [toNat_len]
  rcases loopE (g := fun _ => true) (P := fun r => p (lg a r)) h0 hs a.length 0 with ⟨h1, h2⟩ | ⟨k, h1, h2, _, h4⟩
  · right
    refine ⟨fun ⟨x, hx, hp⟩ => ?_, h2⟩
    obtain ⟨k, hk, e⟩ := List.mem_iff_getElem.1 hx
    have := h1 k hk
    rw [Int.zero_add, lg_nat hk, e] at this
    exact this hp
  · left
    rw [Int.zero_add, lg_nat h1] at h2
    exact ⟨⟨_, List.getElem_mem h1, h2⟩, h4⟩
theorem lets28 (o : Object) (k : Int) (s : ByteArray) (to : Ref) : m28 o k s to = m17 o k s to := by
  rw [Bool.eq_iff_iff, lets_iff]
  unfold m28
  rw [ite_tf, ite_tf, ite_tf]
  have inner : ∀ r, ((∃ x ∈ o.to.l, m78 (lg o.frm.l r) k s = true ∧ m79 x to = true) ∧ m28_l1 o k s to r (((o.to.l.length : Int) - 0).toNat) 0 = .inl true) ∨ ((¬ ∃ x ∈ o.to.l, m78 (lg o.frm.l r) k s = true ∧ m79 x to = true) ∧ m28_l1 o k s to r (((o.to.l.length : Int) - 0).toNat) 0 = .inr ()) := fun r => by
    refine anyLoop (fun _ => rfl) (fun n z => ?_)
    simp only [m28_l1, m78, m79, ite_tf, decide_eq_true_eq]
    by_cases h1 : (lg o.frm.l r).kind = k
    · by_cases h2 : (lg o.frm.l r).space = s
      · by_cases h3 : (lg o.to.l z).kind = to.kind
        · by_cases h4 : (lg o.to.l z).name = (⟨#[]⟩ : ByteArray)
          · simp [h1, h2, h3, h4]
          · by_cases h5 : (lg o.to.l z).name = to.name
            · rw [if_pos h1, if_pos h2, if_pos h3, if_neg h4, if_pos h5, if_neg h4]
              simp [h1, h2, h3, h5]
            · rw [if_pos h1, if_pos h2, if_pos h3, if_neg h4, if_neg h5, if_neg h4]
              simp [h1, h2, h3, h5]
        · simp [h1, h2, h3]
      · simp [h1, h2]
    · simp [h1]
  have outer := anyLoop (a := o.frm.l) (p := fun f => ∃ x ∈ o.to.l, m78 f k s = true ∧ m79 x to = true) (f := m28_l0 o k s to) (fun _ => rfl) (fun n r => by
    refine ⟨fun h => ?_, fun h => ?_⟩
    · rcases inner r with ⟨_, h2⟩ | ⟨h1, _⟩
      · simp only [m28_l0, h2, lkR]
      · exact (h1 h).elim
    · rcases inner r with ⟨h1, _⟩ | ⟨_, h2⟩
      · exact (h h1).elim
      · simp only [m28_l0, h2, lkR])
  constructor
  · rintro ⟨h1, h2, h3, h4⟩
    rcases outer with ⟨⟨f, hf, x, hx, q1, q2⟩, _⟩ | ⟨_, h5⟩
    · exact ⟨h1, h2, (grant18 h1).1 h3, ⟨f, hf, q1⟩, ⟨x, hx, q2⟩⟩
    · rw [h5] at h4; cases h4
  · rintro ⟨h1, h2, h3, ⟨f, hf, q1⟩, ⟨x, hx, q2⟩⟩
    refine ⟨h1, h2, (grant18 h1).2 h3, ?_⟩
    rcases outer with ⟨_, h5⟩ | ⟨h4, _⟩
    · rw [h5]; rfl
    · exact (h4 ⟨f, hf, x, hx, q1, q2⟩).elim
theorem by31 (l : List Object) (k : Int) (s : ByteArray) (to : Ref) : m31 l k s to = m21 l k s to := by
  have h : ∀ (r p : List Object) (a : List Ref), l = p ++ r → m31_l0 l k s to r.length a (p.length : Int) = a ++ (r.filter fun o => m17 o k s to).map Object.ref := by
    intro r
    induction r with
    | nil => intro p a h; simp [m31_l0]
    | cons x r ih =>
      intro p a h
      have hx : lg l (p.length : Int) = x := by rw [h, lg_nat (by simp)]; simp
      have e := fun a => ih (p ++ [x]) a (by rw [h]; simp)
      rw [List.length_append, List.length_singleton, Int.natCast_add] at e
      have z : ((1 : Nat) : Int) = 1 := rfl
      rw [z] at e
      simp only [List.length_cons, m31_l0, hx, lets28, e]
      by_cases hm : m17 x k s to = true
      · simp [hm]
      · simp [hm]
  have h0 := h l [] [] rfl
  have z : ((([] : List Object).length : Nat) : Int) = 0 := rfl
  rw [z] at h0
  unfold m31 m21 hits lk1
  rw [toNat_len, h0]
  rfl
theorem near_eq (r : Ref) (s : ByteArray) : m26 r s = m27 r s := by
  unfold m26 m27
  by_cases h1 : r.kind = 1
  · simp [h1]
  · by_cases h2 : r.kind = 2
    · simp [h2]
    · simp [h1, h2]
theorem find_eq (l : List Object) (r : Ref) : m23 l r = m24 l r := by
  unfold m23
  have h91 := findLoop (a := l) (p := fun x => m92 x r) (f := m91_l0 l (fun x => m92 x r)) (fun r => rfl) (fun n r => ⟨fun h => if_pos h, fun h => if_neg h⟩)
  have g : ∀ (n : Nat) (i : Int), ((∀ k : Nat, k < n → ¬ (lg l (i + k)).ref = r) → ∀ x1 x2 x3 x4 x5 x6 x7 x8 x9 x10 x11 x12 x13, m24_l0 l r n i x1 x2 x3 x4 x5 x6 x7 x8 x9 x10 x11 x12 x13 = .inr (x1, x2, x3, x4, x5, x6, x7, x8, x9, x10, x11, x12, x13)) := by
    intro n
    induction n with
    | zero => intros; rfl
    | succ n ih =>
      intro i h
      intros
      have h0 := h 0 (by omega)
      rw [show i + ((0 : Nat) : Int) = i by omega] at h0
      rw [m24_l0, if_neg h0]
      exact ih _ (fun k hk => by have := h (k + 1) (by omega); rwa [show i + ((k + 1 : Nat) : Int) = i + 1 + k by omega] at this) ..
  have g2 : ∀ (k n : Nat) (i : Int), k < n → (lg l (i + k)).ref = r → (∀ j : Nat, j < k → ¬ (lg l (i + j)).ref = r) → ∀ x1 x2 x3 x4 x5 x6 x7 x8 x9 x10 x11 x12 x13, m24_l0 l r n i x1 x2 x3 x4 x5 x6 x7 x8 x9 x10 x11 x12 x13 = .inl (lg l (i + k), true) := by
    intro k
    induction k with
    | zero =>
      intro n i hn hp _
      intros
      obtain ⟨n, rfl⟩ : ∃ m, n = m + 1 := ⟨n - 1, by omega⟩
      rw [show i + ((0 : Nat) : Int) = i by omega] at hp ⊢
      rw [m24_l0, if_pos hp]
    | succ k ih =>
      intro n i hn hp hb
      intros
      obtain ⟨n, rfl⟩ : ∃ m, n = m + 1 := ⟨n - 1, by omega⟩
      have h0 := hb 0 (by omega)
      rw [show i + ((0 : Nat) : Int) = i by omega] at h0
      rw [m24_l0, if_neg h0]
      have e : i + ((k + 1 : Nat) : Int) = i + 1 + k := by omega
      rw [e] at hp ⊢
      exact ih n (i + 1) (by omega) hp (fun j hj => by have := hb (j + 1) (by omega); rwa [show i + ((j + 1 : Nat) : Int) = i + 1 + j by omega] at this) ..
  have e92 : ∀ x : Object, m92 x r = true ↔ x.ref = r := fun x => by unfold m92; exact decide_eq_true_iff
  unfold m91 m24
  rcases h91 with ⟨h1, h2⟩ | ⟨k, h1, h2, h3, h4⟩
  · rw [h1, if_pos (by decide)]
    rw [toNat_len, g l.length 0 (fun k hk => by
      rw [Int.zero_add, lg_nat hk]
      exact fun e => h2 _ (List.getElem_mem hk) ((e92 _).2 e))]
    rfl
  · rw [h2, if_neg (by omega)]
    rw [toNat_len, g2 k l.length 0 h1 (by rw [Int.zero_add]; exact (e92 _).1 h3) (fun j hj => by rw [Int.zero_add]; exact fun e => h4 j hj ((e92 _).2 e))]
    rw [Int.zero_add]
    rfl
theorem e30 {a b : List Ref} : m30 a b = true ↔ a = b := eqLoop (fun r => rfl) (fun n r => ⟨fun h => if_pos h, fun h => if_neg h⟩)
theorem permits_eq (l : List Object) (k : Int) (s : ByteArray) (to : Ref) : m22 l k s to = m29 l k s to := by
  unfold m29
  rw [by31]
  unfold m22 m21
  by_cases h : s = to.space
  · simp [h]
  · rw [if_neg h]
    cases hits l k s to with
    | nil => simp [h]
    | cons x r => simp
theorem law5 (a0 q : Ask11) : m5 a0 q = true := by
  unfold m5
  rw [find_eq, refl25, near_eq, permits_eq, by31, e30.2 rfl, awake5, reflLoop (f := m5_l0 q) (fun _ => rfl) (fun n r => by simp [m5_l0, lets28])]
  simp [lk2]
end Go.Proofs.TB
