/- Plain: the law GrantSides. -/
import Derived.Test.YtmfnlloabaoagaaGreatDoorPC
import Derived.Test.YtmfnlloabaoagaaGreatDoorGE
set_option linter.unusedVariables false
set_option linter.unusedSimpArgs false
set_option maxRecDepth 100000
namespace Go.Proofs.TB
open Go.RowKit
theorem awake19 : m19 = true := by kernel_rfl
theorem lets_may {o : Object} {k : Int} {s : ByteArray} {to : Ref} (h : m17 o k s to = true) : m18 o = true :=
  (grant18 (lets_iff.1 h).1).2 (lets_iff.1 h).2.2.1
theorem Grant.some {o : Object} (g : Grant o) {o' : Object} (hr : o'.ref = o.ref) (hb : Bare o') (hf : o'.frm.l = o.frm.l) (ht : ∀ x ∈ o'.to.l, m206 x = true) (t1 : 1 ≤ o'.to.l.length) (t4 : o'.to.l.length ≤ 4) : Grant o' :=
  ⟨by rw [hr]; exact g.ref, by rw [hf]; exact g.f1, by rw [hf]; exact g.f4, t1, t4, by rw [hf]; exact g.f, ht, hb⟩
theorem round3 (a0 : Sides11) (o : Object) (to : Ref) (s : ByteArray) : ∀ n r, m3_l1 a0 o to s n r = .inr () ∨ m3_l1 a0 o to s n r = .inl true
  | 0, r => .inl rfl
  | n + 1, r => by
    have ih := round3 a0 o to s n (r + 1)
    simp only [m3_l1]
    generalize lg ([(⟨#[119, 101, 98]⟩ : ByteArray), (⟨#[97, 112, 112]⟩ : ByteArray), s] : List ByteArray) r = z
    by_cases hm : m18 o = true
    · rw [if_pos hm]
      have hj : m3_j2 a0 o to s r = .inr () := by
        unfold m3_j2
        split
        · split
          · rename_i h1 h2
            rw [if_pos]
            obtain ⟨q1, q2, q3, ⟨x, q4, q5⟩, q6⟩ := lets_iff.1 h2
            refine lets_iff.2 ⟨q1, q2, (grant18 (o := o) q1).1 hm, ⟨x, ?_, q5⟩, q6⟩
            have q4' : x ∈ (([] : List Side) ++ (o.frm.l.take (a0.at_ % (o.frm.l.length : Int)).toNat)) ++ (o.frm.l.drop ((a0.at_ % (o.frm.l.length : Int)) + 1).toNat) := q4
            simp only [List.nil_append, List.mem_append] at q4'
            rcases q4' with h | h
            · exact List.mem_of_mem_take h
            · exact List.mem_of_mem_drop h
          · rfl
        · rfl
      rw [hj]
      simp only [lkR]
      split
      · split
        · split
          · rename_i h1 h2 h3
            rw [if_pos]
            · exact ih
            · obtain ⟨q1, q2, q3, q4, ⟨x, q5, q6⟩⟩ := lets_iff.1 h3
              refine lets_iff.2 ⟨q1, q2, q3.some rfl ⟨q3.bare.good, q3.bare.cls, q3.bare.labels, q3.bare.hosts, q3.bare.ports, q3.bare.listeners, q3.bare.parents, q3.bare.rules⟩ rfl (fun y hy => ?_) ?_ ?_, q4, ⟨x, ?_, q6⟩⟩
              · have hy' : y ∈ (([] : List Side) ++ o.to.l) ++ ([(⟨3, (⟨#[]⟩ : ByteArray), (⟨#[]⟩ : ByteArray)⟩ : Side)] : List Side) := hy
                simp only [List.nil_append, List.mem_append, List.mem_singleton] at hy'
                rcases hy' with h | h
                · exact q3.t y h
                · subst h; decide
              · show 1 ≤ ((([] : List Side) ++ o.to.l) ++ ([(⟨3, (⟨#[]⟩ : ByteArray), (⟨#[]⟩ : ByteArray)⟩ : Side)] : List Side)).length
                simp
              · show ((([] : List Side) ++ o.to.l) ++ ([(⟨3, (⟨#[]⟩ : ByteArray), (⟨#[]⟩ : ByteArray)⟩ : Side)] : List Side)).length ≤ 4
                simp
                omega
              · show x ∈ (([] : List Side) ++ o.to.l) ++ ([(⟨3, (⟨#[]⟩ : ByteArray), (⟨#[]⟩ : ByteArray)⟩ : Side)] : List Side)
                simp [q5]
          · exact ih
        · exact ih
      · exact ih
    · rw [if_neg hm, if_neg (fun h => hm (lets_may h)), awake19]
      exact .inr rfl
theorem law3 (a0 : Sides11) (o : Object) (to : Ref) (s : ByteArray) : m3 a0 o to s = true := by
  unfold m3 lk1
  rcases round3 a0 o to s (((([(⟨#[119, 101, 98]⟩ : ByteArray), (⟨#[97, 112, 112]⟩ : ByteArray), s] : List ByteArray).length : Int) - 0).toNat) 0 with h | h
  · rw [h]; exact awake19
  · rw [h]; rfl
end Go.Proofs.TB
