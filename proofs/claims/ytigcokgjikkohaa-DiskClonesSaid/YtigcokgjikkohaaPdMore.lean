/- More on changes that were made one after another. -/
import Derived.Test.YtigcokgjikkohaaPdInv
namespace Go.Proofs.Ytigcokgjikkohaa.Pd
theorem Rep.at : ∀ {p : List PChange} {l l' : Names} {k : Nat} {c : PChange}, Rep l p l' → p[k]? = some c → okOn ((p.take k).foldl PChange.on l) c ∧ ((p.take k).foldl PChange.on l).length ≤ 64
  | [], _, _, _, _, _, h => by simp at h
  | c :: r, _, _, 0, _, h, e => by simp at e; subst e; exact ⟨h.2.1, h.1⟩
  | c :: r, _, _, k + 1, _, h, e => Rep.at (p := r) (k := k) h.2.2 (by simpa using e)
theorem foldl_take_succ {p : List PChange} {l : Names} {k : Nat} {c : PChange} (h : p[k]? = some c) : (p.take (k + 1)).foldl PChange.on l = c.on ((p.take k).foldl PChange.on l) := by
  rw [List.take_add_one, List.foldl_append, h]
  rfl
theorem choice_len (sc : List Int) (m : Nat) : (choice sc m).2.length ≤ sc.length := by
  unfold choice
  split
  · exact Nat.le_refl _
  · simp
end Go.Proofs.Ytigcokgjikkohaa.Pd
