/- The walk of isName. -/
import Derived.Test.YtigcokgjikkohaaW1
namespace Go.Proofs.Ytigcokgjikkohaa
open Go.RowKit Go.Maps
set_option linter.unusedVariables false
set_option linter.unusedSimpArgs false

theorem okChar_iff (c : UInt8) : Pd.okChar c = true ↔ ((97 ≤ (c.toNat : Int) ∧ (c.toNat : Int) ≤ 122) ∨ (48 ≤ (c.toNat : Int) ∧ (c.toNat : Int) ≤ 57) ∨ (c.toNat : Int) = 46 ∨ (c.toNat : Int) = 45) := by
  unfold Pd.okChar
  simp only [Bool.or_eq_true, Bool.and_eq_true, decide_eq_true_eq]
  omega
def allOk (s : ByteArray) (k : Nat) : Prop := ∀ j (h : j < s.size), j < k → Pd.okChar s[j] = true
theorem allOk_full {s : ByteArray} (h : allOk s s.size) : s.data.toList.all Pd.okChar = true := by
  rw [List.all_eq_true]
  intro c hc
  obtain ⟨j, hj, rfl⟩ := List.mem_iff_getElem.1 hc
  have hj' : j < s.size := by simpa using hj
  exact h j hj' hj'
theorem isName_false {s : ByteArray} {k : Nat} (hk : k < s.size) (h : Pd.okChar s[k] = false) : Pd.isName s = false := by
  unfold Pd.isName
  have : s.data.toList.all Pd.okChar = false := by
    rw [List.all_eq_false]
    exact ⟨s[k], List.mem_iff_getElem.2 ⟨k, by simpa using hk, rfl⟩, by simp [h]⟩
  simp [this]
theorem allOk_succ {s : ByteArray} {k : Nat} (h : allOk s k) (hk : k < s.size) (hc : Pd.okChar s[k] = true) : allOk s (k + 1) := by
  intro j hj hlt
  by_cases e : j = k
  · subst e; exact hc
  · exact h j hj (by omega)
theorem ret_bool {a b : Bool} (h : a = b) : Ending.returned (.bool a) = Ending.returned (.bool b) := by rw [h]
theorem ret_int {k : IntKind} {a b : Int} (h : a = b) : Ending.returned (.int k a) = Ending.returned (.int k b) := by rw [h]
set_option maxHeartbeats 1000000 in
theorem isName_any (s : ByteArray) (w : World) (hs : s.size ≤ 9223372036854775807) : Calls Try.prog 38 #[.string s] w fun e w' => e = .returned (.bool (Pd.isName s)) ∧ w = w' := by
  go_enter Try.func38, Try.ntmps38
  go_wp2
  go_loop [7] (fun i => ∃ k : Nat, k ≤ s.size ∧ i = .int .i64 k ∧ allOk s k) (fun i => s.size - (intOf i).toNat)
  case atStart => exact ⟨0, Nat.zero_le _, rfl, fun j _ h => absurd h (Nat.not_lt_zero _)⟩
  case round =>
    obtain ⟨k, hk, rfl, hall⟩ := hrel
    have H := Lib.hid hall
    clear hall
    by_cases hlt : k < s.size
    · go_wp2
      all_goals
        first
          | (go_ret; exact ⟨ret_bool (isName_false hlt (by rw [← Bool.not_eq_true, okChar_iff]; simp only [bne_iff_ne, bne_eq_false_iff_eq, ne_eq] at *; omega)).symm, rfl⟩)
          | exact ⟨⟨k + 1, by omega, by go_num, allOk_succ H.out hlt ((okChar_iff _).2 (by simp only [bne_iff_ne, bne_eq_false_iff_eq, ne_eq] at *; omega))⟩, by simp [intOf]; omega⟩
    · obtain rfl : k = s.size := by omega
      have hfin : Pd.isName s = (decide (0 < s.size) && decide (s.size ≤ 40)) := by unfold Pd.isName; rw [allOk_full H.out, Bool.true_and]
      have Hf := Lib.hid hfin
      clear hfin
      by_cases h0 : 0 < s.size
      · by_cases h1 : s.size ≤ 40
        · go_wp2
          go_ret
          exact ⟨ret_bool (by rw [Hf.out]; simp [h0, h1]; omega), rfl⟩
        · go_wp2
          go_ret
          exact ⟨ret_bool (by rw [Hf.out]; simp [h0, h1]; omega), rfl⟩
      · go_wp2
        go_ret
        exact ⟨ret_bool (by rw [Hf.out]; simp [h0]), rfl⟩
end Go.Proofs.Ytigcokgjikkohaa
