/- The walks of the disk's small functions. -/
import Derived.Test.YtigcokgjikkohaaRel
namespace Go.Proofs.Ytigcokgjikkohaa
open Go.RowKit Go.Maps
set_option linter.unusedVariables false
set_option linter.unusedSimpArgs false

section
variable {w : World} {d : Nat}
set_option maxHeartbeats 400000 in
theorem ready_nil (w : World) : Calls Try.prog 37 #[.pointer none] w fun e w' => e = .returned (.int .i64 1) ∧ w = w' := by
  go_enter Try.func37, Try.ntmps37
  go_wp2
  go_ret
  exact ⟨rfl, rfl⟩
set_option maxHeartbeats 400000 in
theorem ready_up (h : w.cell? ⟨d, 6, none⟩ = some (.bool false)) : Calls Try.prog 37 #[.pointer (some ⟨d, 0, none⟩)] w fun e w' => e = .returned (.int .i64 0) ∧ w = w' := by
  go_enter Try.func37, Try.ntmps37
  go_wp2
  go_ret
  exact ⟨rfl, rfl⟩
set_option maxHeartbeats 400000 in
theorem ready_down (h : w.cell? ⟨d, 6, none⟩ = some (.bool true)) : Calls Try.prog 37 #[.pointer (some ⟨d, 0, none⟩)] w fun e w' => e = .returned (.int .i64 18) ∧ w = w' := by
  go_enter Try.func37, Try.ntmps37
  go_wp2
  go_ret
  exact ⟨rfl, rfl⟩
set_option maxHeartbeats 400000 in
theorem outcome_any (b : Bool) (w : World) : Calls Try.prog 43 #[.bool b] w fun e w' => e = .returned (.int .i64 (Pd.outc b)) ∧ w = w' := by
  cases b
  · go_enter Try.func43, Try.ntmps43
    go_wp2
    go_ret
    exact ⟨rfl, rfl⟩
  · go_enter Try.func43, Try.ntmps43
    go_wp2
    go_ret
    exact ⟨rfl, rfl⟩
set_option maxHeartbeats 400000 in
theorem fails_no (h : w.cell? ⟨d, 4, none⟩ = some (.bool false)) : Calls Try.prog 40 #[.pointer (some ⟨d, 0, none⟩)] w fun e w' => e = .returned (.bool false) ∧ w = w' := by
  go_enter Try.func40, Try.ntmps40
  go_wp2
  go_ret
  exact ⟨rfl, rfl⟩
set_option maxHeartbeats 400000 in
theorem fails_zero (h : w.cell? ⟨d, 4, none⟩ = some (.bool true)) (h5 : w.cell? ⟨d, 5, none⟩ = some (.int .i64 0)) (x : Value) (h6 : w.cell? ⟨d, 6, none⟩ = some x) (hz : w.frozen? ⟨d, 6, none⟩ = false) :
    Calls Try.prog 40 #[.pointer (some ⟨d, 0, none⟩)] w fun e w' => e = .returned (.bool true) ∧ w.setCell ⟨d, 6, none⟩ (.bool true) = w' := by
  go_enter Try.func40, Try.ntmps40
  go_wp2
  go_ret
  exact ⟨rfl, rfl⟩
set_option maxHeartbeats 400000 in
theorem fails_more (n : Int) (h0 : 1 ≤ n) (h1 : n ≤ 9223372036854775807) (h : w.cell? ⟨d, 4, none⟩ = some (.bool true)) (h5 : w.cell? ⟨d, 5, none⟩ = some (.int .i64 n)) (hz : w.frozen? ⟨d, 5, none⟩ = false) :
    Calls Try.prog 40 #[.pointer (some ⟨d, 0, none⟩)] w fun e w' => e = .returned (.bool false) ∧ w.setCell ⟨d, 5, none⟩ (.int .i64 (n - 1)) = w' := by
  have ht : (n == 0) = false := by rw [beq_eq_false_iff_ne]; omega
  go_enter Try.func40, Try.ntmps40
  go_wp2
  go_ret
  exact ⟨rfl, rfl⟩
end
end Go.Proofs.Ytigcokgjikkohaa
