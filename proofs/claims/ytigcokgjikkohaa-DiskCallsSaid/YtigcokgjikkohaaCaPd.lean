/- How many files an act leaves. -/
import Derived.Test.YtigcokgjikkohaaAcPd
namespace Go.Proofs.Ytigcokgjikkohaa.Pd
set_option linter.unusedVariables false
set_option linter.unusedSimpArgs false
theorem startLoop_length : ∀ (l : Names) (fs : List PFile) (sc : List Int), (startLoop l fs sc).1.length = fs.length
  | [], fs, sc => rfl
  | e :: r, fs, sc => by
    show (startLoop r (fs.modify e.2 fun _ => _) _).1.length = _
    rw [startLoop_length r, List.length_modify]
theorem tick_files (s : PD) : s.tick.2.files = s.files := (tick_same s).2.1
theorem act_files (s : PD) (k : Nat) (a b : ByteArray) (z : Int) (sc : List Int) : (s.act k a b z sc).2.files.length ≤ s.files.length + 1 := by
  unfold PD.act
  repeat' split
  · unfold PD.sync
    split
    · exact Nat.le_succ _
    · split
      · exact Nat.le_succ _
      · split
        · rw [tick_files]; exact Nat.le_succ _
        · rw [List.length_modify]; exact Nat.le_succ _
  · unfold PD.rename
    split
    · exact Nat.le_succ _
    · split
      · exact Nat.le_succ _
      · split
        · exact Nat.le_succ _
        · show s.tick.2.files.length ≤ _; rw [tick_files]; exact Nat.le_succ _
  · unfold PD.remove
    split
    · exact Nat.le_succ _
    · split
      · exact Nat.le_succ _
      · show s.tick.2.files.length ≤ _; rw [tick_files]; exact Nat.le_succ _
  · unfold PD.publish
    split
    · exact Nat.le_succ _
    · split
      · rw [tick_files]; exact Nat.le_succ _
      · show s.tick.2.files.length ≤ _; rw [tick_files]; exact Nat.le_succ _
  · unfold PD.setLimit
    split <;> exact Nat.le_succ _
  · exact Nat.le_succ _
  · unfold PD.start
    split
    · exact Nat.le_succ _
    · show (startLoop _ s.files _).1.length ≤ _; rw [startLoop_length]; exact Nat.le_succ _
  · unfold PD.append
    split
    · exact Nat.le_succ _
    · split
      · exact Nat.le_succ _
      · split
        · split
          · exact Nat.le_succ _
          · split
            · exact Nat.le_succ _
            · show (s.files ++ [_]).length ≤ _; rw [List.length_append]; exact Nat.le_refl _
        · split
          · exact Nat.le_succ _
          · show (s.files.modify _ _).length ≤ _; rw [List.length_modify]; exact Nat.le_succ _
end Go.Proofs.Ytigcokgjikkohaa.Pd
