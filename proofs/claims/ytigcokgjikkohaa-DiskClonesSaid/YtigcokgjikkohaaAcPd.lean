/- An act as an operation on plain disks. -/
import Derived.Test.YtigcokgjikkohaaRdPd
namespace Go.Proofs.Ytigcokgjikkohaa.Pd
set_option linter.unusedVariables false
set_option linter.unusedSimpArgs false
def PD.act (s : PD) (k : Nat) (a b : ByteArray) (z : Int) (sc : List Int) : Int × PD :=
  if k % 11 = 1 then s.sync a
  else if k % 11 = 2 then s.rename a b
  else if k % 11 = 3 then s.remove a
  else if k % 11 = 4 then s.publish
  else if k % 11 = 5 then s.setLimit z
  else if k % 11 = 6 then (0, s.crash)
  else if k % 11 = 7 then (0, s.start sc)
  else s.append a b
theorem Inv.act {n : Nat} {s : PD} (h : Inv n s) (k : Nat) (a b : ByteArray) (z : Int) (sc : List Int) : Inv (n + 1) (s.act k a b z sc).2 := by
  unfold PD.act
  repeat' split
  · exact (h.sync a).mono (Nat.le_succ n)
  · exact h.rename a b
  · exact h.remove a
  · exact h.publish.mono (Nat.le_succ n)
  · exact (h.setLimit z).mono (Nat.le_succ n)
  · exact h.crash.mono (Nat.le_succ n)
  · exact (h.start sc).mono (Nat.le_succ n)
  · exact h.append a b
theorem Keep.act {nm z : ByteArray} {s : PD} (h : Keep nm z s) (k : Nat) {a b : ByteArray} (y : Int) (sc : List Int) (ha : a ≠ nm) (hb : b ≠ nm) : Keep nm z (s.act k a b y sc).2 := by
  unfold PD.act
  repeat' split
  · exact h.sync a
  · exact h.rename ha hb
  · exact h.remove ha
  · exact h.publish
  · exact h.setLimit y
  · exact h.crash
  · exact h.start sc
  · exact h.append ha
end Go.Proofs.Ytigcokgjikkohaa.Pd
