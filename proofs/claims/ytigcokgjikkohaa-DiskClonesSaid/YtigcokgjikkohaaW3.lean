/- The walk of used. -/
import Derived.Test.YtigcokgjikkohaaMp
import Derived.Test.YtigcokgjikkohaaW2
namespace Go.Proofs.Ytigcokgjikkohaa
open Go.RowKit Go.Maps
set_option linter.unusedVariables false
set_option linter.unusedSimpArgs false

theorem mem_of_find {l : Pd.Names} {k : ByteArray} {i : Nat} (h : Pd.find l k = some i) : ∃ e ∈ l, e.2 = i ∧ e.1 = k := by
  unfold Pd.find at h
  rw [Option.map_eq_some_iff] at h
  obtain ⟨e, he, rfl⟩ := h
  exact ⟨e, List.mem_of_find?_eq_some he, rfl, by simpa using List.find?_some he⟩

theorem usedLeft_le (fs : List Pd.PFile) (l : Pd.Names) (left : Lit → Bool) : usedLeft fs l left ≤ Pd.usedBy fs l := by
  unfold usedLeft Pd.usedBy
  induction l with
  | nil => exact Nat.le_refl _
  | cons e r ih =>
    simp only [List.filter_cons, List.map_cons, List.sum_cons]
    split
    · simp only [List.map_cons, List.sum_cons]; omega
    · omega

set_option maxRecDepth 100000 in
set_option maxHeartbeats 1000000 in
theorem used_core {w : World} {d nb n : Nat} {addr : Nat → Nat} {l : Pd.Names} {fs : List Pd.PFile} (hc : w.cell? ⟨d, 1, none⟩ = some (.map (some nb))) (hn : namesAt w nb n addr l)
    (hf : ∀ k i, Pd.find l k = some i → w.heap[addr i]? = some (fileObj (Pd.fileAt fs i))) (hb : Pd.usedBy fs l ≤ 4611686018427387904) :
    Calls Try.prog 39 #[.pointer (some ⟨d, 0, none⟩)] w fun e w' => e = .returned (.int .i64 (Pd.usedBy fs l)) ∧ Fr (fun _ => False) w w' := by
  have hp := names_nodup hn
  have hall := usedLeft_all fs addr l hp
  have HF := Lib.hid hf
  have HA := Lib.hid hall
  clear hf hall
  go_enter Try.func39, Try.ntmps39
  go_wp2_with (first
    | (at_range; refine wpList_range_own _ rfl _ 69 rfl 9 73 lawS Try.underlying69 _ nb n _ rfl hn ?_; intro w0 hrg0 hg0 hs0)
    | go_in)
  go_frame
  go_loopw [3] (fun v wr => ∃ (left : Lit → Bool) (cnt : Nat), wr.ranges Try.prog 9 ptrEl nb w.heap.size n (toD addr l) left cnt ∧ Fr (fun _ => False) w wr ∧ v = .int .i64 ((Pd.usedBy fs l - usedLeft fs l left : Nat) : Int))
    (fun _ wr => wr.rangeLeft nb w.heap.size)
  case atStart => exact ⟨_, _, hrg0, (Fr.refl _ _).grown hg0 (fun k e => by cases e), by rw [HA.out]; simp⟩
  case round =>
    obtain ⟨left, cnt, hrg, hfr, rfl⟩ := hrel
    go_wp2_with (first
      | (at_next; refine wpList_next_names _ rfl _ rfl nb w.heap.size n addr l left cnt rfl hrg ?_ ?_)
      | go_in)
    · intro _ hl0
      have hz := usedLeft_none fs l left hl0
      have HZ := Lib.hid hz
      clear hz
      go_wp2
      go_ret
      exact ⟨ret_int (by rw [HZ.out]; simp), hfr⟩
    · intro k i w1 cnt1 hfi hlx hrg1 hlt hg1 hs1 hen
      have hst := usedLeft_step fs l left hp hfi hlx
      have hfr1 : Fr (fun _ => False) w w1 := hfr.grown hg1 (fun j e => by cases e; exact .inr (Nat.le_refl _))
      have ho := HF.out k i hfi
      have hcell : w1.cell? ⟨addr i, 0, none⟩ = some (.string (Pd.fileAt fs i).data) := by
        rw [cell_at ((hfr1.block _ (lt_of_some ho) (fun e => e)).trans ho) 0]; rfl
      have hle := usedLeft_le fs l left
      have hb2 : (Pd.usedBy fs l - usedLeft fs l left) + (Pd.fileAt fs i).data.size ≤ 4611686018427387904 := by omega
      have HS := Lib.hid hst
      clear ho hfi hst
      go_wp2
      go_roundw
      case rel => exact ⟨_, cnt1, hrg1, hfr1, by have := HS.out; congr 1; omega⟩
      case measure => rw [hrg1.left_eq, hrg.left_eq]; exact hlt
end Go.Proofs.Ytigcokgjikkohaa
