/- act: a call of the disk. -/
import Derived.Test.YtigcokgjikkohaaAcPd
import Derived.Test.YtigcokgjikkohaaAc
namespace Go.Proofs.Ytigcokgjikkohaa
open Go.RowKit Go.Maps Go.Sort
set_option linter.unusedVariables false
set_option linter.unusedSimpArgs false
section
variable {w w' : World} {B d n m : Nat} {s : Pd.PD}
theorem DiskIn.mono (h : DiskIn B w d n s) (hm : n ≤ m) : DiskIn B w d m s := ⟨h.1.mono hm, h.2⟩
def PAct.on (x : PAct) (s : Pd.PD) : Int × Pd.PD := s.act x.kind x.name x.dst x.num x.script
end
set_option maxRecDepth 100000 in
set_option maxHeartbeats 4000000 in
theorem act_in {w : World} {B d n : Nat} {s : Pd.PD} {x : PAct} (h : DiskIn B w d n s) (hn : n < 1000000) (hok : ActOk w x) (hs : x.small = true) :
    Calls Try.prog 25 #[.pointer (some ⟨d, 0, none⟩), .agg x.cells] w (IRet B w d (n + 1) (x.on s)) := by
  show Calls Try.prog 25 #[.pointer (some ⟨d, 0, none⟩), .agg #[.int .u8 x.kind, .string x.name, .string x.dst, .int .i8 x.num, .slice x.sa x.script.length x.scap]] w _
  have hB := h.B_le
  have hfa : Fr (fun _ => False) w (w.alloc (.cells #[.int .u8 x.kind, .string x.name, .string x.dst, .int .i8 x.num, .slice x.sa x.script.length x.scap] 48 (0, 0))) := (Fr.refl (fun _ => False) w).alloc _
  have hb := heap_alloc_this w (.cells #[.int .u8 x.kind, .string x.name, .string x.dst, .int .i8 x.num, .slice x.sa x.script.length x.scap] 48 (0, 0))
  have hx0 := cell_at hb 0
  have hx1 := cell_at hb 1
  have hx2 := cell_at hb 2
  have hx3 := cell_at hb 3
  have hx4 := cell_at hb 4
  have HD := Lib.hid (h.kept hfa)
  have HI := Lib.hid (hok.2.2.2.2.kept hfa)
  obtain ⟨b0, _, _, b3, _⟩ := hok
  obtain ⟨s1, s2, s3⟩ : x.name.size ≤ 50 ∧ x.dst.size ≤ 50 ∧ x.script.length ≤ 12 := by
    simp only [PAct.small, Bool.and_eq_true, decide_eq_true_eq] at hs
    exact ⟨hs.1.1, hs.1.2, hs.2⟩
  have HF := Lib.hid hfa
  clear h hb hfa hs
  have hm : ∀ k : Nat, x.kind % 11 = k → (x.kind : Int) % 11 = (k : Int) ∧ Int.tmod (x.kind : Int) 11 = (k : Int) := fun k e => by
    have : (x.kind : Int) % 11 = (k : Int) := by omega
    exact ⟨this, by rw [Int.tmod_eq_emod_of_nonneg (by omega)]; exact this⟩
  obtain h6 | h6 | h6 | h6 | h6 | h6 | h6 | h6 | h6 | h6 | h6 : x.kind % 11 = 0 ∨ x.kind % 11 = 1 ∨ x.kind % 11 = 2 ∨ x.kind % 11 = 3 ∨ x.kind % 11 = 4 ∨ x.kind % 11 = 5 ∨ x.kind % 11 = 6 ∨ x.kind % 11 = 7 ∨ x.kind % 11 = 8 ∨ x.kind % 11 = 9 ∨ x.kind % 11 = 10 := by omega
  · obtain ⟨h6a, h6b⟩ := hm _ h6
    have h6c : (x.kind : Int) % 11 = 0 := h6a
    have h6d : Int.tmod (x.kind : Int) 11 = 0 := h6b
    have hr : x.on s = s.append x.name x.dst := by simp [PAct.on, Pd.PD.act, h6]
    rw [hr]
    clear hr h6 h6a h6b hm
    go_enter Try.func25, Try.ntmps25
    go_wp2_with (first | (go_at_call 13; refine (append_in HD.out hn x.name x.dst (by omega) (by omega)).mono ?_; rintro e w2 ⟨rfl, hd2, hf2⟩))
    go_ret
    exact ⟨rfl, hd2.mono (by omega), (HF.out.mono (fun i e => e.elim)).trans hf2 (fun i e => .inl e)⟩
  · obtain ⟨h6a, h6b⟩ := hm _ h6
    have h6c : (x.kind : Int) % 11 = 1 := h6a
    have h6d : Int.tmod (x.kind : Int) 11 = 1 := h6b
    have hr : x.on s = s.sync x.name := by simp [PAct.on, Pd.PD.act, h6]
    rw [hr]
    clear hr h6 h6a h6b hm
    go_enter Try.func25, Try.ntmps25
    go_wp2_with (first | (go_at_call 15; refine (sync_in HD.out x.name (by omega)).mono ?_; rintro e w2 ⟨rfl, hd2, hf2⟩))
    go_ret
    exact ⟨rfl, hd2.mono (by omega), (HF.out.mono (fun i e => e.elim)).trans hf2 (fun i e => .inl e)⟩
  · obtain ⟨h6a, h6b⟩ := hm _ h6
    have h6c : (x.kind : Int) % 11 = 2 := h6a
    have h6d : Int.tmod (x.kind : Int) 11 = 2 := h6b
    have hr : x.on s = s.rename x.name x.dst := by simp [PAct.on, Pd.PD.act, h6]
    rw [hr]
    clear hr h6 h6a h6b hm
    go_enter Try.func25, Try.ntmps25
    go_wp2_with (first | (go_at_call 23; refine (rename_in HD.out hn x.name x.dst (by omega) (by omega)).mono ?_; rintro e w2 ⟨rfl, hd2, hf2⟩))
    go_ret
    exact ⟨rfl, hd2.mono (by omega), (HF.out.mono (fun i e => e.elim)).trans hf2 (fun i e => .inl e)⟩
  · obtain ⟨h6a, h6b⟩ := hm _ h6
    have h6c : (x.kind : Int) % 11 = 3 := h6a
    have h6d : Int.tmod (x.kind : Int) 11 = 3 := h6b
    have hr : x.on s = s.remove x.name := by simp [PAct.on, Pd.PD.act, h6]
    rw [hr]
    clear hr h6 h6a h6b hm
    go_enter Try.func25, Try.ntmps25
    go_wp2_with (first | (go_at_call 31; refine (remove_in HD.out hn x.name (by omega)).mono ?_; rintro e w2 ⟨rfl, hd2, hf2⟩))
    go_ret
    exact ⟨rfl, hd2.mono (by omega), (HF.out.mono (fun i e => e.elim)).trans hf2 (fun i e => .inl e)⟩
  · obtain ⟨h6a, h6b⟩ := hm _ h6
    have h6c : (x.kind : Int) % 11 = 4 := h6a
    have h6d : Int.tmod (x.kind : Int) 11 = 4 := h6b
    have hr : x.on s = s.publish := by simp [PAct.on, Pd.PD.act, h6]
    rw [hr]
    clear hr h6 h6a h6b hm
    go_enter Try.func25, Try.ntmps25
    go_wp2_with (first | (go_at_call 14; refine (publish_in HD.out).mono ?_; rintro e w2 ⟨rfl, hd2, hf2⟩))
    go_ret
    exact ⟨rfl, hd2.mono (by omega), (HF.out.mono (fun i e => e.elim)).trans hf2 (fun i e => .inl e)⟩
  · obtain ⟨h6a, h6b⟩ := hm _ h6
    have h6c : (x.kind : Int) % 11 = 5 := h6a
    have h6d : Int.tmod (x.kind : Int) 11 = 5 := h6b
    have hr : x.on s = s.setLimit x.num := by simp [PAct.on, Pd.PD.act, h6]
    rw [hr]
    clear hr h6 h6a h6b hm
    go_enter Try.func25, Try.ntmps25
    go_wp2_with (first | (go_at_call 22; refine (limit_in HD.out x.num (by omega)).mono ?_; rintro e w2 ⟨rfl, hd2, hf2⟩))
    go_ret
    exact ⟨rfl, hd2.mono (by omega), (HF.out.mono (fun i e => e.elim)).trans hf2 (fun i e => .inl e)⟩
  · obtain ⟨h6a, h6b⟩ := hm _ h6
    have h6c : (x.kind : Int) % 11 = 6 := h6a
    have h6d : Int.tmod (x.kind : Int) 11 = 6 := h6b
    have hr : x.on s = (0, s.crash) := by simp [PAct.on, Pd.PD.act, h6]
    rw [hr]
    clear hr h6 h6a h6b hm
    go_enter Try.func25, Try.ntmps25
    go_wp2_with (first | (go_at_call 16; refine (crash_in HD.out).mono ?_; rintro e w2 ⟨rfl, hd2, hf2⟩))
    go_ret
    exact ⟨rfl, hd2.mono (by omega), (HF.out.mono (fun i e => e.elim)).trans hf2 (fun i e => .inl e)⟩
  · obtain ⟨h6a, h6b⟩ := hm _ h6
    have h6c : (x.kind : Int) % 11 = 7 := h6a
    have h6d : Int.tmod (x.kind : Int) 11 = 7 := h6b
    have hr : x.on s = (0, s.start x.script) := by simp [PAct.on, Pd.PD.act, h6]
    rw [hr]
    clear hr h6 h6a h6b hm
    go_enter Try.func25, Try.ntmps25
    go_wp2_with (first | (go_at_call 17; refine (start_in HD.out hn HI.out (by omega)).mono ?_; rintro e w2 ⟨rfl, hd2, hf2⟩))
    go_ret
    exact ⟨rfl, hd2.mono (by omega), (HF.out.mono (fun i e => e.elim)).trans hf2 (fun i e => .inl e)⟩
  · obtain ⟨h6a, h6b⟩ := hm _ h6
    have h6c : (x.kind : Int) % 11 = 8 := h6a
    have h6d : Int.tmod (x.kind : Int) 11 = 8 := h6b
    have hr : x.on s = s.append x.name x.dst := by simp [PAct.on, Pd.PD.act, h6]
    rw [hr]
    clear hr h6 h6a h6b hm
    go_enter Try.func25, Try.ntmps25
    go_wp2_with (first | (go_at_call 13; refine (append_in HD.out hn x.name x.dst (by omega) (by omega)).mono ?_; rintro e w2 ⟨rfl, hd2, hf2⟩))
    go_ret
    exact ⟨rfl, hd2.mono (by omega), (HF.out.mono (fun i e => e.elim)).trans hf2 (fun i e => .inl e)⟩
  · obtain ⟨h6a, h6b⟩ := hm _ h6
    have h6c : (x.kind : Int) % 11 = 9 := h6a
    have h6d : Int.tmod (x.kind : Int) 11 = 9 := h6b
    have hr : x.on s = s.append x.name x.dst := by simp [PAct.on, Pd.PD.act, h6]
    rw [hr]
    clear hr h6 h6a h6b hm
    go_enter Try.func25, Try.ntmps25
    go_wp2_with (first | (go_at_call 13; refine (append_in HD.out hn x.name x.dst (by omega) (by omega)).mono ?_; rintro e w2 ⟨rfl, hd2, hf2⟩))
    go_ret
    exact ⟨rfl, hd2.mono (by omega), (HF.out.mono (fun i e => e.elim)).trans hf2 (fun i e => .inl e)⟩
  · obtain ⟨h6a, h6b⟩ := hm _ h6
    have h6c : (x.kind : Int) % 11 = 10 := h6a
    have h6d : Int.tmod (x.kind : Int) 11 = 10 := h6b
    have hr : x.on s = s.append x.name x.dst := by simp [PAct.on, Pd.PD.act, h6]
    rw [hr]
    clear hr h6 h6a h6b hm
    go_enter Try.func25, Try.ntmps25
    go_wp2_with (first | (go_at_call 13; refine (append_in HD.out hn x.name x.dst (by omega) (by omega)).mono ?_; rintro e w2 ⟨rfl, hd2, hf2⟩))
    go_ret
    exact ⟨rfl, hd2.mono (by omega), (HF.out.mono (fun i e => e.elim)).trans hf2 (fun i e => .inl e)⟩
end Go.Proofs.Ytigcokgjikkohaa
