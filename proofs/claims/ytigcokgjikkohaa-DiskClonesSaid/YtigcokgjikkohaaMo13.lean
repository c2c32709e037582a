/- The model's act. -/
import Derived.Test.YtigcokgjikkohaaMo12
namespace Go.Proofs.Ytigcokgjikkohaa
open Go.RowKit Go.Maps Go.Sort
set_option linter.unusedVariables false
set_option linter.unusedSimpArgs false
theorem ModelTo.of {w w0 w' : World} {M : Nat → Prop} {m : Nat} {s : Pd.PD} (h : ModelTo w0 M m s w') (hf : Fr (fun _ => False) w w0) (hm : m < w.heap.size) : ModelTo w M m s w' := by
  obtain ⟨⟨fv, nv, dv, pv, p⟩, hf1⟩ := h
  have hg : ∀ b, grown w0 M b → b < w'.heap.size → grown w M b := fun b hb _ => hb.imp id (Nat.le_trans hf.size)
  refine ⟨⟨fv, nv, dv, pv, p.cell, p.lim, p.hf.mono hg, p.hn.mono hg, p.hd.mono hg, p.hp.mono hg, fun e => ?_⟩, (hf.mono (fun i e => e.elim)).trans hf1 (fun i e => .inl e)⟩
  rcases e with e | e
  · exact p.hm (.inl e)
  · omega
set_option maxRecDepth 100000 in
set_option maxHeartbeats 4000000 in
theorem mact_any {w0 w : World} {M : Nat → Prop} {m n : Nat} {s : Pd.PD} {x : PAct} (h : ModelAt w M m s) (hi : Pd.Inv n s) (hn : n < 1000000) (hfn : s.files.length ≤ 1000000) (hok : ActOk w0 x) (hf0 : Fr (fun i => w0.heap.size ≤ i) w0 w) (hm0 : w0.heap.size ≤ m) (hs : x.small = true) :
    Calls Try.prog 27 #[.pointer (some ⟨m, 0, none⟩), .agg x.cells] w fun e w' => e = .returned (.int .i64 (x.on s).1) ∧ ModelTo w M m (x.on s).2 w' := by
  show Calls Try.prog 27 #[.pointer (some ⟨m, 0, none⟩), .agg #[.int .u8 x.kind, .string x.name, .string x.dst, .int .i8 x.num, .slice x.sa x.script.length x.scap]] w _
  have hfa : Fr (fun _ => False) w (w.alloc (.cells #[.int .u8 x.kind, .string x.name, .string x.dst, .int .i8 x.num, .slice x.sa x.script.length x.scap] 48 (0, 0))) := (Fr.refl (fun _ => False) w).alloc _
  have hb := heap_alloc_this w (.cells #[.int .u8 x.kind, .string x.name, .string x.dst, .int .i8 x.num, .slice x.sa x.script.length x.scap] 48 (0, 0))
  have hx0 := cell_at hb 0
  have hx1 := cell_at hb 1
  have hx2 := cell_at hb 2
  have hx3 := cell_at hb 3
  have hx4 := cell_at hb 4
  have hlm : m < w.heap.size := by obtain ⟨_, _, _, _, p⟩ := h; exact p.lt
  have HM := Lib.hid (h.kept hfa (fun _ _ _ e => e) (fun e => e))
  have HV := Lib.hid hi
  obtain ⟨⟨b0, bc⟩, _, _, b3, hI⟩ := hok
  have HI := Lib.hid hI
  obtain ⟨s1, s2, s3⟩ : x.name.size ≤ 50 ∧ x.dst.size ≤ 50 ∧ x.script.length ≤ 12 := by
    simp only [PAct.small, Bool.and_eq_true, decide_eq_true_eq] at hs
    exact ⟨hs.1.1, hs.1.2, hs.2⟩
  have HF := Lib.hid hfa
  have HF0 := Lib.hid (hf0.alloc (.cells #[.int .u8 x.kind, .string x.name, .string x.dst, .int .i8 x.num, .slice x.sa x.script.length x.scap] 48 (0, 0)))
  obtain ⟨fv, nv, dv, pv, p⟩ := HM.out
  obtain ⟨_, q1, q2, _, _, _, _⟩ := p.cells
  have z1 := p.free 1
  have z2 := p.free 2
  have PP := Lib.hid p
  clear h hb hfa hs hi hI hf0 p
  have hm : ∀ k : Nat, x.kind % 11 = k → (x.kind : Int) % 11 = (k : Int) ∧ Int.tmod (x.kind : Int) 11 = (k : Int) := fun k e => by
    have : (x.kind : Int) % 11 = (k : Int) := by omega
    exact ⟨this, by rw [Int.tmod_eq_emod_of_nonneg (by omega)]; exact this⟩
  obtain h6 | h6 | h6 | h6 | h6 | h6 | h6 | h6 | h6 | h6 | h6 : x.kind % 11 = 0 ∨ x.kind % 11 = 1 ∨ x.kind % 11 = 2 ∨ x.kind % 11 = 3 ∨ x.kind % 11 = 4 ∨ x.kind % 11 = 5 ∨ x.kind % 11 = 6 ∨ x.kind % 11 = 7 ∨ x.kind % 11 = 8 ∨ x.kind % 11 = 9 ∨ x.kind % 11 = 10 := by omega
  · obtain ⟨h6a, h6b⟩ := hm _ h6
    have h6c : (x.kind : Int) % 11 = 0 := h6a
    have h6d : Int.tmod (x.kind : Int) 11 = 0 := h6b
    have hr : x.on s = s.append x.name x.dst := by simp [PAct.on, Pd.PD.act, h6]
    rw [hr]
    clear hr h6 h6a h6b hm q1 q2 z1 z2
    go_enter Try.func27, Try.ntmps27
    go_wp2_with (first | (go_at_call 28; refine (mappend_any HM.out HV.out hn hfn x.name x.dst (by omega) (by omega)).mono ?_; rintro e w2 ⟨rfl, ht2⟩))
    go_ret
    exact ⟨rfl, ht2.of HF.out hlm⟩
  · obtain ⟨h6a, h6b⟩ := hm _ h6
    have h6c : (x.kind : Int) % 11 = 1 := h6a
    have h6d : Int.tmod (x.kind : Int) 11 = 1 := h6b
    have hr : x.on s = s.sync x.name := by simp [PAct.on, Pd.PD.act, h6]
    rw [hr]
    clear hr h6 h6a h6b hm q1 q2 z1 z2
    go_enter Try.func27, Try.ntmps27
    go_wp2_with (first | (go_at_call 30; refine (msync_any HM.out HV.out x.name).mono ?_; rintro e w2 ⟨rfl, ht2⟩))
    go_ret
    exact ⟨rfl, ht2.of HF.out hlm⟩
  · obtain ⟨h6a, h6b⟩ := hm _ h6
    have h6c : (x.kind : Int) % 11 = 2 := h6a
    have h6d : Int.tmod (x.kind : Int) 11 = 2 := h6b
    have hr : x.on s = s.rename x.name x.dst := by simp [PAct.on, Pd.PD.act, h6]
    rw [hr]
    clear hr h6 h6a h6b hm q1 q2 z1 z2
    go_enter Try.func27, Try.ntmps27
    go_wp2_with (first | (go_at_call 29; refine (mrename_any HM.out HV.out hn x.name x.dst (by omega)).mono ?_; rintro e w2 ⟨rfl, ht2⟩))
    go_ret
    exact ⟨rfl, ht2.of HF.out hlm⟩
  · obtain ⟨h6a, h6b⟩ := hm _ h6
    have h6c : (x.kind : Int) % 11 = 3 := h6a
    have h6d : Int.tmod (x.kind : Int) 11 = 3 := h6b
    have hr : x.on s = s.remove x.name := by simp [PAct.on, Pd.PD.act, h6]
    rw [hr]
    clear hr h6 h6a h6b hm q1 q2 z1 z2
    go_enter Try.func27, Try.ntmps27
    go_wp2_with (first | (go_at_call 32; refine (mremove_any HM.out HV.out hn x.name).mono ?_; rintro e w2 ⟨rfl, ht2⟩))
    go_ret
    exact ⟨rfl, ht2.of HF.out hlm⟩
  · obtain ⟨h6a, h6b⟩ := hm _ h6
    have h6c : (x.kind : Int) % 11 = 4 := h6a
    have h6d : Int.tmod (x.kind : Int) 11 = 4 := h6b
    have hr : x.on s = s.publish := by simp [PAct.on, Pd.PD.act, h6]
    rw [hr]
    clear hr h6 h6a h6b hm q1 q2 z1 z2
    go_enter Try.func27, Try.ntmps27
    go_wp2_with (first | (go_at_call 35; refine (mpublish_any HM.out).mono ?_; rintro e w2 ⟨rfl, ht2⟩))
    go_ret
    exact ⟨rfl, ht2.of HF.out hlm⟩
  · obtain ⟨h6a, h6b⟩ := hm _ h6
    have h6c : (x.kind : Int) % 11 = 5 := h6a
    have h6d : Int.tmod (x.kind : Int) 11 = 5 := h6b
    have hr : x.on s = s.setLimit x.num := by simp [PAct.on, Pd.PD.act, h6]
    rw [hr]
    clear hr h6 h6a h6b hm
    by_cases hd : s.down = true
    · have e : s.setLimit x.num = (18, s) := by unfold Pd.PD.setLimit; rw [if_pos hd]
      rw [e]
      rw [hd] at q2
      go_enter Try.func27, Try.ntmps27
      go_wp2
      go_ret
      exact ⟨rfl, (ModelTo.same HM.out (Fr.refl _ _)).of HF.out hlm⟩
    · have hd : s.down = false := by simpa using hd
      by_cases hneg : x.num < 0
      · have e : s.setLimit x.num = (0, { s with limit := none }) := by unfold Pd.PD.setLimit; rw [if_neg (by rw [hd]; decide), if_pos hneg]
        have hmx : max x.num (-1) = -1 := by omega
        rw [e]
        rw [hd] at q2
        clear e hd
        go_enter Try.func27, Try.ntmps27
        go_upto_region 1 with (fail)
        generalize w.alloc (.cells #[.int .u8 x.kind, .string x.name, .string x.dst, .int .i8 x.num, .slice x.sa x.script.length x.scap] 48 (0, 0)) = W at *
        go_wp2
        go_ret
        have p := PP.out
        have hfs : Fr (fun i => i = m) W (W.setCell ⟨m, 1, none⟩ (.int .i64 (-1))) := (Fr.refl (fun i => i = m) W).setCell ⟨m, 1, none⟩ _ (.inl rfl)
        exact ⟨rfl, (p.turn (s' := { s with limit := none }) hfs ((heap_set_same p.cell).trans rfl) (by show (-1 : Int) ≤ _; omega) (p.hf.past hfs p.hm) (p.hn.past hfs p.hm) (p.hd.past hfs p.hm) (p.hp.past hfs p.hm)).of HF.out hlm⟩
      · obtain ⟨z, hz⟩ : ∃ z : Nat, x.num = z := ⟨x.num.toNat, by omega⟩
        have e : s.setLimit x.num = (0, { s with limit := some z }) := by unfold Pd.PD.setLimit; rw [if_neg (by rw [hd]; decide), if_neg hneg, hz]; rfl
        have hmx : max x.num (-1) = (z : Int) := by omega
        have HD0 := Lib.hid hd
        have HZB := Lib.hid (show (z : Int) ≤ 127 by omega)
        clear hz
        rw [e]
        rw [hd] at q2
        clear e hd
        go_enter Try.func27, Try.ntmps27
        go_upto_region 1 with (fail)
        generalize w.alloc (.cells #[.int .u8 x.kind, .string x.name, .string x.dst, .int .i8 x.num, .slice x.sa x.script.length x.scap] 48 (0, 0)) = W at *
        go_wp2
        go_ret
        have p := PP.out
        have hfs : Fr (fun i => i = m) W (W.setCell ⟨m, 1, none⟩ (.int .i64 z)) := (Fr.refl (fun i => i = m) W).setCell ⟨m, 1, none⟩ _ (.inl rfl)
        exact ⟨rfl, (p.turn (s' := { s with limit := some z, down := false }) hfs ((heap_set_same p.cell).trans (by unfold modelObj; rw [HD0.out]; rfl)) (by show (z : Int) ≤ _; have := HZB.out; omega) (p.hf.past hfs p.hm) (p.hn.past hfs p.hm) (p.hd.past hfs p.hm) (p.hp.past hfs p.hm)).of HF.out hlm⟩
  · obtain ⟨h6a, h6b⟩ := hm _ h6
    have h6c : (x.kind : Int) % 11 = 6 := h6a
    have h6d : Int.tmod (x.kind : Int) 11 = 6 := h6b
    have hr : x.on s = (0, s.crash) := by simp [PAct.on, Pd.PD.act, h6]
    rw [hr]
    clear hr h6 h6a h6b hm
    go_enter Try.func27, Try.ntmps27
    go_upto_region 1 with (fail)
    generalize w.alloc (.cells #[.int .u8 x.kind, .string x.name, .string x.dst, .int .i8 x.num, .slice x.sa x.script.length x.scap] 48 (0, 0)) = W at *
    go_wp2
    go_ret
    have p := PP.out
    have hfs : Fr (fun i => i = m) W (W.setCell ⟨m, 2, none⟩ (.bool true)) := (Fr.refl (fun i => i = m) W).setCell ⟨m, 2, none⟩ _ (.inl rfl)
    exact ⟨rfl, (p.turn (s' := s.crash) hfs ((heap_set_same p.cell).trans rfl) p.lim (p.hf.past hfs p.hm) (p.hn.past hfs p.hm) (p.hd.past hfs p.hm) (p.hp.past hfs p.hm)).of HF.out hlm⟩
  · obtain ⟨h6a, h6b⟩ := hm _ h6
    have h6c : (x.kind : Int) % 11 = 7 := h6a
    have h6d : Int.tmod (x.kind : Int) 11 = 7 := h6b
    have hr : x.on s = (0, s.start x.script) := by simp [PAct.on, Pd.PD.act, h6]
    rw [hr]
    clear hr h6 h6a h6b hm q1 q2 z1 z2
    go_enter Try.func27, Try.ntmps27
    go_wp2_with (first | (go_at_call 51; refine (mstart_any HM.out HV.out hn hfn HI.out HF0.out hm0 bc (by omega)).mono ?_; rintro e w2 ⟨rfl, ht2⟩))
    go_ret
    exact ⟨rfl, ht2.of HF.out hlm⟩
  · obtain ⟨h6a, h6b⟩ := hm _ h6
    have h6c : (x.kind : Int) % 11 = 8 := h6a
    have h6d : Int.tmod (x.kind : Int) 11 = 8 := h6b
    have hr : x.on s = s.append x.name x.dst := by simp [PAct.on, Pd.PD.act, h6]
    rw [hr]
    clear hr h6 h6a h6b hm q1 q2 z1 z2
    go_enter Try.func27, Try.ntmps27
    go_wp2_with (first | (go_at_call 28; refine (mappend_any HM.out HV.out hn hfn x.name x.dst (by omega) (by omega)).mono ?_; rintro e w2 ⟨rfl, ht2⟩))
    go_ret
    exact ⟨rfl, ht2.of HF.out hlm⟩
  · obtain ⟨h6a, h6b⟩ := hm _ h6
    have h6c : (x.kind : Int) % 11 = 9 := h6a
    have h6d : Int.tmod (x.kind : Int) 11 = 9 := h6b
    have hr : x.on s = s.append x.name x.dst := by simp [PAct.on, Pd.PD.act, h6]
    rw [hr]
    clear hr h6 h6a h6b hm q1 q2 z1 z2
    go_enter Try.func27, Try.ntmps27
    go_wp2_with (first | (go_at_call 28; refine (mappend_any HM.out HV.out hn hfn x.name x.dst (by omega) (by omega)).mono ?_; rintro e w2 ⟨rfl, ht2⟩))
    go_ret
    exact ⟨rfl, ht2.of HF.out hlm⟩
  · obtain ⟨h6a, h6b⟩ := hm _ h6
    have h6c : (x.kind : Int) % 11 = 10 := h6a
    have h6d : Int.tmod (x.kind : Int) 11 = 10 := h6b
    have hr : x.on s = s.append x.name x.dst := by simp [PAct.on, Pd.PD.act, h6]
    rw [hr]
    clear hr h6 h6a h6b hm q1 q2 z1 z2
    go_enter Try.func27, Try.ntmps27
    go_wp2_with (first | (go_at_call 28; refine (mappend_any HM.out HV.out hn hfn x.name x.dst (by omega) (by omega)).mono ?_; rintro e w2 ⟨rfl, ht2⟩))
    go_ret
    exact ⟨rfl, ht2.of HF.out hlm⟩
end Go.Proofs.Ytigcokgjikkohaa
