/- The walk of (*Disk).Append onto a file that is there; Append as a whole. -/
import Derived.Test.YtigcokgjikkohaaA2
namespace Go.Proofs.Ytigcokgjikkohaa
open Go.RowKit Go.Maps
set_option linter.unusedVariables false
set_option linter.unusedSimpArgs false
section
variable {w w' : World} {F G : Nat → Prop} {d nb db : Nat} {pv : Value} {xs : List Value} {addr : Nat → Nat} {L : Nat → Prop} {left : Int} {s : Pd.PD}

/-- A file of the disk, its cells. -/
theorem DiskP.fileCells (h : DiskP w F G d nb db pv xs addr L left s) {k : Nat} (hk : L k) :
    w.cell? ⟨addr k, 0, none⟩ = some (.string (Pd.fileAt s.files k).data) ∧ w.cell? ⟨addr k, 1, none⟩ = some (.int .i64 (Pd.fileAt s.files k).dur) ∧ w.frozen? ⟨addr k, 0, none⟩ = false ∧ w.frozen? ⟨addr k, 1, none⟩ = false := by
  have hf := h.file k hk
  exact ⟨by rw [cell_at hf]; rfl, by rw [cell_at hf]; rfl, free_at hf 0, free_at hf 1⟩
theorem old_close {left' : Int} {k : Nat} {data : ByteArray} (h : DiskP w F G d nb db pv xs addr L left s) {w2 : World} (hf02 : Fr F w w2) (h2 : DiskP w2 F G d nb db pv xs addr L left' s.tick.2) (hk : L k) :
    DiskTo w F G d { s.tick.2 with files := s.files.modify k fun f => { f with data := f.data ++ data } } (w2.setCell ⟨addr k, 0, none⟩ (.string ((Pd.fileAt s.files k).data ++ data))) := by
  obtain ⟨_, t2, _⟩ := Pd.tick_same s
  have hfile := h2.file k hk
  have h5 := h2.refile hk (fun f => { f with data := f.data ++ data }) (w' := w2.setCell ⟨addr k, 0, none⟩ (.string ((Pd.fileAt s.files k).data ++ data))) (setD_fr _ _ _ _) (by
    rw [heap_set_same hfile, t2]
    simp [fileObj])
  rw [t2] at h5
  exact ⟨F, G, h5.at, fun _ h => .inl h, fun _ h => .inl h, hf02.setCell _ _ (.inl (h.Ff k hk))⟩

set_option maxRecDepth 100000 in
set_option maxHeartbeats 1000000 in
theorem append_full_old (h : DiskP w F G d nb db pv xs addr L left s) {n k : Nat} (hi : Pd.Inv n s) (hd : s.down = false) (name data : ByteArray) (hns : name.size ≤ 9223372036854775807) (hds : data.size ≤ 4611686018427387904) (hnm : Pd.isName name = true)
    (hf : Pd.find s.names name = some k) (hcap : s.cap < s.used + data.size) :
    Calls Try.prog 13 #[.pointer (some ⟨d, 0, none⟩), .string name, .string data] w (DRet w F G d (s.append name data)) := by
  obtain ⟨h0, h1, h2, h3, h4, h5, h6⟩ := h.c1
  have hr : s.append name data = (33, s) := by unfold Pd.PD.append; rw [if_neg (by simp [hd]), if_neg (by simp [hnm]), hf]; dsimp only; rw [if_pos hcap]
  rw [hr]
  rw [hd] at h6
  have hlk := look_names h.hn hns
  rw [hf] at hlk
  have hlk' : (Instr.lookup 69 (.map (some nb)) (.string name) true).run Try.prog w = .ok (.tuple #[.pointer (some ⟨addr k, 0, none⟩), .bool true]) w := hlk
  have hcI : (s.cap : Int) < (s.used : Int) + (data.size : Int) := by omega
  have hlt := lt_of_some h.cell
  have hub := hi.used_le
  have hwr : IntKind.i64.wrap ((s.used : Int) + (data.size : Int)) = (s.used : Int) + (data.size : Int) := IntWalk.i64_in _ (by omega)
  have hu := (h.kept ((Fr.refl (fun _ => False) w).drew) (fun _ _ e => e) (fun _ _ e => e)).used hi
  have HU := Lib.hid hu
  have H := Lib.hid h
  clear h hr hd hlk hf hu
  go_enter Try.func13, Try.ntmps13
  go_wp2_with (first
    | (go_at_call 37; refine (ready_up h6).mono ?_; rintro e w' ⟨rfl, rfl⟩)
    | (go_at_call 38; refine (isName_any name _ hns).mono ?_; rintro e w' ⟨rfl, rfl⟩))
  go_region_with (go_at_call 39; refine HU.out.mono ?_; rintro e w1 ⟨rfl, hfr1⟩; have hfr := ((Fr.refl (fun _ => False) w).drew).trans hfr1 (fun _ e => .inl e); have k0 : w1.cell? ⟨d, 0, none⟩ = some (.int .i64 s.cap) := (hfr.cell (p := ⟨d, 0, none⟩) hlt (fun e => e)).trans h0)
  all_goals
    go_wp2
    go_ret
    exact ⟨rfl, H.out.to_new hfr⟩
set_option maxRecDepth 100000 in
set_option maxHeartbeats 2000000 in
theorem append_old (h : DiskP w F G d nb db pv xs addr L left s) {n k : Nat} (hi : Pd.Inv n s) (hd : s.down = false) (name data : ByteArray) (hns : name.size ≤ 9223372036854775807) (hds : data.size ≤ 4611686018427387904) (hnm : Pd.isName name = true)
    (hf : Pd.find s.names name = some k) (hcap : ¬ s.cap < s.used + data.size) :
    Calls Try.prog 13 #[.pointer (some ⟨d, 0, none⟩), .string name, .string data] w (DRet w F G d (s.append name data)) := by
  obtain ⟨h0, h1, h2, h3, h4, h5, h6⟩ := h.c1
  have hr : s.append name data = (Pd.outc s.tick.1, { s.tick.2 with files := s.files.modify k fun f => { f with data := f.data ++ data } }) := by unfold Pd.PD.append; rw [if_neg (by simp [hd]), if_neg (by simp [hnm]), hf]; dsimp only; rw [if_neg hcap]
  rw [hr]
  rw [hd] at h6
  have hlk := look_names h.hn hns
  rw [hf] at hlk
  have hlk' : (Instr.lookup 69 (.map (some nb)) (.string name) true).run Try.prog w = .ok (.tuple #[.pointer (some ⟨addr k, 0, none⟩), .bool true]) w := hlk
  have hcI : (s.used : Int) + (data.size : Int) ≤ (s.cap : Int) := by omega
  have hlt := lt_of_some h.cell
  have hub := hi.used_le
  have hwr : IntKind.i64.wrap ((s.used : Int) + (data.size : Int)) = (s.used : Int) + (data.size : Int) := IntWalk.i64_in _ (by omega)
  have hu := (h.kept ((Fr.refl (fun _ => False) w).drew) (fun _ _ e => e) (fun _ _ e => e)).used hi
  have HU := Lib.hid hu
  have hcc : (Pd.fileAt s.files k).data.size + data.size ≤ 9223372036854775807 := by have := (Pd.fileAt_ok hi k).2; omega
  have hL := h.Ln _ (Pd.find_mem hf)
  have H := Lib.hid h
  have t := Pd.tick_same s
  have HT := Lib.hid t
  clear h hr hd hlk hf hu t hi hcap
  go_enter Try.func13, Try.ntmps13
  go_wp2_with (first
    | (go_at_call 37; refine (ready_up h6).mono ?_; rintro e w' ⟨rfl, rfl⟩)
    | (go_at_call 38; refine (isName_any name _ hns).mono ?_; rintro e w' ⟨rfl, rfl⟩))
  go_region_with (go_at_call 39; refine HU.out.mono ?_; rintro e w1 ⟨rfl, hfr1⟩; have hfr := ((Fr.refl (fun _ => False) w).drew).trans hfr1 (fun _ e => .inl e); have k0 : w1.cell? ⟨d, 0, none⟩ = some (.int .i64 s.cap) := (hfr.cell (p := ⟨d, 0, none⟩) hlt (fun e => e)).trans h0)
  all_goals
    have hd1 := H.out.kept hfr (fun _ _ e => e) (fun _ _ e => e)
    have HD1 := Lib.hid hd1
    clear hd1 k0 hfr1 hwr h1 h2 h3 h4 h5 h6 hlk' hlt h0 HU
    go_wp2_with (first
      | (go_at_call 40; refine (fails_any HD1.out).mono ?_; rintro e w2 ⟨rfl, ⟨left2, hd2⟩, hf12, hs12⟩; have HD2 := Lib.hid hd2; obtain ⟨q0, q1, z0, z1⟩ := hd2.fileCells hL; rw [HT.out.2.1] at q0; clear hd2 hs12 q1 z1)
      | (go_at_call 43; refine (outcome_any _ _).mono ?_; rintro e w5 ⟨rfl, rfl⟩))
    go_ret
    have hf2 : Fr F w w2 := (hfr.mono (fun _ e => e.elim)).trans hf12 (fun i e => .inl (e ▸ HD1.out.Fd))
    exact ⟨rfl, old_close H.out hf2 HD2.out hL⟩

theorem append_any (h : DiskAt w F G d s) {n : Nat} (hi : Pd.Inv n s) (hn1 : n < 1000000) (name data : ByteArray) (hns : name.size ≤ 9223372036854775807) (hds : data.size ≤ 4611686018427387904) :
    Calls Try.prog 13 #[.pointer (some ⟨d, 0, none⟩), .string name, .string data] w (DRet w F G d (s.append name data)) := by
  obtain ⟨nb, db, pv, xs, addr, L, left, h⟩ := h
  cases hd : s.down with
  | true => exact append_down h hd name data
  | false =>
    cases hnm : Pd.isName name with
    | false => exact append_name h hd name data hns hnm
    | true =>
      cases hf : Pd.find s.names name with
      | none =>
        by_cases hl : 64 ≤ s.names.length
        · exact append_limit h hd name data hns hnm hf hl
        · by_cases hc : s.cap < s.used + data.size
          · exact append_full_new h hi hd name data hns hds hnm hf hl hc
          · exact append_new h hi hn1 hd name data hns hds hnm hf hl hc
      | some k =>
        by_cases hc : s.cap < s.used + data.size
        · exact append_full_old h hi hd name data hns hds hnm hf hc
        · exact append_old h hi hd name data hns hds hnm hf hc
theorem append_nil (name data : ByteArray) (w : World) : Calls Try.prog 13 #[.pointer none, .string name, .string data] w fun e w' => e = .returned (.int .i64 1) ∧ w = w' := by
  go_enter Try.func13, Try.ntmps13
  go_wp2_with (go_at_call 37; refine (ready_nil _).mono ?_; rintro e w' ⟨rfl, rfl⟩)
  go_ret
  exact ⟨rfl, rfl⟩
end
end Go.Proofs.Ytigcokgjikkohaa
