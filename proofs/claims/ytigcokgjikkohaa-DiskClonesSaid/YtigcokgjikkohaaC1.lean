/- The walks of maps.Clone, Sync, Remove, Rename, Publish. -/
import Derived.Test.YtigcokgjikkohaaA3
import Derived.Shelf.SlMaps.Clone
namespace Go.Proofs.Ytigcokgjikkohaa
open Go.RowKit Go.Maps
set_option linter.unusedVariables false
set_option linter.unusedSimpArgs false
section
variable {w w' : World} {F G : Nat → Prop} {d nb db : Nat} {pv : Value} {xs : List Value} {addr : Nat → Nat} {L : Nat → Prop} {left : Int} {s : Pd.PD}

set_option maxRecDepth 100000 in
set_option maxHeartbeats 1000000 in
theorem mapsClone_any {b n : Nat} {l : Pd.Names} (h : namesAt w b n addr l) :
    Calls Try.prog 44 #[.map (some b)] w fun e w' => e = .returned (.map (some w.heap.size)) ∧ namesAt w' w.heap.size n addr l ∧ Fr (fun _ => False) w w' ∧ w.heap.size < w'.heap.size := by
  obtain ⟨es, clock, hb, hfit, hs, hD⟩ := h
  have hq := fun w => run_eql_map_nil (P := Try.prog) w 69 _ _ (some b) Try.underlying69
  go_enter Try.func44, Try.ntmps44
  go_wp2
  rw [run_callFunc_extern Try.func61 (by kernel_rfl) (by kernel_rfl) (by kernel_rfl) (e := Extern.MapsClone.clone) (by kernel_rfl), run_maps_clone_sl w 69 hb]
  simp only [Result.andThen]
  rw [Oper.upon_value]
  go_wp2
  rw [run_typeAssert_map_sl _ 69 20 _ _ _ Try.underlying69]
  simp only [Result.andThen]
  rw [Oper.upon_value]
  go_wp2
  go_ret
  exact ⟨rfl, ⟨es, clock, heap_alloc_this _ _, hfit, hs, hD⟩, (Fr.refl _ _).alloc _, by simp⟩

set_option maxRecDepth 100000 in
set_option maxHeartbeats 1000000 in
theorem Sync_down (h : DiskP w F G d nb db pv xs addr L left s) (hd : s.down = true) (name : ByteArray) :
    Calls Try.prog 15 #[.pointer (some ⟨d, 0, none⟩), .string name] w (DRet w F G d (18, s)) := by
  obtain ⟨h0, h1, h2, h3, h4, h5, h6⟩ := h.c1
  rw [hd] at h6
  have H := Lib.hid h
  clear h hd
  go_enter Try.func15, Try.ntmps15
  go_wp2_with (go_at_call 37; refine (ready_down h6).mono ?_; rintro e w' ⟨rfl, rfl⟩)
  go_ret
  exact ⟨rfl, H.out.to_new (Fr.refl _ _)⟩
set_option maxRecDepth 100000 in
set_option maxHeartbeats 1000000 in
theorem Sync_none (h : DiskP w F G d nb db pv xs addr L left s) (hd : s.down = false) (name : ByteArray) (hns : name.size ≤ 9223372036854775807) (hf : Pd.find s.names name = none) :
    Calls Try.prog 15 #[.pointer (some ⟨d, 0, none⟩), .string name] w (DRet w F G d (10, s)) := by
  obtain ⟨h0, h1, h2, h3, h4, h5, h6⟩ := h.c1
  rw [hd] at h6
  have hlk := look_names h.hn hns
  rw [hf] at hlk
  have hlk' : (Instr.lookup 69 (.map (some nb)) (.string name) true).run Try.prog w = .ok (.tuple #[.pointer none, .bool false]) w := hlk
  have H := Lib.hid h
  clear h hd hlk hf
  go_enter Try.func15, Try.ntmps15
  go_wp2_with (go_at_call 37; refine (ready_up h6).mono ?_; rintro e w' ⟨rfl, rfl⟩)
  go_ret
  exact ⟨rfl, H.out.to_new (Fr.refl _ _)⟩
set_option maxHeartbeats 400000 in
theorem Sync_nil (name : ByteArray) (w : World) : Calls Try.prog 15 #[.pointer none, .string name] w fun e w' => e = .returned (.int .i64 1) ∧ w = w' := by
  go_enter Try.func15, Try.ntmps15
  go_wp2_with (go_at_call 37; refine (ready_nil _).mono ?_; rintro e w' ⟨rfl, rfl⟩)
  go_ret
  exact ⟨rfl, rfl⟩
set_option maxRecDepth 100000 in
set_option maxHeartbeats 1000000 in
theorem Remove_down (h : DiskP w F G d nb db pv xs addr L left s) (hd : s.down = true) (name : ByteArray) :
    Calls Try.prog 31 #[.pointer (some ⟨d, 0, none⟩), .string name] w (DRet w F G d (18, s)) := by
  obtain ⟨h0, h1, h2, h3, h4, h5, h6⟩ := h.c1
  rw [hd] at h6
  have H := Lib.hid h
  clear h hd
  go_enter Try.func31, Try.ntmps31
  go_wp2_with (go_at_call 37; refine (ready_down h6).mono ?_; rintro e w' ⟨rfl, rfl⟩)
  go_ret
  exact ⟨rfl, H.out.to_new (Fr.refl _ _)⟩
set_option maxRecDepth 100000 in
set_option maxHeartbeats 1000000 in
theorem Remove_none (h : DiskP w F G d nb db pv xs addr L left s) (hd : s.down = false) (name : ByteArray) (hns : name.size ≤ 9223372036854775807) (hf : Pd.find s.names name = none) :
    Calls Try.prog 31 #[.pointer (some ⟨d, 0, none⟩), .string name] w (DRet w F G d (10, s)) := by
  obtain ⟨h0, h1, h2, h3, h4, h5, h6⟩ := h.c1
  rw [hd] at h6
  have hlk := look_names h.hn hns
  rw [hf] at hlk
  have hlk' : (Instr.lookup 69 (.map (some nb)) (.string name) true).run Try.prog w = .ok (.tuple #[.pointer none, .bool false]) w := hlk
  have H := Lib.hid h
  clear h hd hlk hf
  go_enter Try.func31, Try.ntmps31
  go_wp2_with (go_at_call 37; refine (ready_up h6).mono ?_; rintro e w' ⟨rfl, rfl⟩)
  go_ret
  exact ⟨rfl, H.out.to_new (Fr.refl _ _)⟩
set_option maxHeartbeats 400000 in
theorem Remove_nil (name : ByteArray) (w : World) : Calls Try.prog 31 #[.pointer none, .string name] w fun e w' => e = .returned (.int .i64 1) ∧ w = w' := by
  go_enter Try.func31, Try.ntmps31
  go_wp2_with (go_at_call 37; refine (ready_nil _).mono ?_; rintro e w' ⟨rfl, rfl⟩)
  go_ret
  exact ⟨rfl, rfl⟩
set_option maxRecDepth 100000 in
set_option maxHeartbeats 1000000 in
theorem Rename_down (h : DiskP w F G d nb db pv xs addr L left s) (hd : s.down = true) (name dst : ByteArray) :
    Calls Try.prog 23 #[.pointer (some ⟨d, 0, none⟩), .string name, .string dst] w (DRet w F G d (18, s)) := by
  obtain ⟨h0, h1, h2, h3, h4, h5, h6⟩ := h.c1
  rw [hd] at h6
  have H := Lib.hid h
  clear h hd
  go_enter Try.func23, Try.ntmps23
  go_wp2_with (go_at_call 37; refine (ready_down h6).mono ?_; rintro e w' ⟨rfl, rfl⟩)
  go_ret
  exact ⟨rfl, H.out.to_new (Fr.refl _ _)⟩
set_option maxRecDepth 100000 in
set_option maxHeartbeats 1000000 in
theorem Rename_none (h : DiskP w F G d nb db pv xs addr L left s) (hd : s.down = false) (name dst : ByteArray) (hns : name.size ≤ 9223372036854775807) (hf : Pd.find s.names name = none) :
    Calls Try.prog 23 #[.pointer (some ⟨d, 0, none⟩), .string name, .string dst] w (DRet w F G d (10, s)) := by
  obtain ⟨h0, h1, h2, h3, h4, h5, h6⟩ := h.c1
  rw [hd] at h6
  have hlk := look_names h.hn hns
  rw [hf] at hlk
  have hlk' : (Instr.lookup 69 (.map (some nb)) (.string name) true).run Try.prog w = .ok (.tuple #[.pointer none, .bool false]) w := hlk
  have H := Lib.hid h
  clear h hd hlk hf
  go_enter Try.func23, Try.ntmps23
  go_wp2_with (go_at_call 37; refine (ready_up h6).mono ?_; rintro e w' ⟨rfl, rfl⟩)
  go_ret
  exact ⟨rfl, H.out.to_new (Fr.refl _ _)⟩
set_option maxHeartbeats 400000 in
theorem Rename_nil (name dst : ByteArray) (w : World) : Calls Try.prog 23 #[.pointer none, .string name, .string dst] w fun e w' => e = .returned (.int .i64 1) ∧ w = w' := by
  go_enter Try.func23, Try.ntmps23
  go_wp2_with (go_at_call 37; refine (ready_nil _).mono ?_; rintro e w' ⟨rfl, rfl⟩)
  go_ret
  exact ⟨rfl, rfl⟩

theorem fr_d (h : DiskP w F G d nb db pv xs addr L left s) (hf : Fr (fun i => i = d) w w') : Fr F w w' := hf.mono (fun i e => .inl (e ▸ h.Fd))

set_option maxRecDepth 100000 in
set_option maxHeartbeats 1000000 in
theorem Sync_fail (h : DiskP w F G d nb db pv xs addr L left s) {k : Nat} (hd : s.down = false) (name : ByteArray) (hns : name.size ≤ 9223372036854775807) (hf : Pd.find s.names name = some k) (ht : s.tick.1 = true) :
    Calls Try.prog 15 #[.pointer (some ⟨d, 0, none⟩), .string name] w (DRet w F G d (32, s.tick.2)) := by
  obtain ⟨h0, h1, h2, h3, h4, h5, h6⟩ := h.c1
  rw [hd] at h6
  have hlk := look_names h.hn hns
  rw [hf] at hlk
  have hlk' : (Instr.lookup 69 (.map (some nb)) (.string name) true).run Try.prog w = .ok (.tuple #[.pointer (some ⟨addr k, 0, none⟩), .bool true]) w := hlk
  have H := Lib.hid h
  clear h hd hlk hf
  go_enter Try.func15, Try.ntmps15
  go_wp2_with (first
    | (go_at_call 37; refine (ready_up h6).mono ?_; rintro e w' ⟨rfl, rfl⟩)
    | (go_at_call 40; refine (fails_any H.out).mono ?_; rintro e w2 ⟨rfl, ⟨left2, hd2⟩, hf12, hs12⟩; have HD2 := Lib.hid hd2; clear hd2 hs12)
    | (go_at_call 43; refine (outcome_any _ _).mono ?_; rintro e w5 ⟨rfl, rfl⟩))
  go_ret
  exact ⟨rfl, F, G, HD2.out.at, fun _ h => .inl h, fun _ h => .inl h, fr_d H.out hf12⟩
theorem sync_close {left' : Int} {k : Nat} (h : DiskP w F G d nb db pv xs addr L left s) {w2 : World} (hf02 : Fr F w w2) (h2 : DiskP w2 F G d nb db pv xs addr L left' s.tick.2) (hk : L k) :
    DiskTo w F G d { s.tick.2 with files := s.files.modify k fun f => { f with dur := f.data.size } } (w2.setCell ⟨addr k, 1, none⟩ (.int .i64 (Pd.fileAt s.files k).data.size)) := by
  obtain ⟨_, t2, _⟩ := Pd.tick_same s
  have hfile := h2.file k hk
  have h5 := h2.refile hk (fun f => { f with dur := f.data.size }) (w' := w2.setCell ⟨addr k, 1, none⟩ (.int .i64 (Pd.fileAt s.files k).data.size)) (setD_fr _ _ _ _) (by
    rw [heap_set_same hfile, t2]
    simp [fileObj])
  rw [t2] at h5
  exact ⟨F, G, h5.at, fun _ h => .inl h, fun _ h => .inl h, hf02.setCell _ _ (.inl (h.Ff k hk))⟩
set_option maxRecDepth 100000 in
set_option maxHeartbeats 1000000 in
theorem Sync_done (h : DiskP w F G d nb db pv xs addr L left s) {k : Nat} (hd : s.down = false) (name : ByteArray) (hns : name.size ≤ 9223372036854775807) (hf : Pd.find s.names name = some k) (ht : s.tick.1 = false) :
    Calls Try.prog 15 #[.pointer (some ⟨d, 0, none⟩), .string name] w (DRet w F G d (0, { s.tick.2 with files := s.files.modify k fun f => { f with dur := f.data.size } })) := by
  obtain ⟨h0, h1, h2, h3, h4, h5, h6⟩ := h.c1
  rw [hd] at h6
  have hlk := look_names h.hn hns
  rw [hf] at hlk
  have hlk' : (Instr.lookup 69 (.map (some nb)) (.string name) true).run Try.prog w = .ok (.tuple #[.pointer (some ⟨addr k, 0, none⟩), .bool true]) w := hlk
  have hL := h.Ln _ (Pd.find_mem hf)
  have t := Pd.tick_same s
  have HT := Lib.hid t
  have H := Lib.hid h
  clear h hd hlk hf t
  go_enter Try.func15, Try.ntmps15
  go_wp2_with (first
    | (go_at_call 37; refine (ready_up h6).mono ?_; rintro e w' ⟨rfl, rfl⟩)
    | (go_at_call 40; refine (fails_any H.out).mono ?_; rintro e w2 ⟨rfl, ⟨left2, hd2⟩, hf12, hs12⟩; have HD2 := Lib.hid hd2; obtain ⟨q0, q1, z0, z1⟩ := hd2.fileCells hL; rw [HT.out.2.1] at q0 q1; clear hd2 hs12)
    | (go_at_call 43; refine (outcome_any _ _).mono ?_; rintro e w5 ⟨rfl, rfl⟩))
  go_ret
  exact ⟨rfl, sync_close H.out (fr_d H.out hf12) HD2.out hL⟩

theorem sync_any (h : DiskAt w F G d s) (name : ByteArray) (hns : name.size ≤ 9223372036854775807) :
    Calls Try.prog 15 #[.pointer (some ⟨d, 0, none⟩), .string name] w (DRet w F G d (s.sync name)) := by
  obtain ⟨nb, db, pv, xs, addr, L, left, h⟩ := h
  unfold Pd.PD.sync
  cases hd : s.down with
  | true => exact Sync_down h hd name
  | false =>
    cases hf : Pd.find s.names name with
    | none => exact Sync_none h hd name hns hf
    | some k =>
      cases ht : s.tick.1 with
      | true => exact Sync_fail h hd name hns hf ht
      | false => exact Sync_done h hd name hns hf ht

/-- What is left behind an operation on names. -/
theorem change_close {left2 : Int} {w2 w3 w4 : World} {G3 F4 : Nat → Prop} {pv4 : Value} {xs4 : List Value} {s4 : Pd.PD} (h : DiskP w F G d nb db pv xs addr L left s) (hf12 : Fr (fun i => i = d) w w2) (hG3 : ∀ i, G3 i → G i ∨ w2.heap.size ≤ i) (hf23 : Fr (fun _ => False) w2 w3)
    (hd4 : DiskP w4 F4 G3 d nb db pv4 xs4 addr L left2 s4) (hF4 : ∀ i, F4 i → F i ∨ w3.heap.size ≤ i) (hf34 : Fr F w3 w4) : DiskTo w F G d s4 w4 := by
  have h1 := hf12.size
  have h2 := hf23.size
  refine ⟨F4, G3, hd4.at, ?_, ?_, ?_⟩
  · intro b hb; rcases hF4 b hb with h | h
    · exact .inl h
    · exact .inr (by omega)
  · intro b hb; rcases hG3 b hb with h | h
    · exact .inl h
    · exact .inr (by omega)
  · exact ((fr_d h hf12).trans hf23 (fun _ e => e.elim)).trans hf34 (fun _ e => .inl e)

set_option maxRecDepth 100000 in
set_option maxHeartbeats 1000000 in
theorem Remove_done (h : DiskP w F G d nb db pv xs addr L left s) {n k : Nat} (hi : Pd.Inv n s) (hn1 : n < 1000000) (hd : s.down = false) (name : ByteArray) (hns : name.size ≤ 9223372036854775807) (hf : Pd.find s.names name = some k) :
    Calls Try.prog 31 #[.pointer (some ⟨d, 0, none⟩), .string name] w (DRet w F G d (Pd.outc s.tick.1, s.tick.2.apply (.rem name))) := by
  obtain ⟨h0, h1, h2, h3, h4, h5, h6⟩ := h.c1
  rw [hd] at h6
  have hlk := look_names h.hn hns
  rw [hf] at hlk
  have hlk' : (Instr.lookup 69 (.map (some nb)) (.string name) true).run Try.prog w = .ok (.tuple #[.pointer (some ⟨addr k, 0, none⟩), .bool true]) w := hlk
  have t := Pd.tick_same s
  have HT := Lib.hid t
  have HF := Lib.hid hf
  have H := Lib.hid h
  have hpe := hi.pen
  have hle := hi.rep.len'
  clear h hd hlk hf t hi
  go_enter Try.func31, Try.ntmps31
  go_wp2_with (first
    | (go_at_call 37; refine (ready_up h6).mono ?_; rintro e w' ⟨rfl, rfl⟩)
    | (go_at_call 38; refine (isName_any _ _ (by assumption)).mono ?_; rintro e w' ⟨rfl, rfl⟩)
    | (go_at_call 40; refine (fails_any H.out).mono ?_; rintro e w2 ⟨rfl, ⟨left2, hd2⟩, hf12, hs12⟩; have HD2 := Lib.hid hd2; clear hd2 hs12)
    | (go_at_call 57; refine (remove_any addr name _).mono ?_; rintro e w3 hm; obtain ⟨a, b, G3, rfl, hch, hd3, hG3, hf23⟩ := made_disk HD2.out hm; have HD3 := Lib.hid hd3; have HCH := Lib.hid hch; clear hm hd3 hch)
    | (go_at_call 41; refine (change_any HD3.out HCH.out (c := .rem name) hns (by rw [HT.out.2.2.2.2]; omega) (by rw [HT.out.2.2.1]; omega)).mono ?_; rintro e w4 ⟨rfl, pv4, F4, xs4, hd4, hF4, hF4', hf34⟩; have HD4 := Lib.hid hd4; clear hd4)
    | (go_at_call 43; refine (outcome_any _ _).mono ?_; rintro e w5 ⟨rfl, rfl⟩))
  go_ret
  exact ⟨rfl, change_close H.out hf12 hG3 hf23 HD4.out hF4 hf34⟩
set_option maxRecDepth 100000 in
set_option maxHeartbeats 1000000 in
theorem Rename_done (h : DiskP w F G d nb db pv xs addr L left s) {n k : Nat} (hi : Pd.Inv n s) (hn1 : n < 1000000) (hd : s.down = false) (name dst : ByteArray) (hns : name.size ≤ 9223372036854775807) (hdz : dst.size ≤ 9223372036854775807) (hdn : Pd.isName dst = true) (hf : Pd.find s.names name = some k) :
    Calls Try.prog 23 #[.pointer (some ⟨d, 0, none⟩), .string name, .string dst] w (DRet w F G d (Pd.outc s.tick.1, s.tick.2.apply (.ren name dst k))) := by
  obtain ⟨h0, h1, h2, h3, h4, h5, h6⟩ := h.c1
  rw [hd] at h6
  have hlk := look_names h.hn hns
  rw [hf] at hlk
  have hlk' : (Instr.lookup 69 (.map (some nb)) (.string name) true).run Try.prog w = .ok (.tuple #[.pointer (some ⟨addr k, 0, none⟩), .bool true]) w := hlk
  have t := Pd.tick_same s
  have HT := Lib.hid t
  have HF := Lib.hid hf
  have H := Lib.hid h
  have hpe := hi.pen
  have hle := hi.rep.len'
  clear h hd hlk hf t hi
  go_enter Try.func23, Try.ntmps23
  go_wp2_with (first
    | (go_at_call 37; refine (ready_up h6).mono ?_; rintro e w' ⟨rfl, rfl⟩)
    | (go_at_call 38; refine (isName_any _ _ (by assumption)).mono ?_; rintro e w' ⟨rfl, rfl⟩)
    | (go_at_call 40; refine (fails_any H.out).mono ?_; rintro e w2 ⟨rfl, ⟨left2, hd2⟩, hf12, hs12⟩; have HD2 := Lib.hid hd2; clear hd2 hs12)
    | (go_at_call 49; refine (rename_any addr name dst k _).mono ?_; rintro e w3 hm; obtain ⟨a, b, G3, rfl, hch, hd3, hG3, hf23⟩ := made_disk HD2.out hm; have HD3 := Lib.hid hd3; have HCH := Lib.hid hch; clear hm hd3 hch)
    | (go_at_call 41; refine (change_any HD3.out HCH.out (c := .ren name dst k) ⟨hns, by have := Pd.isName_size hdn; omega, by rw [HT.out.2.2.1]; exact HF.out⟩ (by rw [HT.out.2.2.2.2]; omega) (by rw [HT.out.2.2.1]; omega)).mono ?_; rintro e w4 ⟨rfl, pv4, F4, xs4, hd4, hF4, hF4', hf34⟩; have HD4 := Lib.hid hd4; clear hd4)
    | (go_at_call 43; refine (outcome_any _ _).mono ?_; rintro e w5 ⟨rfl, rfl⟩))
  go_ret
  exact ⟨rfl, change_close H.out hf12 hG3 hf23 HD4.out hF4 hf34⟩
set_option maxRecDepth 100000 in
set_option maxHeartbeats 1000000 in
theorem Rename_name (h : DiskP w F G d nb db pv xs addr L left s) {k : Nat} (hd : s.down = false) (name dst : ByteArray) (hns : name.size ≤ 9223372036854775807) (hdz : dst.size ≤ 9223372036854775807) (hdn : Pd.isName dst = false) (hf : Pd.find s.names name = some k) :
    Calls Try.prog 23 #[.pointer (some ⟨d, 0, none⟩), .string name, .string dst] w (DRet w F G d (11, s)) := by
  obtain ⟨h0, h1, h2, h3, h4, h5, h6⟩ := h.c1
  rw [hd] at h6
  have hlk := look_names h.hn hns
  rw [hf] at hlk
  have hlk' : (Instr.lookup 69 (.map (some nb)) (.string name) true).run Try.prog w = .ok (.tuple #[.pointer (some ⟨addr k, 0, none⟩), .bool true]) w := hlk
  have H := Lib.hid h
  clear h hd hlk hf
  go_enter Try.func23, Try.ntmps23
  go_wp2_with (first
    | (go_at_call 37; refine (ready_up h6).mono ?_; rintro e w' ⟨rfl, rfl⟩)
    | (go_at_call 38; refine (isName_any _ _ (by assumption)).mono ?_; rintro e w' ⟨rfl, rfl⟩))
  go_ret
  exact ⟨rfl, H.out.to_new (Fr.refl _ _)⟩
theorem remove_any' (h : DiskAt w F G d s) {n : Nat} (hi : Pd.Inv n s) (hn1 : n < 1000000) (name : ByteArray) (hns : name.size ≤ 9223372036854775807) :
    Calls Try.prog 31 #[.pointer (some ⟨d, 0, none⟩), .string name] w (DRet w F G d (s.remove name)) := by
  obtain ⟨nb, db, pv, xs, addr, L, left, h⟩ := h
  unfold Pd.PD.remove
  cases hd : s.down with
  | true => exact Remove_down h hd name
  | false =>
    cases hf : Pd.find s.names name with
    | none => exact Remove_none h hd name hns hf
    | some k => exact Remove_done h hi hn1 hd name hns hf
theorem rename_any' (h : DiskAt w F G d s) {n : Nat} (hi : Pd.Inv n s) (hn1 : n < 1000000) (name dst : ByteArray) (hns : name.size ≤ 9223372036854775807) (hdz : dst.size ≤ 9223372036854775807) :
    Calls Try.prog 23 #[.pointer (some ⟨d, 0, none⟩), .string name, .string dst] w (DRet w F G d (s.rename name dst)) := by
  obtain ⟨nb, db, pv, xs, addr, L, left, h⟩ := h
  unfold Pd.PD.rename
  cases hd : s.down with
  | true => exact Rename_down h hd name dst
  | false =>
    cases hf : Pd.find s.names name with
    | none => exact Rename_none h hd name dst hns hf
    | some k =>
      cases hn : Pd.isName dst with
      | false => exact Rename_name h hd name dst hns hdz hn hf
      | true => exact Rename_done h hi hn1 hd name dst hns hdz hn hf
end
end Go.Proofs.Ytigcokgjikkohaa
