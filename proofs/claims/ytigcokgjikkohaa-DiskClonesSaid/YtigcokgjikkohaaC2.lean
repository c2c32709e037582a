/- The walks of Publish, Read, Size, Free, Limit, Crash, Down, New. -/
import Derived.Test.YtigcokgjikkohaaC1
namespace Go.Proofs.Ytigcokgjikkohaa
open Go.RowKit Go.Maps
set_option linter.unusedVariables false
set_option linter.unusedSimpArgs false
section
variable {w w' : World} {F G : Nat → Prop} {d nb db : Nat} {pv : Value} {xs : List Value} {addr : Nat → Nat} {L : Nat → Prop} {left : Int} {s : Pd.PD}

/-- The names have become durable: a new block holds them. -/
theorem DiskP.publish (h : DiskP w F G d nb db pv xs addr L left s) {nd : Nat} {s' : Pd.PD} {left' : Int} (hf : Fr (fun i => i = d) w w') (hnd : nd < w'.heap.size) (hndn : nd ≠ nb) (hndF : ¬ G nd) (hndv : ∀ k, L k → nd ≠ addr k)
    (hm : namesAt w' nd s.names.length addr s.names) (hcell : w'.heap[d]? = some (diskObj s' nb nd (.slice none 0 0) left'))
    (h1 : s'.names = s.names) (h2 : s'.durable = s.names) (h3 : s'.pending = []) (h4 : s'.files = s.files) (hl : ∀ n, s'.limit = some n → left' = n) (hw : -9223372036854775808 ≤ left' ∧ left' ≤ 9223372036854775807) :
    DiskP w' (fun i => F i ∨ i = nd) G d nb nd (.slice none 0 0) [] addr L left' s' :=
  { cell := hcell
    left_ok := hl
    left_wf := hw
    hn := by rw [h1]; exact ownsMap_fr h.hn hf h.nb_d
    hd := by rw [h2]; exact hm
    row := by rw [h3]; exact World.ownsRow_nil _ _ _ _
    pen := by rw [h3]; trivial
    file := fun k hk => by rw [h4]; exact (hf.block _ (lt_of_some (h.file k hk)) (fun e => h.d_f hk e.symm)).trans (h.file k hk)
    inj := h.inj
    Ln := by rw [h1]; exact h.Ln
    Ld := by rw [h2]; exact h.Ln
    Lp := by rw [h3]; intro n f hm; cases hm
    Ls := by rw [h4]; exact h.Ls
    Fd := .inl h.Fd
    Fn := .inl h.Fn
    Fb := .inr rfl
    Fv := fun b hb => by cases hb
    Ff := fun k hk => .inl (h.Ff k hk)
    Flt := by
      rintro b (hb | rfl)
      · exact Nat.lt_of_lt_of_le (h.Flt b hb) hf.size
      · exact hnd
    Glt := fun b hb => Nat.lt_of_lt_of_le (h.Glt b hb) hf.size
    FG := by
      rintro b (hb | rfl) hg
      · exact h.FG b hb hg
      · exact hndF hg
    ne_nd := hndn.symm
    ne_v := by intro e; cases e
    ne_vf := by intro k hk e; cases e }

set_option maxRecDepth 100000 in
set_option maxHeartbeats 1000000 in
theorem Publish_down (h : DiskP w F G d nb db pv xs addr L left s) (hd : s.down = true) : Calls Try.prog 14 #[.pointer (some ⟨d, 0, none⟩)] w (DRet w F G d (18, s)) := by
  obtain ⟨h0, h1, h2, h3, h4, h5, h6⟩ := h.c1
  rw [hd] at h6
  have H := Lib.hid h
  clear h hd
  go_enter Try.func14, Try.ntmps14
  go_wp2_with (go_at_call 37; refine (ready_down h6).mono ?_; rintro e w' ⟨rfl, rfl⟩)
  go_ret
  exact ⟨rfl, H.out.to_new (Fr.refl _ _)⟩
set_option maxHeartbeats 400000 in
theorem Publish_nil (w : World) : Calls Try.prog 14 #[.pointer none] w fun e w' => e = .returned (.int .i64 1) ∧ w = w' := by
  go_enter Try.func14, Try.ntmps14
  go_wp2_with (go_at_call 37; refine (ready_nil _).mono ?_; rintro e w' ⟨rfl, rfl⟩)
  go_ret
  exact ⟨rfl, rfl⟩
set_option maxRecDepth 100000 in
set_option maxHeartbeats 1000000 in
theorem Publish_fail (h : DiskP w F G d nb db pv xs addr L left s) (hd : s.down = false) (ht : s.tick.1 = true) :
    Calls Try.prog 14 #[.pointer (some ⟨d, 0, none⟩)] w (DRet w F G d (32, s.tick.2)) := by
  obtain ⟨h0, h1, h2, h3, h4, h5, h6⟩ := h.c1
  rw [hd] at h6
  have H := Lib.hid h
  clear h hd
  go_enter Try.func14, Try.ntmps14
  go_wp2_with (first
    | (go_at_call 37; refine (ready_up h6).mono ?_; rintro e w' ⟨rfl, rfl⟩)
    | (go_at_call 40; refine (fails_any H.out).mono ?_; rintro e w2 ⟨rfl, ⟨left2, hd2⟩, hf12, hs12⟩; have HD2 := Lib.hid hd2; clear hd2 hs12)
    | (go_at_call 43; refine (outcome_any _ _).mono ?_; rintro e w5 ⟨rfl, rfl⟩))
  go_ret
  exact ⟨rfl, F, G, HD2.out.at, fun _ h => .inl h, fun _ h => .inl h, fr_d H.out hf12⟩
theorem publish_close {left2 : Int} {w2 w3 : World} (h : DiskP w F G d nb db pv xs addr L left s) (hf12 : Fr (fun i => i = d) w w2) (h2 : DiskP w2 F G d nb db pv xs addr L left2 s.tick.2) (hm : namesAt w3 w2.heap.size s.tick.2.names.length addr s.tick.2.names) (hf23 : Fr (fun _ => False) w2 w3) (hlt : w2.heap.size < w3.heap.size) :
    DiskTo w F G d { s.tick.2 with durable := s.names, pending := [] } ((w3.setCell ⟨d, 2, none⟩ (.map (some w2.heap.size))).setCell ⟨d, 3, none⟩ (.slice none 0 0)) := by
  obtain ⟨_, t2, t3, t4, t5⟩ := Pd.tick_same s
  have h3 := h2.kept hf23 (fun _ _ e => e) (fun _ _ e => e)
  have hf34 : Fr (fun i => i = d) w3 ((w3.setCell ⟨d, 2, none⟩ (.map (some w2.heap.size))).setCell ⟨d, 3, none⟩ (.slice none 0 0)) := ((Fr.refl (fun i => i = d) _).setCell ⟨d, 2, none⟩ _ (.inl rfl)).setCell ⟨d, 3, none⟩ _ (.inl rfl)
  have hnF : ¬ F w2.heap.size := fun e => by have := h2.Flt _ e; omega
  have hn1 : w2.heap.size ≠ nb := fun e => hnF (e ▸ h2.Fn)
  have hnd : w2.heap.size ≠ d := fun e => hnF (e ▸ h2.Fd)
  have hnG : ¬ G w2.heap.size := fun e => by have := h2.Glt _ e; omega
  have hm' := ownsMap_fr hm hf34 hnd
  have hcell := heap_set_same (i := 3) (v := .slice none 0 0) (heap_set_same (i := 2) (v := .map (some w2.heap.size)) h3.cell)
  have h5 := h3.publish (nd := w2.heap.size) (s' := { s.tick.2 with durable := s.names, pending := [] }) (left' := left2) hf34 (by simpa using hlt) hn1 hnG (fun k hk e => hnF (by rw [e]; exact h2.Ff k hk)) hm' (by rw [hcell]; simp [diskObj]) rfl t3.symm rfl rfl h2.left_ok h2.left_wf
  have hs1 := hf12.size
  refine ⟨_, G, h5.at, ?_, fun _ h => .inl h, ((fr_d h hf12).trans hf23 (fun _ e => e.elim)).trans hf34 (fun i e => .inl (e ▸ h.Fd))⟩
  rintro b (hb | rfl)
  · exact .inl hb
  · exact .inr hs1
set_option maxRecDepth 100000 in
set_option maxHeartbeats 1000000 in
theorem Publish_done (h : DiskP w F G d nb db pv xs addr L left s) (hd : s.down = false) (ht : s.tick.1 = false) :
    Calls Try.prog 14 #[.pointer (some ⟨d, 0, none⟩)] w (DRet w F G d (0, { s.tick.2 with durable := s.names, pending := [] })) := by
  obtain ⟨h0, h1, h2, h3, h4, h5, h6⟩ := h.c1
  rw [hd] at h6
  have hlt := lt_of_some h.cell
  have H := Lib.hid h
  clear h hd h1 h2 h3 h4 h5 h0
  go_enter Try.func14, Try.ntmps14
  go_wp2_with (first
    | (go_at_call 37; refine (ready_up h6).mono ?_; rintro e w' ⟨rfl, rfl⟩)
    | (go_at_call 40; refine (fails_any H.out).mono ?_; rintro e w2 ⟨rfl, ⟨left2, hd2⟩, hf12, hs12⟩; have HD2 := Lib.hid hd2; obtain ⟨b0, b1, b2, b3, b4, b5, b6⟩ := hd2.c1; have z2 := free_at hd2.cell 2; have z3 := free_at hd2.cell 3; have hl2 := lt_of_some hd2.cell; have hn2 := hd2.hn; clear hd2 hs12)
    | (go_at_call 44; refine (mapsClone_any hn2).mono ?_; rintro e w3 ⟨rfl, hm3, hf23, hlt3⟩; have q2 : w3.cell? ⟨d, 2, none⟩ = some (.map (some db)) := (hf23.cell (p := ⟨d, 2, none⟩) hl2 (fun e => e)).trans b2; have q3 : w3.cell? ⟨d, 3, none⟩ = some pv := (hf23.cell (p := ⟨d, 3, none⟩) hl2 (fun e => e)).trans b3; have y2 : w3.frozen? ⟨d, 2, none⟩ = false := (World.frozen?_of_block (hf23.block d hl2 (fun e => e))).trans z2; have y3 : w3.frozen? ⟨d, 3, none⟩ = false := (World.frozen?_of_block (hf23.block d hl2 (fun e => e))).trans z3)
    | (go_at_call 43; refine (outcome_any _ _).mono ?_; rintro e w5 ⟨rfl, rfl⟩))
  go_ret
  exact ⟨rfl, publish_close H.out hf12 HD2.out hm3 hf23 hlt3⟩
theorem publish_any (h : DiskAt w F G d s) : Calls Try.prog 14 #[.pointer (some ⟨d, 0, none⟩)] w (DRet w F G d s.publish) := by
  obtain ⟨nb, db, pv, xs, addr, L, left, h⟩ := h
  unfold Pd.PD.publish
  cases hd : s.down with
  | true => exact Publish_down h hd
  | false =>
    cases ht : s.tick.1 with
    | true => exact Publish_fail h hd ht
    | false => exact Publish_done h hd ht

/-! ### reading -/
set_option maxHeartbeats 400000 in
theorem read_nil (name : ByteArray) (w : World) : Calls Try.prog 18 #[.pointer none, .string name] w fun e w' => e = .returned (.tuple #[.string ⟨#[]⟩, .int .i64 1]) ∧ w = w' := by
  go_enter Try.func18, Try.ntmps18
  go_wp2_with (go_at_call 37; refine (ready_nil _).mono ?_; rintro e w' ⟨rfl, rfl⟩)
  go_ret2
  exact ⟨rfl, rfl⟩
set_option maxHeartbeats 400000 in
theorem read_down (h : DiskP w F G d nb db pv xs addr L left s) (hd : s.down = true) (name : ByteArray) : Calls Try.prog 18 #[.pointer (some ⟨d, 0, none⟩), .string name] w fun e w' => e = .returned (.tuple #[.string ⟨#[]⟩, .int .i64 18]) ∧ w = w' := by
  obtain ⟨h0, h1, h2, h3, h4, h5, h6⟩ := h.c1
  rw [hd] at h6
  clear h hd
  go_enter Try.func18, Try.ntmps18
  go_wp2_with (go_at_call 37; refine (ready_down h6).mono ?_; rintro e w' ⟨rfl, rfl⟩)
  go_ret2
  exact ⟨rfl, rfl⟩
set_option maxRecDepth 100000 in
set_option maxHeartbeats 400000 in
theorem read_none (h : DiskP w F G d nb db pv xs addr L left s) (hd : s.down = false) (name : ByteArray) (hns : name.size ≤ 9223372036854775807) (hf : Pd.find s.names name = none) : Calls Try.prog 18 #[.pointer (some ⟨d, 0, none⟩), .string name] w fun e w' => e = .returned (.tuple #[.string ⟨#[]⟩, .int .i64 10]) ∧ w = w' := by
  obtain ⟨h0, h1, h2, h3, h4, h5, h6⟩ := h.c1
  rw [hd] at h6
  have hlk := look_names h.hn hns
  rw [hf] at hlk
  have hlk' : (Instr.lookup 69 (.map (some nb)) (.string name) true).run Try.prog w = .ok (.tuple #[.pointer none, .bool false]) w := hlk
  clear h hd hlk hf
  go_enter Try.func18, Try.ntmps18
  go_wp2_with (go_at_call 37; refine (ready_up h6).mono ?_; rintro e w' ⟨rfl, rfl⟩)
  go_ret2
  exact ⟨rfl, rfl⟩
set_option maxRecDepth 100000 in
set_option maxHeartbeats 400000 in
theorem read_some (h : DiskP w F G d nb db pv xs addr L left s) {k : Nat} (hd : s.down = false) (name : ByteArray) (hns : name.size ≤ 9223372036854775807) (hf : Pd.find s.names name = some k) : Calls Try.prog 18 #[.pointer (some ⟨d, 0, none⟩), .string name] w fun e w' => e = .returned (.tuple #[.string (Pd.fileAt s.files k).data, .int .i64 0]) ∧ w = w' := by
  obtain ⟨h0, h1, h2, h3, h4, h5, h6⟩ := h.c1
  rw [hd] at h6
  have hlk := look_names h.hn hns
  rw [hf] at hlk
  have hlk' : (Instr.lookup 69 (.map (some nb)) (.string name) true).run Try.prog w = .ok (.tuple #[.pointer (some ⟨addr k, 0, none⟩), .bool true]) w := hlk
  obtain ⟨q0, q1, z0, z1⟩ := h.fileCells (h.Ln _ (Pd.find_mem hf))
  clear h hd hlk hf
  go_enter Try.func18, Try.ntmps18
  go_wp2_with (go_at_call 37; refine (ready_up h6).mono ?_; rintro e w' ⟨rfl, rfl⟩)
  go_ret2
  exact ⟨rfl, rfl⟩
theorem read_any (h : DiskAt w F G d s) (name : ByteArray) (hns : name.size ≤ 9223372036854775807) :
    Calls Try.prog 18 #[.pointer (some ⟨d, 0, none⟩), .string name] w fun e w' => e = .returned (.tuple #[.string (s.read name).1, .int .i64 (s.read name).2]) ∧ w = w' := by
  obtain ⟨nb, db, pv, xs, addr, L, left, h⟩ := h
  unfold Pd.PD.read
  cases hd : s.down with
  | true => exact read_down h hd name
  | false =>
    cases hf : Pd.find s.names name with
    | none => exact read_none h hd name hns hf
    | some k => exact read_some h hd name hns hf
set_option maxHeartbeats 400000 in
theorem size_any (h : DiskAt w F G d s) (name : ByteArray) (hns : name.size ≤ 9223372036854775807) :
    Calls Try.prog 33 #[.pointer (some ⟨d, 0, none⟩), .string name] w fun e w' => e = .returned (.tuple #[.int .i64 (s.read name).1.size, .int .i64 (s.read name).2]) ∧ w = w' := by
  have hr := read_any h name hns
  have HR := Lib.hid hr
  clear hr h
  go_enter Try.func33, Try.ntmps33
  go_wp2_with (go_at_call 18; refine HR.out.mono ?_; rintro e w' ⟨rfl, rfl⟩)
  go_ret2
  exact ⟨rfl, rfl⟩
set_option maxHeartbeats 400000 in
theorem size_nil (name : ByteArray) (w : World) : Calls Try.prog 33 #[.pointer none, .string name] w fun e w' => e = .returned (.tuple #[.int .i64 0, .int .i64 1]) ∧ w = w' := by
  have HR := Lib.hid (read_nil name w)
  go_enter Try.func33, Try.ntmps33
  go_wp2_with (go_at_call 18; refine HR.out.mono ?_; rintro e w' ⟨rfl, rfl⟩)
  go_ret2
  exact ⟨rfl, rfl⟩

/-! ### the rest -/
set_option maxHeartbeats 400000 in
theorem down_nil (w : World) : Calls Try.prog 21 #[.pointer none] w fun e w' => e = .returned (.bool false) ∧ w = w' := by
  go_enter Try.func21, Try.ntmps21
  go_wp2
  go_ret
  exact ⟨rfl, rfl⟩
set_option maxHeartbeats 400000 in
theorem down_any (h : DiskAt w F G d s) : Calls Try.prog 21 #[.pointer (some ⟨d, 0, none⟩)] w fun e w' => e = .returned (.bool s.down) ∧ w = w' := by
  obtain ⟨nb, db, pv, xs, addr, L, left, h⟩ := h
  obtain ⟨h0, h1, h2, h3, h4, h5, h6⟩ := h.c1
  clear h h0 h1 h2 h3 h4 h5
  go_enter Try.func21, Try.ntmps21
  go_wp2
  go_ret
  exact ⟨rfl, rfl⟩
set_option maxHeartbeats 400000 in
theorem crash_nil (w : World) : Calls Try.prog 16 #[.pointer none] w fun e w' => e = .returned (.tuple #[]) ∧ w = w' := by
  go_enter Try.func16, Try.ntmps16
  go_wp2
  go_end0
  exact ⟨rfl, rfl⟩
set_option maxHeartbeats 400000 in
theorem crash_any (h : DiskAt w F G d s) : Calls Try.prog 16 #[.pointer (some ⟨d, 0, none⟩)] w fun e w' => e = .returned (.tuple #[]) ∧ DiskTo w F G d s.crash w' := by
  obtain ⟨nb, db, pv, xs, addr, L, left, h⟩ := h
  obtain ⟨h0, h1, h2, h3, h4, h5, h6⟩ := h.c1
  have z6 := free_at h.cell 6
  have H := Lib.hid h
  clear h h0 h1 h2 h3 h4 h5
  go_enter Try.func16, Try.ntmps16
  go_wp2
  go_end0
  have hf := setD_fr w d 6 (.bool true)
  refine ⟨rfl, F, G, (H.out.own (s' := s.crash) (left' := left) hf ?_ rfl rfl rfl rfl H.out.left_ok H.out.left_wf).at, fun _ h => .inl h, fun _ h => .inl h, fr_d H.out hf⟩
  rw [heap_set_same H.out.cell]
  simp [diskObj, Pd.PD.crash]
set_option maxHeartbeats 400000 in
theorem limit_nil (n : Int) (w : World) : Calls Try.prog 22 #[.pointer none, .int .i64 n] w fun e w' => e = .returned (.int .i64 1) ∧ w = w' := by
  go_enter Try.func22, Try.ntmps22
  go_wp2_with (go_at_call 37; refine (ready_nil _).mono ?_; rintro e w' ⟨rfl, rfl⟩)
  go_ret
  exact ⟨rfl, rfl⟩
set_option maxHeartbeats 400000 in
theorem limit_any (h : DiskAt w F G d s) (n : Int) (hn : -9223372036854775808 ≤ n ∧ n ≤ 9223372036854775807) : Calls Try.prog 22 #[.pointer (some ⟨d, 0, none⟩), .int .i64 n] w (DRet w F G d (s.setLimit n)) := by
  obtain ⟨nb, db, pv, xs, addr, L, left, h⟩ := h
  obtain ⟨h0, h1, h2, h3, h4, h5, h6⟩ := h.c1
  unfold Pd.PD.setLimit
  have H := Lib.hid h
  cases hd : s.down with
  | true =>
    rw [hd] at h6
    clear h hd
    go_enter Try.func22, Try.ntmps22
    go_wp2_with (go_at_call 37; refine (ready_down h6).mono ?_; rintro e w' ⟨rfl, rfl⟩)
    go_ret
    exact ⟨rfl, H.out.to_new (Fr.refl _ _)⟩
  | false =>
    rw [hd] at h6
    have z4 := free_at h.cell 4
    have z5 := free_at h.cell 5
    have HD := Lib.hid hd
    simp only [Bool.false_eq_true, if_false]
    obtain ⟨s', hs'⟩ : ∃ s' : Pd.PD, s' = { s with limit := if n < 0 then none else some n.toNat } := ⟨_, rfl⟩
    rw [hd] at hs'
    rw [← hs']
    have HS := Lib.hid hs'
    clear h hd h0 h1 h2 h3 hs'
    have hg : ∃ b : Bool, decide (0 ≤ n) = b := ⟨_, rfl⟩
    obtain ⟨b, hb⟩ := hg
    go_enter Try.func22, Try.ntmps22
    go_wp2_with (go_at_call 37; refine (ready_up h6).mono ?_; rintro e w' ⟨rfl, rfl⟩)
    go_ret
    have hf : Fr (fun i => i = d) w ((w.setCell ⟨d, 4, none⟩ (.bool b)).setCell ⟨d, 5, none⟩ (.int .i64 n)) := ((Fr.refl (fun i => i = d) _).setCell ⟨d, 4, none⟩ _ (.inl rfl)).setCell ⟨d, 5, none⟩ _ (.inl rfl)
    refine ⟨rfl, F, G, (H.out.own (s' := s') (left' := n) hf ?_ ?_ ?_ ?_ ?_ ?_ hn).at, fun _ h => .inl h, fun _ h => .inl h, fr_d H.out hf⟩
    · rw [heap_set_same (heap_set_same H.out.cell), HS.out]
      rw [← hb]
      by_cases h0 : n < 0
      · simp [diskObj, h0, show ¬ 0 ≤ n by omega, HD.out]
      · simp [diskObj, h0, show 0 ≤ n by omega, HD.out]
    · rw [HS.out]
    · rw [HS.out]
    · rw [HS.out]
    · rw [HS.out]
    · intro m hm
      rw [HS.out] at hm
      by_cases h0 : n < 0
      · simp [h0] at hm
      · simp [h0] at hm; omega

set_option maxHeartbeats 400000 in
theorem free_nil (w : World) : Calls Try.prog 19 #[.pointer none] w fun e w' => e = .returned (.int .i64 0) ∧ w = w' := by
  go_enter Try.func19, Try.ntmps19
  go_wp2_with (go_at_call 37; refine (ready_nil _).mono ?_; rintro e w' ⟨rfl, rfl⟩)
  go_ret
  exact ⟨rfl, rfl⟩
set_option maxRecDepth 100000 in
set_option maxHeartbeats 1000000 in
theorem free_any (h : DiskAt w F G d s) {n : Nat} (hi : Pd.Inv n s) : Calls Try.prog 19 #[.pointer (some ⟨d, 0, none⟩)] w fun e w' => e = .returned (.int .i64 s.free) ∧ Fr (fun _ => False) w w' := by
  obtain ⟨nb, db, pv, xs, addr, L, left, h⟩ := h
  obtain ⟨h0, h1, h2, h3, h4, h5, h6⟩ := h.c1
  unfold Pd.PD.free
  cases hd : s.down with
  | true =>
    rw [hd] at h6
    clear h hd
    go_enter Try.func19, Try.ntmps19
    go_wp2_with (go_at_call 37; refine (ready_down h6).mono ?_; rintro e w' ⟨rfl, rfl⟩)
    go_ret
    exact ⟨rfl, Fr.refl _ _⟩
  | false =>
    rw [hd] at h6
    have hlt := lt_of_some h.cell
    have hub := hi.used_le
    have hcp := hi.cap
    have hwr : IntKind.i64.wrap ((s.cap : Int) - (s.used : Int)) = (s.cap : Int) - (s.used : Int) := IntWalk.i64_in _ (by omega)
    have hu := (h.kept ((Fr.refl (fun _ => False) w).drew) (fun _ _ e => e) (fun _ _ e => e)).used hi
    have HU := Lib.hid hu
    clear h hd hu
    go_enter Try.func19, Try.ntmps19
    go_wp2_with (go_at_call 37; refine (ready_up h6).mono ?_; rintro e w' ⟨rfl, rfl⟩)
    go_region_with (go_at_call 39; refine HU.out.mono ?_; rintro e w1 ⟨rfl, hfr1⟩; have hfr := ((Fr.refl (fun _ => False) w).drew).trans hfr1 (fun _ e => .inl e); have k0 : w1.cell? ⟨d, 0, none⟩ = some (.int .i64 s.cap) := (hfr.cell (p := ⟨d, 0, none⟩) hlt (fun e => e)).trans h0)
    all_goals
      go_wp2
      all_goals
        go_ret
        exact ⟨ret_int (by omega), hfr⟩

set_option maxHeartbeats 400000 in
theorem new_bad (n : Int) (w : World) (h : n < 0 ∨ 16777216 < n) : Calls Try.prog 12 #[.int .i64 n] w fun e w' => e = .returned (.tuple #[.pointer none, .int .i64 2]) ∧ w = w' := by
  have hmm := @run_makeMap Try.prog
  rcases h with h | h
  · go_enter Try.func12, Try.ntmps12
    go_wp2
    go_ret2
    exact ⟨rfl, rfl⟩
  · have h' : ¬ n < 0 := by omega
    go_enter Try.func12, Try.ntmps12
    go_wp2
    go_ret2
    exact ⟨rfl, rfl⟩
/-- A new disk. -/
def NewDisk (w : World) (cap : Nat) (e : Ending) (w' : World) : Prop :=
  ∃ d F, e = .returned (.tuple #[.pointer (some ⟨d, 0, none⟩), .int .i64 0]) ∧ DiskAt w' F (fun _ => False) d (Pd.PD.new cap) ∧ (∀ b, F b → w.heap.size ≤ b) ∧ Fr (fun _ => False) w w'
theorem new_close (cap : Nat) (w : World) : DiskAt (((w.alloc (.map #[] 0)).alloc (.map #[] 0)).alloc (.cells #[.int .i64 cap, .map (some w.heap.size), .map (some (w.heap.size + 1)), .slice none 0 0, .bool false, .int .i64 0, .bool false] 72)) (fun b => w.heap.size ≤ b ∧ b < w.heap.size + 3) (fun _ => False) (w.heap.size + 1 + 1) (Pd.PD.new cap) := by
  have e1 : (w.alloc (.map #[] 0)).heap.size = w.heap.size + 1 := World.size_alloc _ _
  have e2 : ((w.alloc (.map #[] 0)).alloc (.map #[] 0)).heap.size = w.heap.size + 1 + 1 := by rw [World.size_alloc, e1]
  have hm1 := World.ownsMap_made (H := Unit) w Try.prog 9 ptrEl
  have hm2 := World.ownsMap_made (H := Unit) (w.alloc (.map #[] 0)) Try.prog 9 ptrEl
  rw [e1] at hm2
  have hc := heap_alloc_this ((w.alloc (.map #[] 0)).alloc (.map #[] 0)) (.cells #[.int .i64 cap, .map (some w.heap.size), .map (some (w.heap.size + 1)), .slice none 0 0, .bool false, .int .i64 0, .bool false] 72)
  rw [e2] at hc
  refine ⟨w.heap.size, w.heap.size + 1, .slice none 0 0, [], fun _ => 0, fun _ => False, 0, ?_⟩
  exact {
    cell := hc
    left_ok := by intro n hn; cases hn
    left_wf := by omega
    hn := (hm1.alloc _).alloc _
    hd := hm2.alloc _
    row := World.ownsRow_nil _ _ _ _
    pen := trivial
    file := by intro k hk; exact hk.elim
    inj := by intro k _ hk; exact hk.elim
    Ln := by intro e he; cases he
    Ld := by intro e he; cases he
    Lp := by intro n f hm; cases hm
    Ls := by intro k hk; exact hk.elim
    Fd := by omega
    Fn := by omega
    Fb := by omega
    Fv := by intro b hb; cases hb
    Ff := by intro k hk; exact hk.elim
    Flt := by intro b hb; simp only [World.size_alloc]; omega
    Glt := by intro b hb; exact hb.elim
    FG := by intro b _ hb; exact hb
    ne_nd := by omega
    ne_v := by intro e; cases e
    ne_vf := by intro k hk; exact hk.elim }
set_option maxHeartbeats 400000 in
theorem new_any (cap : Nat) (w : World) (h : cap ≤ 16777216) : Calls Try.prog 12 #[.int .i64 cap] w (NewDisk w cap) := by
  have hmm := @run_makeMap Try.prog
  go_enter Try.func12, Try.ntmps12
  go_wp2
  go_ret2
  exact ⟨w.heap.size + 1 + 1, fun b => w.heap.size ≤ b ∧ b < w.heap.size + 3, rfl, new_close cap w, fun b hb => hb.1, (((Fr.refl _ _).alloc _).alloc _).alloc _⟩
end
end Go.Proofs.Ytigcokgjikkohaa
