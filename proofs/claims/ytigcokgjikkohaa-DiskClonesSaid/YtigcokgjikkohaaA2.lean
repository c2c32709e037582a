/- The walk of (*Disk).Append, where there may be room. -/
import Derived.Test.YtigcokgjikkohaaA1
import Derived.IntWalk
namespace Go.Proofs.Ytigcokgjikkohaa
open Go.RowKit Go.Maps
set_option linter.unusedVariables false
set_option linter.unusedSimpArgs false
section
variable {w w' : World} {F G : Nat → Prop} {d nb db : Nat} {pv : Value} {xs : List Value} {addr : Nat → Nat} {L : Nat → Prop} {left : Int} {s : Pd.PD}

theorem DiskP.named (h : DiskP w F G d nb db pv xs addr L left s) : ∀ k i, Pd.find s.names k = some i → w.heap[addr i]? = some (fileObj (Pd.fileAt s.files i)) := by
  intro k i hf
  exact h.file i (h.Ln _ (Pd.find_mem hf))

theorem DiskP.used (h : DiskP w F G d nb db pv xs addr L left s) {n : Nat} (hi : Pd.Inv n s) :
    Calls Try.prog 39 #[.pointer (some ⟨d, 0, none⟩)] w fun e w' => e = .returned (.int .i64 s.used) ∧ Fr (fun _ => False) w w' :=
  used_core h.c1.2.1 h.hn h.named (by have := hi.used_le; unfold Pd.PD.used at this; omega)

theorem set_at (addr : Nat → Nat) (n : ByteArray) (f x : Nat) (hx : addr f = x) (w : World) : Calls Try.prog 42 #[.string n, .pointer (some ⟨x, 0, none⟩)] w (Made w addr (.set n f)) := by
  subst hx; exact set_any addr n f w
theorem newfile_cells {w4 : World} {F' G' : Nat → Prop} {pv' : Value} {xs' : List Value} {left' : Int} {x m : Nat} {c : Pd.PChange} {t : Pd.PD} (hm : m = t.files.length)
    (h4 : DiskP w4 F' G' d nb db pv' xs' (fun k => if k = m then x else addr k) (fun k => L k ∨ k = m) left' (({ t with files := t.files ++ [⟨ByteArray.empty, 0⟩] } : Pd.PD).apply c)) :
    w4.cell? ⟨x, 0, none⟩ = some (.string ⟨#[]⟩) ∧ w4.frozen? ⟨x, 0, none⟩ = false := by
  subst hm
  have hfile := h4.file t.files.length (.inr rfl)
  have ha : (if t.files.length = t.files.length then x else addr t.files.length) = x := if_pos rfl
  rw [ha] at hfile
  refine ⟨?_, free_at hfile 0⟩
  rw [cell_at hfile]
  simp [Pd.PD.apply, Pd.fileAt, List.getD]
  rfl
/-- The disk in w2, a new file behind it, its change made and carried out, its bytes written. -/
theorem append_new_close {w2 w4 : World} {F' G' : Nat → Prop} {pv' : Value} {xs' : List Value} {left' : Int} {name data : ByteArray} (hf02 : Fr F w w2)
    (h2 : DiskP w2 F G d nb db pv xs addr L left' s.tick.2)
    (h4 : DiskP w4 F' G' d nb db pv' xs' (fun k => if k = s.tick.2.files.length then w2.heap.size else addr k) (fun k => L k ∨ k = s.tick.2.files.length) left' (({ s.tick.2 with files := s.tick.2.files ++ [⟨ByteArray.empty, 0⟩] } : Pd.PD).apply (.set name s.files.length)))
    (hF : ∀ i, F' i → (F i ∨ i = w2.heap.size) ∨ w2.heap.size ≤ i) (hG : ∀ i, G' i → G i ∨ w2.heap.size ≤ i) (hf24 : Fr F w2 w4) (h : DiskP w F G d nb db pv xs addr L left s) :
    DiskTo w F G d { s.tick.2.apply (.set name s.files.length) with files := s.files ++ [⟨data, 0⟩] } (w4.setCell ⟨w2.heap.size, 0, none⟩ (.string (ByteArray.empty ++ data))) := by
  obtain ⟨_, t2, _⟩ := Pd.tick_same s
  have hsz := hf02.size
  have hL : (fun k => L k ∨ k = s.tick.2.files.length) s.tick.2.files.length := .inr rfl
  have ha : (if s.tick.2.files.length = s.tick.2.files.length then w2.heap.size else addr s.tick.2.files.length) = w2.heap.size := if_pos rfl
  have hfile := h4.file _ hL
  dsimp only at hfile
  rw [ha] at hfile
  have h5 := h4.refile hL (fun f => { f with data := f.data ++ data }) (w' := w4.setCell ⟨w2.heap.size, 0, none⟩ (.string (ByteArray.empty ++ data))) (by
    refine (Fr.refl _ _).setCell _ _ (.inl ?_)
    exact ha.symm) (by
    show (w4.setCell _ _).heap[if _ then _ else _]? = _
    rw [ha, heap_set_same hfile]
    simp [fileObj, Pd.fileAt, List.getD, Pd.PD.apply])
  have hs : ({ ({ s.tick.2 with files := s.tick.2.files ++ [⟨ByteArray.empty, 0⟩] } : Pd.PD).apply (.set name s.files.length) with files := (({ s.tick.2 with files := s.tick.2.files ++ [⟨ByteArray.empty, 0⟩] } : Pd.PD).apply (.set name s.files.length)).files.modify s.tick.2.files.length fun f => { f with data := f.data ++ data } } : Pd.PD) = { s.tick.2.apply (.set name s.files.length) with files := s.files ++ [⟨data, 0⟩] } := by
    have : (s.tick.2.files ++ [(⟨ByteArray.empty, 0⟩ : Pd.PFile)]).modify s.tick.2.files.length (fun f => { f with data := f.data ++ data }) = s.files ++ [⟨data, 0⟩] := by
      rw [t2]
      apply List.ext_getElem?
      intro i
      rw [List.getElem?_modify]
      by_cases hi : i < s.files.length
      · rw [List.getElem?_append_left hi, List.getElem?_append_left hi]
        have : s.files.length ≠ i := by omega
        simp [this]
      · rw [List.getElem?_append_right (by omega), List.getElem?_append_right (by omega)]
        by_cases e : s.files.length = i
        · subst e; simp
        · have : i - s.files.length ≠ 0 := by omega
          obtain ⟨m, hm⟩ : ∃ m, i - s.files.length = m + 1 := ⟨i - s.files.length - 1, by omega⟩
          simp [hm]
    simp only [Pd.PD.apply, this]
  rw [hs] at h5
  refine ⟨F', G', h5.at, ?_, ?_, ?_⟩
  · intro b hb
    rcases hF b hb with (h1 | h1) | h1
    · exact .inl h1
    · exact .inr (by omega)
    · exact .inr (by omega)
  · intro b hb
    rcases hG b hb with h1 | h1
    · exact .inl h1
    · exact .inr (by omega)
  · exact (hf02.trans hf24 (fun _ e => .inl e)).setCell _ _ (.inr hsz)

set_option maxRecDepth 100000 in
set_option maxHeartbeats 1000000 in
theorem append_full_new (h : DiskP w F G d nb db pv xs addr L left s) {n : Nat} (hi : Pd.Inv n s) (hd : s.down = false) (name data : ByteArray) (hns : name.size ≤ 9223372036854775807) (hds : data.size ≤ 4611686018427387904) (hnm : Pd.isName name = true)
    (hf : Pd.find s.names name = none) (hl : ¬ 64 ≤ s.names.length) (hcap : s.cap < s.used + data.size) :
    Calls Try.prog 13 #[.pointer (some ⟨d, 0, none⟩), .string name, .string data] w (DRet w F G d (s.append name data)) := by
  obtain ⟨h0, h1, h2, h3, h4, h5, h6⟩ := h.c1
  have hr : s.append name data = (33, s) := by unfold Pd.PD.append; rw [if_neg (by simp [hd]), if_neg (by simp [hnm]), hf]; dsimp only; rw [if_neg hl, if_pos hcap]
  rw [hr]
  rw [hd] at h6
  have hlk := look_names h.hn hns
  rw [hf] at hlk
  have hlk' : (Instr.lookup 69 (.map (some nb)) (.string name) true).run Try.prog w = .ok (.tuple #[.pointer none, .bool false]) w := hlk
  have hn := h.hn
  have hg : decide ((64 : Int) ≤ (s.names.length : Int)) = false := by simp; omega
  have hcI : (s.cap : Int) < (s.used : Int) + (data.size : Int) := by omega
  have hlt := lt_of_some h.cell
  have hub := hi.used_le
  have hwr : IntKind.i64.wrap ((s.used : Int) + (data.size : Int)) = (s.used : Int) + (data.size : Int) := IntWalk.i64_in _ (by omega)
  have hu := (h.kept ((Fr.refl (fun _ => False) w).drew) (fun _ _ e => e) (fun _ _ e => e)).used hi
  have HU := Lib.hid hu
  have H := Lib.hid h
  clear h hr hd hlk hf hu
  go_enter Try.func13, Try.ntmps13
  go_wp2_with (first
    | (go_at_call 37; refine (ready_up h6).mono ?_; rintro e w' ⟨rfl, rfl⟩)
    | (go_at_call 38; refine (isName_any name _ hns).mono ?_; rintro e w' ⟨rfl, rfl⟩)
    | (at_len; refine wpList_len_names rfl _ rfl nb _ addr s.names rfl hn ?_))
  go_region_with (go_at_call 39; refine HU.out.mono ?_; rintro e w1 ⟨rfl, hfr1⟩; have hfr := ((Fr.refl (fun _ => False) w).drew).trans hfr1 (fun _ e => .inl e); have k0 : w1.cell? ⟨d, 0, none⟩ = some (.int .i64 s.cap) := (hfr.cell (p := ⟨d, 0, none⟩) hlt (fun e => e)).trans h0)
  all_goals
    go_wp2
    go_ret
    exact ⟨rfl, H.out.to_new hfr⟩

set_option maxRecDepth 100000 in
set_option maxHeartbeats 2000000 in
theorem append_new (h : DiskP w F G d nb db pv xs addr L left s) {n : Nat} (hi : Pd.Inv n s) (hn1 : n < 1000000) (hd : s.down = false) (name data : ByteArray) (hns : name.size ≤ 9223372036854775807) (hds : data.size ≤ 4611686018427387904) (hnm : Pd.isName name = true)
    (hf : Pd.find s.names name = none) (hl : ¬ 64 ≤ s.names.length) (hcap : ¬ s.cap < s.used + data.size) :
    Calls Try.prog 13 #[.pointer (some ⟨d, 0, none⟩), .string name, .string data] w (DRet w F G d (s.append name data)) := by
  obtain ⟨h0, h1, h2, h3, h4, h5, h6⟩ := h.c1
  have hr : s.append name data = (Pd.outc s.tick.1, { s.tick.2.apply (.set name s.files.length) with files := s.files ++ [⟨data, 0⟩] }) := by unfold Pd.PD.append; rw [if_neg (by simp [hd]), if_neg (by simp [hnm]), hf]; dsimp only; rw [if_neg hl, if_neg hcap]
  rw [hr]
  rw [hd] at h6
  have hlk := look_names h.hn hns
  rw [hf] at hlk
  have hlk' : (Instr.lookup 69 (.map (some nb)) (.string name) true).run Try.prog w = .ok (.tuple #[.pointer none, .bool false]) w := hlk
  have hn := h.hn
  have hg : decide ((64 : Int) ≤ (s.names.length : Int)) = false := by simp; omega
  have hcI : (s.used : Int) + (data.size : Int) ≤ (s.cap : Int) := by omega
  have hlt := lt_of_some h.cell
  have hub := hi.used_le
  have hwr : IntKind.i64.wrap ((s.used : Int) + (data.size : Int)) = (s.used : Int) + (data.size : Int) := IntWalk.i64_in _ (by omega)
  have hu := (h.kept ((Fr.refl (fun _ => False) w).drew) (fun _ _ e => e) (fun _ _ e => e)).used hi
  have HU := Lib.hid hu
  have H := Lib.hid h
  have hpe := hi.pen
  have t := Pd.tick_same s
  have HT := Lib.hid t
  have hle := hi.rep.len'
  clear h hr hd hlk hf hu t hi hcap
  go_enter Try.func13, Try.ntmps13
  go_wp2_with (first
    | (go_at_call 37; refine (ready_up h6).mono ?_; rintro e w' ⟨rfl, rfl⟩)
    | (go_at_call 38; refine (isName_any name _ hns).mono ?_; rintro e w' ⟨rfl, rfl⟩)
    | (at_len; refine wpList_len_names rfl _ rfl nb _ addr s.names rfl hn ?_))
  go_region_with (go_at_call 39; refine HU.out.mono ?_; rintro e w1 ⟨rfl, hfr1⟩; have hfr := ((Fr.refl (fun _ => False) w).drew).trans hfr1 (fun _ e => .inl e); have k0 : w1.cell? ⟨d, 0, none⟩ = some (.int .i64 s.cap) := (hfr.cell (p := ⟨d, 0, none⟩) hlt (fun e => e)).trans h0)
  all_goals
    have hd1 := H.out.kept hfr (fun _ _ e => e) (fun _ _ e => e)
    have HD1 := Lib.hid hd1
    clear hd1 k0 hfr1 hwr h1 h2 h3 h4 h5 h6 hlk' hn hg hlt h0 HU
    go_wp2_with (first
      | (go_at_call 40; refine (fails_any HD1.out).mono ?_; rintro e w2 ⟨rfl, ⟨left2, hd2⟩, hf12, hs12⟩; have HD2 := Lib.hid hd2; clear hd2 hs12)
      | (go_at_call 42; refine (set_at (fun k => if k = s.tick.2.files.length then w2.heap.size else addr k) name s.files.length w2.heap.size (by rw [HT.out.2.1]; exact if_pos rfl) _).mono ?_; rintro e w3 hm; obtain ⟨a, b, G3, rfl, hch, hd3, hG3, hf23⟩ := made_disk (HD2.out.newfile ⟨ByteArray.empty, 0⟩) hm; have HD3 := Lib.hid hd3; have HCH := Lib.hid hch; clear hm hd3 hch)
      | (go_at_call 41; refine (change_any HD3.out HCH.out (c := .set name s.files.length) ⟨hns, .inr (congrArg List.length HT.out.2.1).symm⟩ (by show s.tick.2.pending.length < _; rw [HT.out.2.2.2.2]; omega) (by show s.tick.2.names.length < _; rw [HT.out.2.2.1]; omega)).mono ?_; rintro e w4 ⟨rfl, pv4, F4, xs4, hd4, hF4, hF4', hf34⟩; have HD4 := Lib.hid hd4; obtain ⟨q4, z4⟩ := newfile_cells rfl hd4; clear hd4)
      | (go_at_call 43; refine (outcome_any _ _).mono ?_; rintro e w5 ⟨rfl, rfl⟩))
    go_ret
    have hf2 : Fr F w w2 := (hfr.mono (fun _ e => e.elim)).trans hf12 (fun i e => .inl (e ▸ HD1.out.Fd))
    have hs23 := hf23.size
    rw [World.size_alloc] at hs23
    have hf24 : Fr F w2 w4 := (((Fr.refl F w2).alloc _).trans hf23 (fun _ e => e.elim)).trans hf34 (fun i e => e.elim .inl (fun h => .inr (by omega)))
    refine ⟨rfl, append_new_close hf2 HD2.out HD4.out ?_ ?_ hf24 H.out⟩
    · intro i hi
      rcases hF4 i hi with h1 | h1
      · exact .inl h1
      · exact .inr (by omega)
    · intro i hi
      rcases hG3 i hi with h1 | h1
      · exact .inl h1
      · rw [World.size_alloc] at h1; exact .inr (by omega)
end
end Go.Proofs.Ytigcokgjikkohaa
