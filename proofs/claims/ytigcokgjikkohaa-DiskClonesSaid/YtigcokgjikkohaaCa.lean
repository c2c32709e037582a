/- The walk of DiskCalls. -/
import Derived.Test.YtigcokgjikkohaaAcPd
import Derived.Test.YtigcokgjikkohaaPr
import Derived.Test.YtigcokgjikkohaaMo13
import Derived.Deep.RegionHeld3
namespace Go.Proofs.Ytigcokgjikkohaa.Pd
set_option linter.unusedVariables false
set_option linter.unusedSimpArgs false
theorem startLoop_length : ∀ (l : Names) (fs : List PFile) (sc : List Int), (startLoop l fs sc).1.length = fs.length
  | [], fs, sc => rfl
  | e :: r, fs, sc => by
    show (startLoop r (fs.modify e.2 fun _ => _) _).1.length = _
    rw [startLoop_length r, List.length_modify]
theorem tick_files (s : PD) : s.tick.2.files = s.files := (tick_same s).2.1
theorem act_files (s : PD) (k : Nat) (a b : ByteArray) (z : Int) (sc : List Int) : (s.act k a b z sc).2.files.length ≤ s.files.length + 1 := by
  unfold PD.act
  repeat' split
  · unfold PD.sync
    split
    · exact Nat.le_succ _
    · split
      · exact Nat.le_succ _
      · split
        · rw [tick_files]; exact Nat.le_succ _
        · rw [List.length_modify]; exact Nat.le_succ _
  · unfold PD.rename
    split
    · exact Nat.le_succ _
    · split
      · exact Nat.le_succ _
      · split
        · exact Nat.le_succ _
        · show s.tick.2.files.length ≤ _; rw [tick_files]; exact Nat.le_succ _
  · unfold PD.remove
    split
    · exact Nat.le_succ _
    · split
      · exact Nat.le_succ _
      · show s.tick.2.files.length ≤ _; rw [tick_files]; exact Nat.le_succ _
  · unfold PD.publish
    split
    · exact Nat.le_succ _
    · split
      · rw [tick_files]; exact Nat.le_succ _
      · show s.tick.2.files.length ≤ _; rw [tick_files]; exact Nat.le_succ _
  · unfold PD.setLimit
    split <;> exact Nat.le_succ _
  · exact Nat.le_succ _
  · unfold PD.start
    split
    · exact Nat.le_succ _
    · show (startLoop _ s.files _).1.length ≤ _; rw [startLoop_length]; exact Nat.le_succ _
  · unfold PD.append
    split
    · exact Nat.le_succ _
    · split
      · exact Nat.le_succ _
      · split
        · split
          · exact Nat.le_succ _
          · split
            · exact Nat.le_succ _
            · show (s.files ++ [_]).length ≤ _; rw [List.length_append]; exact Nat.le_refl _
        · split
          · exact Nat.le_succ _
          · show (s.files.modify _ _).length ≤ _; rw [List.length_modify]; exact Nat.le_succ _
end Go.Proofs.Ytigcokgjikkohaa.Pd
namespace Go.Proofs.Ytigcokgjikkohaa
open Go.RowKit Go.Maps Go.Sort
set_option linter.unusedVariables false
set_option linter.unusedSimpArgs false
section
variable {w w' : World} {B d n m : Nat} {s t : Pd.PD} {x : PAct}
theorem catC {a b c : World} (h : Fr (fun i => B ≤ i) a b) (k : Fr (fun i => B ≤ i) b c) : Fr (fun i => B ≤ i) a c := h.trans k (fun i e => .inl e)
theorem pc_eq {k : Nat} {args : Array Value} {q : Int × Pd.PD} {r : Int} {s' : Pd.PD} (hq : q = (r, s')) (h : Calls Try.prog k args w (PRet B w d n m q.1 q.2 t)) : Calls Try.prog k args w (PRet B w d n m r s' t) := by subst hq; exact h
theorem pc_eq' {k : Nat} {args : Array Value} {q : Int × Pd.PD} {r : Int} {s' : Pd.PD} (hq : q = (r, s')) (h : Calls Try.prog k args w (PRet B w d n m q.1 s q.2)) : Calls Try.prog k args w (PRet B w d n m r s s') := by subst hq; exact h
theorem ca_act (h : PairAt B w d n m s t) (hn : n < 1000000) (hok : ActOk w x) (hs : x.small = true) :
    Calls Try.prog 25 #[.pointer (some ⟨d, 0, none⟩), .agg #[.int .u8 x.kind, .string x.name, .string x.dst, .int .i8 x.num, .slice x.sa x.script.length x.scap]] w (PRet B w d (n + 1) m (x.on s).1 (x.on s).2 t) :=
  pair_disk h (h.disk.1.act _ _ _ _ _) fun _ _ h1 => act_any h1 h.disk.1 hn hok hs
theorem ca_mact {w0 : World} (h : PairAt B w d n m s t) {k : Nat} (hi : Pd.Inv k t) (hk : k < 1000000) (hfn : t.files.length ≤ 1000000) (hok : ActOk w0 x) (hf0 : Fr (fun i => w0.heap.size ≤ i) w0 w) (hB : w0.heap.size ≤ B) (hs : x.small = true) :
    Calls Try.prog 27 #[.pointer (some ⟨m, 0, none⟩), .agg #[.int .u8 x.kind, .string x.name, .string x.dst, .int .i8 x.num, .slice x.sa x.script.length x.scap]] w (PRet B w d n m (x.on t).1 s (x.on t).2) := by
  have hm : w0.heap.size ≤ m := by obtain ⟨D, M, _, _, _, _, h5, _⟩ := h; omega
  exact pair_model h fun M hM => mact_any hM hi hk hfn hok hf0 hm hs
theorem ca_new (c : Nat) (hc : c ≤ 200) (w : World) : Calls Try.prog 12 #[.int .i64 c] w fun e w' => ∃ d, e = .returned (.tuple #[.pointer (some ⟨d, 0, none⟩), .int .i64 0]) ∧ DiskIn w.heap.size w' d 0 (Pd.PD.new c) ∧ Fr (fun _ => False) w w' :=
  (new_in c w (by omega) (Nat.le_refl _)).mono fun e w' ⟨d, h1, _, h2, h3⟩ => ⟨d, h1, h2, h3⟩
theorem ca_pair {c : Nat} (h : DiskIn B w d 0 (Pd.PD.new c)) (hB : B ≤ w.heap.size) : PairAt B (w.alloc (.cells #[.int .i64 c, .int .i64 (-1), .bool false, .slice none 0 0, .slice none 0 0, .slice none 0 0, .slice none 0 0] 56 (0, 0))) d 0 w.heap.size (Pd.PD.new c) (Pd.PD.new c) := pair_new (cap := c) h hB
end
set_option maxRecDepth 100000 in
set_option maxHeartbeats 2000000 in
theorem calls_law (w : World) (k : Nat) (hk : k ≤ 255) (a : Option Addr) (cap : Nat) (l : List PAct) (h : ActsRd w (.slice a l.length cap) l) :
    Calls Try.prog 7 #[.int .u8 k, .slice a l.length cap] w fun e w' => e = .returned (.bool true) ∧ Fr (fun _ => False) w w' := by
  have H := Lib.hid h
  clear h
  by_cases hfew : fewB l = true
  · obtain ⟨c, hc200, hc1, hc2⟩ : ∃ c : Nat, c ≤ 200 ∧ (k : Int) % 201 = (c : Int) ∧ Int.tmod (k : Int) 201 = (c : Int) := by
      have h1 : (k : Int) % 201 = ((k % 201 : Nat) : Int) := by omega
      exact ⟨k % 201, by omega, h1, by rw [Int.tmod_eq_emod_of_nonneg (by omega)]; exact h1⟩
    have hl40 : l.length ≤ 40 := by
      simp only [fewB, Bool.and_eq_true, decide_eq_true_eq] at hfew
      exact hfew.2
    go_enter Try.func7, Try.ntmps7
    go_upto_region 7 with (first
      | (go_at_call 26; refine (pair_agrees HP.out).mono ?_; rintro e w3 ⟨rfl, hp3, hf3⟩; have H3 := Lib.hid hp3; clear hp3)
      | (go_at_call 12; refine (ca_new c hc200 w1).mono ?_; rintro e w2 ⟨d, rfl, hd2, hf2⟩; have HP := Lib.hid (ca_pair hd2 hf2.size); clear hd2)
      | (go_at_call 24; refine (few_any w1 a cap l (H.out.kept hf1 (fun b e => e.elim))).mono ?_; rintro e w' ⟨rfl, rfl⟩)
      | (go_at_call 11; refine (known_any w).mono ?_; rintro e w1 ⟨rfl, hf1⟩))
    have hfa : Fr (fun i => w1.heap.size ≤ i) w w3 := catC (((hf1.trans hf2 (fun i e => e.elim)).alloc _).mono (fun i e => e.elim)) hf3
    have hB := hf1.size
    have HFA := Lib.hid hfa
    clear hf1 hf2 hf3 HP hfa
    go_upto_region 8 with (fail)
    go_loopw [8] (fun i wr => ∃ (j : Nat) (s : Pd.PD), i = .int .i64 j ∧ j ≤ l.length ∧ PairAt w1.heap.size wr d j w2.heap.size s s ∧ s.files.length ≤ j ∧ Fr (fun i => w1.heap.size ≤ i) w wr) (fun i wr => l.length - (intOf i).toNat)
    case atStart => exact ⟨0, _, rfl, Nat.zero_le _, H3.out, Nat.le_refl 0, HFA.out⟩
    case round =>
      obtain ⟨j, s, rfl, hj, hP, hfl, hF⟩ := hrel
      by_cases hlt : j < l.length
      · obtain ⟨b, c, x, rfl, hx, hok0, hc, HC0⟩ := H.out.at hlt
        have hcw := cell_lt HC0.1
        have HC := HC0.kept hF (by omega)
        have HOW := Lib.hid hok0
        have hok := hok0.kept hF (fun b e => Nat.le_trans hB e)
        have hsm : x.small = true := by
          simp only [fewB, Bool.and_eq_true, List.all_eq_true] at hfew
          exact hfew.1 x (List.mem_of_getElem? hx)
        obtain ⟨r2, s2, q2⟩ : ∃ r s', x.on s = (r, s') := ⟨_, _, rfl⟩
        have hfl2 : s2.files.length ≤ j + 1 := by
          have := Pd.act_files s x.kind x.name x.dst x.num x.script
          have e : (s.act x.kind x.name x.dst x.num x.script).2 = s2 := congrArg (·.2) q2
          rw [e] at this
          omega
        have HOK := Lib.hid hok
        have HP := Lib.hid hP
        have HF := Lib.hid hF
        have Q2 := Lib.hid q2
        have HCC := Lib.hid HC
        obtain ⟨c0, c1, c2, c3, c4⟩ := HC
        clear HC0 hok0 hok hP hF hx q2
        go_upto_region 10 with (fail)
        go_region_held3 (fun w' => w'.cell? c = some (.int .u8 x.kind) ∧ w'.cell? ⟨c.block, c.off + 1, none⟩ = some (.string x.name) ∧ w'.cell? ⟨c.block, c.off + 2, none⟩ = some (.string x.dst) ∧ w'.cell? ⟨c.block, c.off + 3, none⟩ = some (.int .i8 x.num) ∧ w'.cell? ⟨c.block, c.off + 4, none⟩ = some (.slice x.sa x.script.length x.scap))
          (first
            | exact HC14
            | exact HC13
            | exact HC12
            | go_keep)
          ((first
            | (go_at_call 26; refine (pair_agrees H13.out).mono ?_; rintro e w14 ⟨rfl, hp14, hf14⟩; have H14 := Lib.hid hp14; clear hp14; have HC14 := HC13.kept hf14 (by omega))
            | (go_at_call 27; refine (pc_eq' Q2.out (ca_mact (w0 := w) H12.out HP.out.disk.1 (by omega) (by omega) HOW.out HF012.out hB hsm)).mono ?_; rintro e w13 ⟨rfl, hp13, hf13⟩; have H13 := Lib.hid hp13; clear hp13; have HC13 := HC12.kept hf13 (by omega))
            | (go_at_call 25; refine (pc_eq Q2.out (ca_act (HP.out.kept ((Fr.refl (fun _ => False) wr).drew)) (by omega) (HOK.out.kept ((Fr.refl (fun _ => False) wr).drew) (fun b e => e.elim)) hsm)).mono ?_; rintro e w12 ⟨rfl, hp12, hf12⟩; have H12 := Lib.hid hp12; clear hp12; have HC12 := (HCC.out.kept ((Fr.refl (fun _ => False) wr).drew) (fun e => e)).kept hf12 (by omega); have HF012 := Lib.hid ((catC (HF.out.drew) hf12).mono (S' := fun i => w.heap.size ≤ i) (fun i e => .inl (Nat.le_trans hB e))))))
        all_goals go_wp2
        all_goals exact ⟨⟨j + 1, s2, by go_num, by omega, H14.out, hfl2, catC (catC (catC HF.out.drew hf12) hf13) hf14⟩, by simp [intOf]; omega⟩
      · obtain rfl : j = l.length := by omega
        have HF := Lib.hid hF
        clear hP hF
        go_wp2
        go_ret
        exact ⟨rfl, HF.out.mono (fun i e => .inr (Nat.le_trans hB e))⟩
  · have hfew' : fewB l = false := by simpa using hfew
    go_enter Try.func7, Try.ntmps7
    go_wp2_with (first
      | (go_at_call 11; refine (known_any w1).mono ?_; rintro e w2 ⟨rfl, hf2⟩)
      | (go_at_call 24; refine (few_any w1 a cap l (H.out.kept hf1 (fun b e => e.elim))).mono ?_; rintro e w' ⟨rfl, rfl⟩)
      | (go_at_call 11; refine (known_any w).mono ?_; rintro e w1 ⟨rfl, hf1⟩))
    go_ret
    exact ⟨rfl, hf1.trans hf2 (fun i e => e.elim)⟩
end Go.Proofs.Ytigcokgjikkohaa
