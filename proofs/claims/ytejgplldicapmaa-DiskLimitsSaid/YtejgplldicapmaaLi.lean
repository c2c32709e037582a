/- The walk of DiskLimits. -/
import Derived.Test.YtejgplldicapmaaLiPd
import Derived.Test.YtejgplldicapmaaKn2
import Derived.Laws.MakeOwn
namespace Go.Proofs.Ytejgplldicapmaa
open Go.RowKit Go.Maps Go.Sort
set_option linter.unusedVariables false
set_option linter.unusedSimpArgs false
section
variable {w w' : World} {B d n m : Nat} {s : Pd.PD}
theorem info_u8 : (Try.prog.info? 5).map (fun i => (i.zero, i.size, i.bytes)) = some (some (.int .u8 0), 1, 1) := by kernel_rfl
theorem make_bytes (k : Nat) (hk : k ≤ 255) (w : World) : (Instr.makeSlice 38 (.int .i64 k) (.int .i64 k)).run Try.prog w = .ok (.slice (some ⟨w.heap.size, 0, none⟩) k k) (w.alloc (.cells (madeCells #[.int .u8 0] k) 5)) := by
  obtain ⟨i0, hi, hz0, hz1, hz2⟩ := info_parts info_u8
  have := run_makeSlice (P := Try.prog) w 38 5 i0 (.int .u8 0) Try.underlying38 hi hz0 .i64 .i64 k k (by omega) (by omega) (by rw [hz1]; omega) (by rw [hz2]; omega) (by omega)
  rw [hz1] at this
  simpa [Value.cells] using this
theorem newFree {k : Nat} (h : DiskIn B w d n (Pd.PD.new k)) : Calls Try.prog 19 #[.pointer (some ⟨d, 0, none⟩)] w fun e w' => e = .returned (.int .i64 k) ∧ Fr (fun _ => False) w w' := by
  have := free_in h
  rw [show (Pd.PD.new k).free = k from rfl] at this
  exact this
theorem newNames {k : Nat} (h : DiskIn B w d n (Pd.PD.new k)) : Calls Try.prog 20 #[.pointer (some ⟨d, 0, none⟩)] w fun e w' => e = .returned (.slice none 0 0) ∧ Fr (fun _ => False) w w' := by
  refine (names_in h).mono ?_
  rintro e w' ⟨v, rfl, hv, hf⟩
  exact ⟨by rw [hv.2.2 rfl], hf⟩
theorem newDown {k : Nat} (h : DiskIn B w d n (Pd.PD.new k)) : Calls Try.prog 21 #[.pointer (some ⟨d, 0, none⟩)] w fun e w' => e = .returned (.bool false) ∧ w = w' := down_in h
theorem cat {a b c : World} (h : Fr (fun _ => False) a b) (k : Fr (fun _ => False) b c) : Fr (fun _ => False) a c := h.trans k (fun i e => e.elim)
theorem catB {a b c : World} (h : Fr (fun i => B ≤ i) a b) (k : Fr (fun i => B ≤ i) b c) : Fr (fun i => B ≤ i) a c := h.trans k (fun i e => .inl e)
def LimD (B : Nat) (w : World) (b n k i : Nat) : Prop := ∃ s, Pd.LimI k i s ∧ DiskIn B w b n s
def LRet (B : Nat) (w : World) (b n k i : Nat) (x : Int) (e : Ending) (w' : World) : Prop := e = .returned (.int .i64 x) ∧ LimD B w' b n k i ∧ Fr (fun j => B ≤ j) w w'
theorem LimD.kept {b k i : Nat} (h : LimD B w b n k i) (hf : Fr (fun _ => False) w w') : LimD B w' b n k i := let ⟨s, h1, h2⟩ := h; ⟨s, h1, h2.kept hf⟩
theorem lim_first_in {b k : Nat} {z : ByteArray} (h : DiskIn B w b 0 (Pd.PD.new k)) (hz : z.size = k) (hk : k ≤ 255) : Calls Try.prog 13 #[.pointer (some ⟨b, 0, none⟩), .string ⟨#[97]⟩, .string z] w (LRet B w b 1 k 1 0) := by
  refine (append_in h (by omega) ⟨#[97]⟩ z (of_decide_eq_true rfl) (by omega)).mono ?_
  rintro e w' ⟨rfl, h1, h2⟩
  obtain ⟨e1, e2⟩ := Pd.lim_first hz
  exact ⟨by rw [e1], ⟨_, e2, h1⟩, h2⟩
theorem lim_x_in {b k : Nat} (h : LimD B w b n k 1) (hn : n < 1000000) : Calls Try.prog 13 #[.pointer (some ⟨b, 0, none⟩), .string ⟨#[97]⟩, .string ⟨#[120]⟩] w (LRet B w b (n + 1) k 1 33) := by
  obtain ⟨s, h1, h2⟩ := h
  refine (append_in h2 hn ⟨#[97]⟩ ⟨#[120]⟩ (of_decide_eq_true rfl) (of_decide_eq_true rfl)).mono ?_
  rintro e w' ⟨rfl, h3, h4⟩
  rw [h1.one.2.1] at h3 ⊢
  exact ⟨rfl, ⟨_, h1, h3⟩, h4⟩
theorem lim_e_in {b k : Nat} (h : LimD B w b n k 1) (hn : n < 1000000) : Calls Try.prog 13 #[.pointer (some ⟨b, 0, none⟩), .string ⟨#[97]⟩, .string ⟨#[]⟩] w (LRet B w b (n + 1) k 1 0) := by
  obtain ⟨s, h1, h2⟩ := h
  refine (append_in h2 hn ⟨#[97]⟩ ⟨#[]⟩ (of_decide_eq_true rfl) (of_decide_eq_true rfl)).mono ?_
  rintro e w' ⟨rfl, h3, h4⟩
  rw [h1.one.2.2] at h3 ⊢
  exact ⟨rfl, ⟨_, h1, h3⟩, h4⟩
theorem lim_free_in {b k : Nat} (h : LimD B w b n k 1) : Calls Try.prog 19 #[.pointer (some ⟨b, 0, none⟩)] w fun e w' => e = .returned (.int .i64 0) ∧ Fr (fun _ => False) w w' := by
  obtain ⟨s, h1, h2⟩ := h
  have := free_in h2
  rw [h1.one.1] at this
  exact this
theorem lim_step_in {b k i : Nat} (h : LimD B w b n k i) (hn : n < 1000000) (h1 : 1 ≤ i) (h2 : i < 64) : Calls Try.prog 13 #[.pointer (some ⟨b, 0, none⟩), .string (Pd.lKey i), .string ⟨#[]⟩] w (LRet B w b (n + 1) k (i + 1) 0) := by
  obtain ⟨s, h3, h4⟩ := h
  refine (append_in h4 hn (Pd.lKey i) ⟨#[]⟩ (of_decide_eq_true rfl) (of_decide_eq_true rfl)).mono ?_
  rintro e w' ⟨rfl, h5, h6⟩
  obtain ⟨e1, e2⟩ := h3.step h1 h2
  exact ⟨by rw [e1], ⟨_, e2, h5⟩, h6⟩
theorem lim_c_in {b k : Nat} (h : LimD B w b n k 64) (hn : n < 1000000) : Calls Try.prog 13 #[.pointer (some ⟨b, 0, none⟩), .string ⟨#[99]⟩, .string ⟨#[]⟩] w (LRet B w b (n + 1) k 64 6) := by
  obtain ⟨s, h1, h2⟩ := h
  refine (append_in h2 hn ⟨#[99]⟩ ⟨#[]⟩ (of_decide_eq_true rfl) (of_decide_eq_true rfl)).mono ?_
  rintro e w' ⟨rfl, h3, h4⟩
  rw [h1.last.1] at h3 ⊢
  exact ⟨rfl, ⟨_, h1, h3⟩, h4⟩
theorem lim_a_in {b k : Nat} (h : LimD B w b n k 64) (hn : n < 1000000) : Calls Try.prog 13 #[.pointer (some ⟨b, 0, none⟩), .string ⟨#[97]⟩, .string ⟨#[]⟩] w (LRet B w b (n + 1) k 64 0) := by
  obtain ⟨s, h1, h2⟩ := h
  refine (append_in h2 hn ⟨#[97]⟩ ⟨#[]⟩ (of_decide_eq_true rfl) (of_decide_eq_true rfl)).mono ?_
  rintro e w' ⟨rfl, h3, h4⟩
  rw [h1.last.2.1] at h3 ⊢
  exact ⟨rfl, ⟨_, h1, h3⟩, h4⟩
theorem lim_names_in {b k : Nat} (h : LimD B w b n k 64) : Calls Try.prog 20 #[.pointer (some ⟨b, 0, none⟩)] w fun e w' => ∃ a c, e = .returned (.slice a 64 c) ∧ Fr (fun _ => False) w w' := by
  obtain ⟨s, h1, h2⟩ := h
  refine (names_in h2).mono ?_
  rintro e w' ⟨v, rfl, hv, hf⟩
  obtain ⟨a, c, rfl⟩ := strs_shape hv
  rw [h1.last.2.2]
  exact ⟨a, c, rfl, hf⟩
theorem conv_zeros (k : Nat) {W : World} {g : Nat} (hg : W.heap[g]? = some (.cells (madeCells #[.int .u8 0] k) 5 (0, 0))) : (convert 38 9 (.slice (some ⟨g, 0, none⟩) k k)).run Try.prog W = .ok (.string (strOfNums (List.replicate k 0))) W := by
  have := run_convert_bytes_arg (P := Try.prog) W 38 5 Try.underlying38 Try.underlying5 g 0 k k (List.replicate k 0) (by rw [List.length_replicate]) (fun i hi => ?_) 9 Try.underlying9
  · exact this
  · rw [cell_at hg]
    have hi' : i < k := by simpa using hi
    simp [madeCells, hi', Nat.mod_one]
theorem lKey_num : ∀ j : Fin 64, strOfNums [98, 48 + ((j.val : Nat) : Int) / 10, 48 + ((j.val : Nat) : Int) % 10] = Pd.lKey j.val := of_decide_eq_true (by kernel_rfl)
theorem conv_key (j : Nat) (hj : j < 64) (W : World) : (convert 38 9 (.slice (some ⟨W.heap.size, 0, none⟩) 3 3)).run Try.prog (W.alloc (.cells #[.int .u8 98, .int .u8 (48 + (j : Int) / 10), .int .u8 (48 + (j : Int) % 10)] 5)) = .ok (.string (Pd.lKey j)) (W.alloc (.cells #[.int .u8 98, .int .u8 (48 + (j : Int) / 10), .int .u8 (48 + (j : Int) % 10)] 5)) := by
  rw [← lKey_num ⟨j, hj⟩]
  refine run_convert_bytes_arg (P := Try.prog) _ 38 5 Try.underlying38 Try.underlying5 W.heap.size 0 3 3 [98, 48 + (j : Int) / 10, 48 + (j : Int) % 10] rfl (fun i hi => ?_) 9 Try.underlying9
  rw [cell_at (heap_alloc_this _ _)]
  match i, hi with
  | 0, _ => rfl
  | 1, _ => rfl
  | 2, _ => rfl
end
set_option maxRecDepth 100000 in
set_option maxHeartbeats 4000000 in
theorem limits_any (w : World) (c : Int) (k : Nat) (hk : k ≤ 255) (hc : -9223372036854775808 ≤ c ∧ c ≤ 9223372036854775807) : Calls Try.prog 4 #[.int .i64 c, .int .u8 k] w fun e w' => e = .returned (.bool true) ∧ Fr (fun _ => False) w w' := by
  have hmk := make_bytes k hk
  by_cases hgood : 0 ≤ c ∧ c ≤ 16777216
  · obtain ⟨cn, rfl⟩ : ∃ cn : Nat, c = cn := ⟨c.toNat, by omega⟩
    have hcn : cn ≤ 16777216 := by omega
    go_enter Try.func4, Try.ntmps4
    go_upto_region 4 with (first
      | (go_at_call 12; refine (new_in (B := w.heap.size) cn w hcn (Nat.le_refl _)).mono ?_; rintro e w1 ⟨d, rfl, _, hd1, hf1⟩; have H1 := Lib.hid hd1; clear hd1)
      | (go_at_call 11; refine (known_any _).mono ?_; rintro e w2 ⟨rfl, hf2⟩; have H2 := Lib.hid (H1.out.kept hf2)))
    go_upto_region 6 with (first
      | (go_at_call 19; refine (newFree H2.out).mono ?_; rintro e w3 ⟨rfl, hf3⟩; have H3 := Lib.hid (H2.out.kept hf3))
      | (go_at_call 20; refine (newNames H3.out).mono ?_; rintro e w4 ⟨rfl, hf4⟩; have H4 := Lib.hid (H3.out.kept hf4))
      | (go_at_call 21; refine (newDown H4.out).mono ?_; rintro e w' ⟨rfl, rfl⟩))
    have hfA := cat (cat (cat hf1 hf2) hf3) hf4
    go_upto_region 8 with (go_at_call 12; refine (new_in (B := w.heap.size) k w4 (by omega) hfA.size).mono ?_; rintro e w5 ⟨b, rfl, hdb, hd5, hf5⟩; have H5 := Lib.hid hd5; clear hd5)
    go_upto_region 9 with fail
    have hcv := conv_zeros k (heap_alloc_this w5 (.cells (madeCells #[.int .u8 0] k) 5))
    have hz : (strOfNums (List.replicate k 0)).size = k := by rw [strOfNums_size, List.length_replicate]
    have hfB := (cat hfA hf5).alloc (.cells (madeCells #[.int .u8 0] k) 5)
    have H6 := Lib.hid (H5.out.kept ((Fr.refl _ _).alloc (.cells (madeCells #[.int .u8 0] k) 5)))
    generalize (w5.alloc _) = w6 at hcv hfB H6 ⊢
    clear hfA hf5 hf4 hf3 hf2 hf1 H1 H2 H3 H4 H5
    generalize strOfNums _ = z at hcv hz ⊢
    go_wp2_with (first
      | (go_at_call 13; refine (lim_e_in L2.out (by omega)).mono ?_; rintro e w10 ⟨rfl, hd10, hf10⟩; have L3 := Lib.hid hd10; clear hd10)
      | (go_at_call 13; refine (lim_x_in L1b.out (by omega)).mono ?_; rintro e w9 ⟨rfl, hd9, hf9⟩; have L2 := Lib.hid hd9; clear hd9)
      | (go_at_call 19; refine (lim_free_in L1.out).mono ?_; rintro e w8 ⟨rfl, hf8⟩; have L1b := Lib.hid (L1.out.kept hf8))
      | (go_at_call 13; refine (lim_first_in H6.out hz hk).mono ?_; rintro e w7 ⟨rfl, hd7, hf7⟩; have L1 := Lib.hid hd7; clear hd7))
    have hfC := catB (catB (catB (catB (hfB.mono (S' := fun i => w.heap.size ≤ i) (fun i e => e.elim)) hf7) (hf8.mono (fun i e => e.elim))) hf9) hf10
    have HFC := Lib.hid hfC
    clear hz hcv hfC hfB hf7 hf8 hf9 hf10 H6 L1 L1b L2
    go_loopw [11] (fun i wr => ∃ j : Nat, i = .int .i64 j ∧ 1 ≤ j ∧ j ≤ 64 ∧ LimD w.heap.size wr b (j + 2) k j ∧ Fr (fun i => w.heap.size ≤ i) w wr) (fun i wr => 64 - (intOf i).toNat)
    case atStart => exact ⟨1, rfl, by omega, by omega, L3.out, HFC.out⟩
    case round =>
      obtain ⟨j, rfl, hj1, hj2, hL, hF⟩ := hrel
      have HL := Lib.hid hL
      have HF := Lib.hid hF
      clear hL hF
      by_cases hlt : j < 64
      · have hck := conv_key j hlt wr
        have HL2 := Lib.hid (HL.out.kept ((Fr.refl _ wr).alloc (.cells #[.int .u8 98, .int .u8 (48 + (j : Int) / 10), .int .u8 (48 + (j : Int) % 10)] 5)))
        go_wp2_with (go_at_call 13; refine (lim_step_in HL2.out (by omega) hj1 hlt).mono ?_; rintro e w11 ⟨rfl, hd11, hf11⟩; have L11 := Lib.hid hd11; clear hd11)
        refine ⟨⟨j + 1, by go_num, by omega, by omega, L11.out, catB (HF.out.alloc _) hf11⟩, by simp [intOf]; omega⟩
      · obtain rfl : j = 64 := by omega
        go_wp2_with (first
          | (go_at_call 20; refine (lim_names_in L13.out).mono ?_; rintro e w14 ⟨na, nc, rfl, hf14⟩)
          | (go_at_call 13; refine (lim_a_in L12.out (by omega)).mono ?_; rintro e w13 ⟨rfl, hd13, hf13⟩; have L13 := Lib.hid hd13; clear hd13)
          | (go_at_call 13; refine (lim_c_in HL.out (by omega)).mono ?_; rintro e w12 ⟨rfl, hd12, hf12⟩; have L12 := Lib.hid hd12; clear hd12))
        go_ret
        exact ⟨rfl, (catB (catB (catB HF.out hf12) hf13) (hf14.mono (fun i e => e.elim))).mono (fun i e => .inr e)⟩
  · have hbad : c < 0 ∨ 16777216 < c := by omega
    by_cases hneg : c < 0
    · have hn1 : ¬ 0 ≤ c := by omega
      go_enter Try.func4, Try.ntmps4
      go_upto_region 6 with (first
        | (go_at_call 12; refine (new_bad c w hbad).mono ?_; rintro e w' ⟨rfl, rfl⟩)
        | (go_at_call 11; refine (known_any _).mono ?_; rintro e w4 ⟨rfl, hfA⟩))
      go_upto_region 8 with (go_at_call 12; refine (new_in (B := w.heap.size) k w4 (by omega) hfA.size).mono ?_; rintro e w5 ⟨b, rfl, hdb, hd5, hf5⟩; have H5 := Lib.hid hd5; clear hd5)
      go_upto_region 9 with fail
      have hcv := conv_zeros k (heap_alloc_this w5 (.cells (madeCells #[.int .u8 0] k) 5))
      have hz : (strOfNums (List.replicate k 0)).size = k := by rw [strOfNums_size, List.length_replicate]
      have hfB := (cat hfA hf5).alloc (.cells (madeCells #[.int .u8 0] k) 5)
      have H6 := Lib.hid (H5.out.kept ((Fr.refl _ _).alloc (.cells (madeCells #[.int .u8 0] k) 5)))
      generalize (w5.alloc _) = w6 at hcv hfB H6 ⊢
      clear hfA hf5 H5
      generalize strOfNums _ = z at hcv hz ⊢
      go_wp2_with (first
        | (go_at_call 13; refine (lim_e_in L2.out (by omega)).mono ?_; rintro e w10 ⟨rfl, hd10, hf10⟩; have L3 := Lib.hid hd10; clear hd10)
        | (go_at_call 13; refine (lim_x_in L1b.out (by omega)).mono ?_; rintro e w9 ⟨rfl, hd9, hf9⟩; have L2 := Lib.hid hd9; clear hd9)
        | (go_at_call 19; refine (lim_free_in L1.out).mono ?_; rintro e w8 ⟨rfl, hf8⟩; have L1b := Lib.hid (L1.out.kept hf8))
        | (go_at_call 13; refine (lim_first_in H6.out hz hk).mono ?_; rintro e w7 ⟨rfl, hd7, hf7⟩; have L1 := Lib.hid hd7; clear hd7))
      have hfC := catB (catB (catB (catB (hfB.mono (S' := fun i => w.heap.size ≤ i) (fun i e => e.elim)) hf7) (hf8.mono (fun i e => e.elim))) hf9) hf10
      have HFC := Lib.hid hfC
      clear hz hcv hfC hfB hf7 hf8 hf9 hf10 H6 L1 L1b L2
      go_loopw [11] (fun i wr => ∃ j : Nat, i = .int .i64 j ∧ 1 ≤ j ∧ j ≤ 64 ∧ LimD w.heap.size wr b (j + 2) k j ∧ Fr (fun i => w.heap.size ≤ i) w wr) (fun i wr => 64 - (intOf i).toNat)
      case atStart => exact ⟨1, rfl, by omega, by omega, L3.out, HFC.out⟩
      case round =>
        obtain ⟨j, rfl, hj1, hj2, hL, hF⟩ := hrel
        have HL := Lib.hid hL
        have HF := Lib.hid hF
        clear hL hF
        by_cases hlt : j < 64
        · have hck := conv_key j hlt wr
          have HL2 := Lib.hid (HL.out.kept ((Fr.refl _ wr).alloc (.cells #[.int .u8 98, .int .u8 (48 + (j : Int) / 10), .int .u8 (48 + (j : Int) % 10)] 5)))
          go_wp2_with (go_at_call 13; refine (lim_step_in HL2.out (by omega) hj1 hlt).mono ?_; rintro e w11 ⟨rfl, hd11, hf11⟩; have L11 := Lib.hid hd11; clear hd11)
          refine ⟨⟨j + 1, by go_num, by omega, by omega, L11.out, catB (HF.out.alloc _) hf11⟩, by simp [intOf]; omega⟩
        · obtain rfl : j = 64 := by omega
          go_wp2_with (first
            | (go_at_call 20; refine (lim_names_in L13.out).mono ?_; rintro e w14 ⟨na, nc, rfl, hf14⟩)
            | (go_at_call 13; refine (lim_a_in L12.out (by omega)).mono ?_; rintro e w13 ⟨rfl, hd13, hf13⟩; have L13 := Lib.hid hd13; clear hd13)
            | (go_at_call 13; refine (lim_c_in HL.out (by omega)).mono ?_; rintro e w12 ⟨rfl, hd12, hf12⟩; have L12 := Lib.hid hd12; clear hd12))
          go_ret
          exact ⟨rfl, (catB (catB (catB HF.out hf12) hf13) (hf14.mono (fun i e => e.elim))).mono (fun i e => .inr e)⟩
    · have hn1 : 0 ≤ c := by omega
      have hn2 : ¬ c ≤ 16777216 := by omega
      go_enter Try.func4, Try.ntmps4
      go_upto_region 6 with (first
        | (go_at_call 12; refine (new_bad c w hbad).mono ?_; rintro e w' ⟨rfl, rfl⟩)
        | (go_at_call 11; refine (known_any _).mono ?_; rintro e w4 ⟨rfl, hfA⟩))
      go_upto_region 8 with (go_at_call 12; refine (new_in (B := w.heap.size) k w4 (by omega) hfA.size).mono ?_; rintro e w5 ⟨b, rfl, hdb, hd5, hf5⟩; have H5 := Lib.hid hd5; clear hd5)
      go_upto_region 9 with fail
      have hcv := conv_zeros k (heap_alloc_this w5 (.cells (madeCells #[.int .u8 0] k) 5))
      have hz : (strOfNums (List.replicate k 0)).size = k := by rw [strOfNums_size, List.length_replicate]
      have hfB := (cat hfA hf5).alloc (.cells (madeCells #[.int .u8 0] k) 5)
      have H6 := Lib.hid (H5.out.kept ((Fr.refl _ _).alloc (.cells (madeCells #[.int .u8 0] k) 5)))
      generalize (w5.alloc _) = w6 at hcv hfB H6 ⊢
      clear hfA hf5 H5
      generalize strOfNums _ = z at hcv hz ⊢
      go_wp2_with (first
        | (go_at_call 13; refine (lim_e_in L2.out (by omega)).mono ?_; rintro e w10 ⟨rfl, hd10, hf10⟩; have L3 := Lib.hid hd10; clear hd10)
        | (go_at_call 13; refine (lim_x_in L1b.out (by omega)).mono ?_; rintro e w9 ⟨rfl, hd9, hf9⟩; have L2 := Lib.hid hd9; clear hd9)
        | (go_at_call 19; refine (lim_free_in L1.out).mono ?_; rintro e w8 ⟨rfl, hf8⟩; have L1b := Lib.hid (L1.out.kept hf8))
        | (go_at_call 13; refine (lim_first_in H6.out hz hk).mono ?_; rintro e w7 ⟨rfl, hd7, hf7⟩; have L1 := Lib.hid hd7; clear hd7))
      have hfC := catB (catB (catB (catB (hfB.mono (S' := fun i => w.heap.size ≤ i) (fun i e => e.elim)) hf7) (hf8.mono (fun i e => e.elim))) hf9) hf10
      have HFC := Lib.hid hfC
      clear hz hcv hfC hfB hf7 hf8 hf9 hf10 H6 L1 L1b L2
      go_loopw [11] (fun i wr => ∃ j : Nat, i = .int .i64 j ∧ 1 ≤ j ∧ j ≤ 64 ∧ LimD w.heap.size wr b (j + 2) k j ∧ Fr (fun i => w.heap.size ≤ i) w wr) (fun i wr => 64 - (intOf i).toNat)
      case atStart => exact ⟨1, rfl, by omega, by omega, L3.out, HFC.out⟩
      case round =>
        obtain ⟨j, rfl, hj1, hj2, hL, hF⟩ := hrel
        have HL := Lib.hid hL
        have HF := Lib.hid hF
        clear hL hF
        by_cases hlt : j < 64
        · have hck := conv_key j hlt wr
          have HL2 := Lib.hid (HL.out.kept ((Fr.refl _ wr).alloc (.cells #[.int .u8 98, .int .u8 (48 + (j : Int) / 10), .int .u8 (48 + (j : Int) % 10)] 5)))
          go_wp2_with (go_at_call 13; refine (lim_step_in HL2.out (by omega) hj1 hlt).mono ?_; rintro e w11 ⟨rfl, hd11, hf11⟩; have L11 := Lib.hid hd11; clear hd11)
          refine ⟨⟨j + 1, by go_num, by omega, by omega, L11.out, catB (HF.out.alloc _) hf11⟩, by simp [intOf]; omega⟩
        · obtain rfl : j = 64 := by omega
          go_wp2_with (first
            | (go_at_call 20; refine (lim_names_in L13.out).mono ?_; rintro e w14 ⟨na, nc, rfl, hf14⟩)
            | (go_at_call 13; refine (lim_a_in L12.out (by omega)).mono ?_; rintro e w13 ⟨rfl, hd13, hf13⟩; have L13 := Lib.hid hd13; clear hd13)
            | (go_at_call 13; refine (lim_c_in HL.out (by omega)).mono ?_; rintro e w12 ⟨rfl, hd12, hf12⟩; have L12 := Lib.hid hd12; clear hd12))
          go_ret
          exact ⟨rfl, (catB (catB (catB HF.out hf12) hf13) (hf14.mono (fun i e => e.elim))).mono (fun i e => .inr e)⟩
end Go.Proofs.Ytejgplldicapmaa
