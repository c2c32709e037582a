/- The walk of DiskPrefix. -/
import Derived.Test.YtigcokgjikkohaaPfPd
import Derived.Test.YtigcokgjikkohaaKn2
import Derived.Test.YtigcokgjikkohaaArgOpen
import Derived.Deep.DeepCutAuto
import Derived.Deep.QuietTactic
namespace Go.Proofs.Ytigcokgjikkohaa
open Go.RowKit Go.Maps Go.Sort
set_option linter.unusedVariables false
set_option linter.unusedSimpArgs false
theorem Fr.low {S : Nat → Prop} {w w' : World} (h : Fr S w w') (hS : ∀ i, S i → w.heap.size ≤ i) : Fr (fun _ => False) w w' := h.mono fun i e => .inr (hS i e)
section
variable {w w' : World} {B d n m : Nat} {s : Pd.PD}
theorem catU {a b c : World} (h : Fr (fun i => B ≤ i) a b) (k : Fr (fun i => B ≤ i) b c) : Fr (fun i => B ≤ i) a c := h.trans k (fun i e => .inl e)
theorem pf_new (w : World) : Calls Try.prog 12 #[.int .i64 600] w fun e w' => ∃ d, e = .returned (.tuple #[.pointer (some ⟨d, 0, none⟩), .int .i64 0]) ∧ DiskIn w.heap.size w' d 0 (Pd.PD.new 600) ∧ Fr (fun _ => False) w w' :=
  (new_in 600 w (by omega) (Nat.le_refl _)).mono fun e w' ⟨d, h1, _, h2, h3⟩ => ⟨d, h1, h2, h3⟩
theorem pf_first (h : DiskIn B w d 0 (Pd.PD.new 600)) : Calls Try.prog 13 #[.pointer (some ⟨d, 0, none⟩), .string ⟨#[97]⟩, .string ⟨#[]⟩] w fun e w' => e = .returned (.int .i64 0) ∧ InTo B w d 1 ((Pd.PD.new 600).append ⟨#[97]⟩ ⟨#[]⟩).2 w' :=
  iret_of (m := 1) Pd.pfx_first.1 (append_in h (by omega) ⟨#[97]⟩ ⟨#[]⟩ (of_decide_eq_true rfl) (of_decide_eq_true rfl))
theorem pf_publish (h : DiskIn B w d 1 ((Pd.PD.new 600).append ⟨#[97]⟩ ⟨#[]⟩).2) : Calls Try.prog 14 #[.pointer (some ⟨d, 0, none⟩)] w fun e w' => e = .returned (.int .i64 0) ∧ InTo B w d 1 (Pd.pfx ByteArray.empty 0) w' := by
  have := publish_in h
  rw [Pd.pfx_first.2] at this
  exact this
theorem pf_append {all part : ByteArray} {dur : Nat} (h : DiskIn B w d n (Pd.pfx all dur)) (hn : n < 1000000) (hs : all.size + part.size ≤ 600) : Calls Try.prog 13 #[.pointer (some ⟨d, 0, none⟩), .string ⟨#[97]⟩, .string part] w fun e w' => e = .returned (.int .i64 0) ∧ InTo B w d (n + 1) (Pd.pfx (all ++ part) dur) w' := by
  have := append_in h hn ⟨#[97]⟩ part (of_decide_eq_true rfl) (by omega)
  rw [Pd.pfx_append hs] at this
  exact this
theorem pf_sync {all : ByteArray} {dur : Nat} (h : DiskIn B w d n (Pd.pfx all dur)) : Calls Try.prog 15 #[.pointer (some ⟨d, 0, none⟩), .string ⟨#[97]⟩] w fun e w' => e = .returned (.int .i64 0) ∧ InTo B w d n (Pd.pfx all all.size) w' :=
  sync_in h ⟨#[97]⟩ (of_decide_eq_true rfl)
theorem pf_start {all : ByteArray} {dur : Nat} {v : Value} {sc : List Int} (h : DiskIn B w d n (Pd.pfx all dur).crash) (hn : n < 1000000) (hI : IntsRd w v sc) (hl : sc.length ≤ 1000000000000) : Calls Try.prog 17 #[.pointer (some ⟨d, 0, none⟩), v] w fun e w' => e = .returned (.tuple #[]) ∧ InTo B w d n (Pd.pfx (Pd.pfxS all dur sc) (Pd.pfxS all dur sc).size) w' := by
  have := start_in h hn hI hl
  rw [Pd.pfx_start] at this
  exact this
theorem pf_read {all : ByteArray} {dur : Nat} (h : DiskIn B w d n (Pd.pfx all dur)) : Calls Try.prog 18 #[.pointer (some ⟨d, 0, none⟩), .string ⟨#[97]⟩] w fun e w' => e = .returned (.tuple #[.string all, .int .i64 0]) ∧ w = w' :=
  read_in h ⟨#[97]⟩ (of_decide_eq_true rfl)
end
theorem Fr.drewN {S : Nat → Prop} {a w : World} (h : Fr S a w) (n : Nat) : Fr S a (w.drewN n) := ⟨h.os, h.tape, h.output, h.size, h.block⟩
set_option maxRecDepth 100000 in
set_option maxHeartbeats 4000000 in
theorem prefix_any (w : World) (pa : Option Addr) (pc : Nat) (ps : List ByteArray) (y : Nat) (hy : y ≤ 255) (sa : Option Addr) (scap : Nat) (sc : List Int)
    (hp : StrsRd w (.slice pa ps.length pc) ps) (hI : IntsRd w (.slice sa sc.length scap) sc) :
    Calls Try.prog 3 #[.slice pa ps.length pc, .int .u8 y, .slice sa sc.length scap] w fun e w' => e = .returned (.bool true) ∧ Fr (fun _ => False) w w' := by
  have HP := Lib.hid hp
  have HI := Lib.hid hI
  clear hp hI
  by_cases h10 : ps.length ≤ 10
  · by_cases h12 : sc.length ≤ 12
    · go_enter Try.func3, Try.ntmps3
      go_wp2_with (first
        | (go_at_call 14; refine (pf_publish H3.out).mono ?_; rintro e w4 ⟨rfl, hd4, hf4⟩; have H4 := Lib.hid hd4; clear hd4)
        | (go_at_call 13; refine (pf_first H2.out).mono ?_; rintro e w3 ⟨rfl, hd3, hf3⟩; have H3 := Lib.hid hd3; clear hd3)
        | (go_at_call 12; refine (pf_new w1).mono ?_; rintro e w2 ⟨d, rfl, hd2, hf2⟩; have H2 := Lib.hid hd2; clear hd2)
        | (go_at_call 11; refine (known_any _).mono ?_; rintro e w1 ⟨rfl, hf1⟩))
      have hfa : Fr (fun i => w1.heap.size ≤ i) w w4 := catU (catU ((hf1.trans hf2 (fun i e => e.elim)).mono (fun i e => e.elim)) hf3) hf4
      have hB := hf1.size
      have HFA := Lib.hid hfa
      clear hf1 hf2 hf3 hf4 H2 H3 hfa
      go_loopw [9, 10, 11] (fun x z i wr => ∃ (j : Nat) (all : ByteArray) (dur : Nat), x = .string all ∧ z = .int .i64 dur ∧ i = .int .i64 j ∧ j ≤ ps.length ∧ all.size ≤ 50 * j ∧ dur ≤ all.size ∧ DiskIn w1.heap.size wr d (j + 1) (Pd.pfx all dur) ∧ Fr (fun i => w1.heap.size ≤ i) w wr) (fun x z i wr => ps.length - (intOf i).toNat)
      case atStart => exact ⟨0, ByteArray.empty, 0, rfl, rfl, rfl, Nat.zero_le _, Nat.zero_le _, Nat.zero_le _, H4.out, HFA.out⟩
      case round =>
        obtain ⟨j, all, dur, rfl, rfl, rfl, hj, hall, hdur, hD, hF⟩ := hrel
        have HD := Lib.hid hD
        have HF := Lib.hid hF
        by_cases hlt : j < ps.length
        · obtain ⟨pa, rfl, hcell, hblk⟩ : ∃ a, pa = some a ∧ wr.cell? (a.add j) = some (.string (ps.getD j ByteArray.empty)) ∧ (a.add j).block < w1.heap.size := by
            rcases HP.out with ⟨_, h0⟩ | ⟨a, cap, e, _, h1, h2⟩
            · rw [h0] at hlt; simp at hlt
            · cases e
              exact ⟨a, rfl, ((hF.low (fun i e => Nat.le_trans hB e)).cell (by rw [add_block]; exact h2 j hlt) (fun e => e)).trans (h1 j hlt), by rw [add_block]; exact Nat.lt_of_lt_of_le (h2 j hlt) hB⟩
          generalize ps.getD j ByteArray.empty = part at hcell
          have hBr := hD.B_le
          clear hD hF
          by_cases hpz : part.size ≤ 50
          · have hsum : all.size + part.size ≤ 600 := by omega
            go_wp2_with (first
              | (go_at_call 15; refine (pf_sync H6.out).mono ?_; rintro e w7 ⟨rfl, hd7, hf7⟩; have H7 := Lib.hid hd7; clear hd7)
              | (go_at_call 13; refine (pf_append HD.out (by omega) hsum).mono ?_; rintro e w6 ⟨rfl, hd6, hf6⟩; have hc6 := (hf6.cell (p := pa.add j) (by omega) (by omega)).trans hcell; have H6 := Lib.hid hd6; clear hd6))
            · refine ⟨⟨j + 1, all ++ part, (all ++ part).size, rfl, by simp, by go_num, by omega, by rw [ByteArray.size_append]; omega, Nat.le_refl _, H7.out, catU (catU HF.out hf6) hf7⟩, by simp [intOf]; omega⟩
            · exact ⟨⟨j + 1, all ++ part, dur, rfl, rfl, by go_num, by omega, by rw [ByteArray.size_append]; omega, by rw [ByteArray.size_append]; omega, H6.out, catU HF.out hf6⟩, by simp [intOf]; omega⟩
          · go_wp2
            go_ret
            exact ⟨rfl, HF.out.mono (fun i e => .inr (Nat.le_trans hB e))⟩
        · obtain rfl : j = ps.length := by omega
          clear hD hF
          obtain ⟨q1, q2, q3, q4⟩ := Pd.pfx_law hdur sc
          have Q3 := Lib.hid q3
          have Q4 := Lib.hid q4
          clear q3 q4
          go_upto_region 25 with (first
            | (go_at_call 18; refine (pf_read H9.out).mono ?_; rintro e w' ⟨rfl, rfl⟩)
            | (go_at_call 17; refine (pf_start H8.out (by omega) (HI.out.kept ((HF.out.trans hf8 (fun i e => .inl e)).low (fun i e => Nat.le_trans hB e))) (by omega)).mono ?_; rintro e w9 ⟨rfl, hd9, hf9⟩; have H9 := Lib.hid hd9; clear hd9)
            | (go_at_call 16; refine (crash_in HD.out).mono ?_; rintro e w8 ⟨rfl, hd8, hf8⟩; have H8 := Lib.hid hd8; clear hd8))
          have hF9 := catU (catU HF.out hf8) hf9
          have HF9 := Lib.hid hF9
          clear hf8 hf9 H8 H9 hF9 HD
          generalize Pd.pfxS all dur sc = S at q1 q2 Q3 Q4 ⊢
          obtain ⟨nn, hnn⟩ : ∃ nn : Nat, max dur (S.size - 1) = nn := ⟨_, rfl⟩
          have hm : max (dur : Int) ((S.size : Int) - 1) = (nn : Int) := by omega
          rw [hm]
          have q3 := Q3.out
          rw [hnn] at q3
          have hn1 : nn ≤ S.size := by omega
          have hn2 : nn ≤ all.size := by omega
          have hn1' : (nn : Int) ≤ S.size := by omega
          have hn2' : (nn : Int) ≤ all.size := by omega
          by_cases hS : S.size = nn
          · have hS' : (S.size : Int) = (nn : Int) := by omega
            clear hm hnn
            refine wp_region_quiet_lit (by kernel_rfl) (by kernel_rfl) ?_
            iterate 33 (refine (wpQuiet_step (fun K hK => ?_) : _); go_simp; refine hK _ ?_; clear hK K)
            refine (wpQuiet_nil ?_ : _)
            intro _ hw'
            obtain ⟨nq, hw''⟩ := hw'
            subst hw''
            go_wp2
            go_ret
            exact ⟨rfl, (HF9.out.mono (fun i e => .inr (Nat.le_trans hB e))).drewN nq⟩
          · have hS' : ¬ (S.size : Int) = (nn : Int) := by omega
            have hS2 : ((S.size : Int) == (nn : Int)) = false := beq_eq_false_iff_ne.2 hS'
            have hl1 : nn < S.size := by omega
            have hl2 : nn < all.size := by omega
            have hl1' : (nn : Int) < (S.size : Int) := by omega
            have hl2' : (nn : Int) < (all.size : Int) := by omega
            have hor : S[nn] = all[nn] ∨ S[nn] = 255 - all[nn] := by
              rcases Q4.out with h | ⟨_, _, h⟩
              · omega
              · simp only [hnn] at h
                exact h
            clear hm hnn
            by_cases hE : S[nn] = all[nn]
            · have hE' : ((S[nn].toNat : Nat) : Int) = ((all[nn].toNat : Nat) : Int) := by rw [hE]
              clear hor hE
              refine wp_region_quiet_lit (by kernel_rfl) (by kernel_rfl) ?_
              iterate 33 (refine (wpQuiet_step (fun K hK => ?_) : _); go_simp; refine hK _ ?_; clear hK K)
              refine (wpQuiet_nil ?_ : _)
              intro _ hw'
              obtain ⟨nq, hw''⟩ := hw'
              subst hw''
              go_wp2
              go_ret
              exact ⟨rfl, (HF9.out.mono (fun i e => .inr (Nat.le_trans hB e))).drewN nq⟩
            · have hE2 : S[nn] = 255 - all[nn] := hor.resolve_left hE
              have hE3 : ((S[nn].toNat : Nat) : Int) = 255 - ((all[nn].toNat : Nat) : Int) := by
                rw [hE2]
                have := all[nn].toNat_lt
                rw [UInt8.toNat_sub_of_le _ _ (by rw [UInt8.le_iff_toNat_le]; show all[nn].toNat ≤ 255; omega)]
                show ((255 - all[nn].toNat : Nat) : Int) = _
                omega
              have hE' : ¬ ((S[nn].toNat : Nat) : Int) = ((all[nn].toNat : Nat) : Int) := by
                intro h
                exact hE (UInt8.toNat_inj.1 (by omega))
              have hE4 : ¬ (255 - ((all[nn].toNat : Nat) : Int)) = ((all[nn].toNat : Nat) : Int) := by rw [← hE3]; exact hE'
              have hlt255 : ((all[nn].toNat : Nat) : Int) ≤ 255 := by have := all[nn].toNat_lt; omega
              have hwr : IntKind.u8.wrap (255 - ((all[nn].toNat : Nat) : Int)) = 255 - ((all[nn].toNat : Nat) : Int) := IntWalk.u8_in _ (by omega)
              clear hor hE hE2
              refine wp_region_quiet_lit (by kernel_rfl) (by kernel_rfl) ?_
              iterate 33 (refine (wpQuiet_step (fun K hK => ?_) : _); go_simp; refine hK _ ?_; clear hK K)
              refine (wpQuiet_nil ?_ : _)
              intro _ hw'
              obtain ⟨nq, hw''⟩ := hw'
              subst hw''
              go_wp2
              go_ret
              exact ⟨rfl, (HF9.out.mono (fun i e => .inr (Nat.le_trans hB e))).drewN nq⟩
    · go_enter Try.func3, Try.ntmps3
      go_wp2_with (first
        | (go_at_call 11; refine (known_any w1).mono ?_; rintro e w2 ⟨rfl, hf2⟩)
        | (go_at_call 11; refine (known_any w).mono ?_; rintro e w1 ⟨rfl, hf1⟩))
      go_ret
      exact ⟨rfl, hf1.trans hf2 (fun i e => e.elim)⟩
  · go_enter Try.func3, Try.ntmps3
    go_wp2_with (first
      | (go_at_call 11; refine (known_any w1).mono ?_; rintro e w2 ⟨rfl, hf2⟩)
      | (go_at_call 11; refine (known_any w).mono ?_; rintro e w1 ⟨rfl, hf1⟩))
    go_ret
    exact ⟨rfl, hf1.trans hf2 (fun i e => e.elim)⟩
end Go.Proofs.Ytigcokgjikkohaa
