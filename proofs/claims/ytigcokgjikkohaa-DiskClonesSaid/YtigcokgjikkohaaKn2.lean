/- The walk of known. -/
import Derived.Test.YtigcokgjikkohaaKn
namespace Go.Proofs.Ytigcokgjikkohaa
open Go.RowKit Go.Maps Go.Sort
set_option linter.unusedVariables false
set_option linter.unusedSimpArgs false
section
variable {w w' : World} {B d n m : Nat} {s : Pd.PD}
theorem iret_of {r : Int × Pd.PD} {x : Int} {k : Nat} {args : Array Value} (hx : r.1 = x) (h : Calls Try.prog k args w (IRet B w d m r)) : Calls Try.prog k args w fun e w' => e = .returned (.int .i64 x) ∧ InTo B w d m r.2 w' := by
  subst hx; exact h
theorem kn0_in (w : World) : Calls Try.prog 12 #[.int .i64 10] w fun e w' => ∃ d, e = .returned (.tuple #[.pointer (some ⟨d, 0, none⟩), .int .i64 0]) ∧ DiskIn w.heap.size w' d 0 Pd.kn0 ∧ Fr (fun _ => False) w w' :=
  (new_in 10 w (by omega) (Nat.le_refl _)).mono fun e w' ⟨d, h1, _, h2, h3⟩ => ⟨d, h1, h2, h3⟩
theorem kn1_in (h : DiskIn B w d 0 Pd.kn0) : Calls Try.prog 13 #[.pointer (some ⟨d, 0, none⟩), .string ⟨#[97]⟩, .string ⟨#[97, 98, 99]⟩] w fun e w' => e = .returned (.int .i64 0) ∧ InTo B w d 1 Pd.kn1.2 w' :=
  iret_of (m := 1) (r := Pd.kn1) Pd.kn_all.1 (append_in h (by omega) ⟨#[97]⟩ ⟨#[97, 98, 99]⟩ (of_decide_eq_true rfl) (of_decide_eq_true rfl))
theorem kn2_in (h : DiskIn B w d 1 Pd.kn1.2) : Calls Try.prog 15 #[.pointer (some ⟨d, 0, none⟩), .string ⟨#[97]⟩] w fun e w' => e = .returned (.int .i64 0) ∧ InTo B w d 1 Pd.kn2.2 w' :=
  iret_of (m := 1) (r := Pd.kn2) Pd.kn_all.2.1 (sync_in h ⟨#[97]⟩ (of_decide_eq_true rfl))
theorem kn3_in (h : DiskIn B w d 1 Pd.kn2.2) : Calls Try.prog 13 #[.pointer (some ⟨d, 0, none⟩), .string ⟨#[97]⟩, .string ⟨#[100, 101]⟩] w fun e w' => e = .returned (.int .i64 0) ∧ InTo B w d 2 Pd.kn3.2 w' :=
  iret_of (m := 2) (r := Pd.kn3) Pd.kn_all.2.2.1 (append_in h (by omega) ⟨#[97]⟩ ⟨#[100, 101]⟩ (of_decide_eq_true rfl) (of_decide_eq_true rfl))
theorem kn4_in (h : DiskIn B w d 2 Pd.kn3.2) : Calls Try.prog 14 #[.pointer (some ⟨d, 0, none⟩)] w fun e w' => e = .returned (.int .i64 0) ∧ InTo B w d 2 Pd.kn4.2 w' :=
  iret_of (m := 2) (r := Pd.kn4) Pd.kn_all.2.2.2.1 (publish_in h)
theorem kn5_in (h : DiskIn B w d 2 Pd.kn4.2) : Calls Try.prog 16 #[.pointer (some ⟨d, 0, none⟩)] w fun e w' => e = .returned (.tuple #[]) ∧ InTo B w d 2 Pd.kn5 w' := crash_in h
theorem kn6_in {g : Nat} (h : DiskIn B w d 2 Pd.kn5) (hI : IntsAt w (.slice (some ⟨g, 0, none⟩) 3 3) [0, 1, 1]) : Calls Try.prog 17 #[.pointer (some ⟨d, 0, none⟩), .slice (some ⟨g, 0, none⟩) 3 3] w fun e w' => e = .returned (.tuple #[]) ∧ InTo B w d 2 Pd.kn6 w' := start_in h (by omega) hI.rd (by decide)
theorem kn7_in (h : DiskIn B w d 2 Pd.kn6) : Calls Try.prog 18 #[.pointer (some ⟨d, 0, none⟩), .string ⟨#[97]⟩] w fun e w' => e = .returned (.tuple #[.string ⟨#[97, 98, 99, 155]⟩, .int .i64 0]) ∧ w = w' := by
  have := read_in h ⟨#[97]⟩ (of_decide_eq_true rfl)
  rw [show Pd.kn6.read ⟨#[97]⟩ = (⟨#[97, 98, 99, 155]⟩, 0) from Pd.kn_all.2.2.2.2.2.1] at this
  exact this
theorem kn5_down (h : DiskIn B w d 2 Pd.kn5) : Calls Try.prog 21 #[.pointer (some ⟨d, 0, none⟩)] w fun e w' => e = .returned (.bool true) ∧ w = w' := by
  have := down_in h
  rw [Pd.kn_all.2.2.2.2.1] at this
  exact this
theorem kn8_in (h : DiskIn B w d 2 Pd.kn6) : Calls Try.prog 22 #[.pointer (some ⟨d, 0, none⟩), .int .i64 1] w fun e w' => e = .returned (.int .i64 0) ∧ InTo B w d 2 Pd.kn8.2 w' :=
  iret_of (m := 2) (r := Pd.kn8) Pd.kn_all.2.2.2.2.2.2.1 (limit_in h 1 (by omega))
theorem kn9_in (h : DiskIn B w d 2 Pd.kn8.2) : Calls Try.prog 13 #[.pointer (some ⟨d, 0, none⟩), .string ⟨#[98]⟩, .string ⟨#[97, 98, 99]⟩] w fun e w' => e = .returned (.int .i64 0) ∧ InTo B w d 3 Pd.kn9.2 w' :=
  iret_of (m := 3) (r := Pd.kn9) Pd.kn_all.2.2.2.2.2.2.2.1 (append_in h (by omega) ⟨#[98]⟩ ⟨#[97, 98, 99]⟩ (of_decide_eq_true rfl) (of_decide_eq_true rfl))
theorem kn10_in (h : DiskIn B w d 3 Pd.kn9.2) : Calls Try.prog 15 #[.pointer (some ⟨d, 0, none⟩), .string ⟨#[98]⟩] w fun e w' => e = .returned (.int .i64 32) ∧ InTo B w d 3 Pd.kn10.2 w' :=
  iret_of (m := 3) (r := Pd.kn10) Pd.kn_all.2.2.2.2.2.2.2.2 (sync_in h ⟨#[98]⟩ (of_decide_eq_true rfl))
theorem kn_ints (w : World) : IntsAt (w.alloc (.cells #[.int .i64 0, .int .i64 1, .int .i64 1] 3)) (.slice (some ⟨w.heap.size, 0, none⟩) 3 3) [0, 1, 1] :=
  ⟨by intro n hn; simp at hn; omega, .inr ⟨_, 0, 3, _, _, rfl, Nat.le_refl _, heap_alloc_this _ _, by intro i hi; match i, hi with | 0, _ => rfl | 1, _ => rfl | 2, _ => rfl⟩⟩
end
set_option maxRecDepth 100000 in
set_option maxHeartbeats 2000000 in
theorem known_any (w : World) : Calls Try.prog 11 #[] w fun e w' => e = .returned (.bool true) ∧ Fr (fun _ => False) w w' := by
  go_enter Try.func11, Try.ntmps11
  go_wp2_with (first
    | (go_at_call 15; refine (kn10_in H9.out).mono ?_; rintro e w10 ⟨rfl, hd10, hf10⟩; have H10 := Lib.hid hd10; clear hd10)
    | (go_at_call 13; refine (kn9_in H8.out).mono ?_; rintro e w9 ⟨rfl, hd9, hf9⟩; have H9 := Lib.hid hd9; clear hd9)
    | (go_at_call 22; refine (kn8_in H7.out).mono ?_; rintro e w8 ⟨rfl, hd8, hf8⟩; have H8 := Lib.hid hd8; clear hd8)
    | (go_at_call 18; refine (kn7_in H7.out).mono ?_; rintro e w' ⟨rfl, rfl⟩)
    | (go_at_call 17; refine (kn6_in (H6.out.kept ((Fr.refl _ _).alloc _)) (kn_ints _)).mono ?_; rintro e w7 ⟨rfl, hd7, hf7⟩; have H7 := Lib.hid hd7; clear hd7)
    | (go_at_call 21; refine (kn5_down H6.out).mono ?_; rintro e w' ⟨rfl, rfl⟩)
    | (go_at_call 16; refine (kn5_in H5.out).mono ?_; rintro e w6 ⟨rfl, hd6, hf6⟩; have H6 := Lib.hid hd6; clear hd6)
    | (go_at_call 14; refine (kn4_in H4.out).mono ?_; rintro e w5 ⟨rfl, hd5, hf5⟩; have H5 := Lib.hid hd5; clear hd5)
    | (go_at_call 13; refine (kn3_in H3.out).mono ?_; rintro e w4 ⟨rfl, hd4, hf4⟩; have H4 := Lib.hid hd4; clear hd4)
    | (go_at_call 15; refine (kn2_in H2.out).mono ?_; rintro e w3 ⟨rfl, hd3, hf3⟩; have H3 := Lib.hid hd3; clear hd3)
    | (go_at_call 13; refine (kn1_in H1.out).mono ?_; rintro e w2 ⟨rfl, hd2, hf2⟩; have H2 := Lib.hid hd2; clear hd2)
    | (go_at_call 12; refine (kn0_in w).mono ?_; rintro e w1 ⟨d, rfl, hd1, hf1⟩; have H1 := Lib.hid hd1; clear hd1))
  go_ret
  have hz : ∀ {a b c : World}, Fr (fun i => w.heap.size ≤ i) a b → Fr (fun i => w.heap.size ≤ i) b c → Fr (fun i => w.heap.size ≤ i) a c := fun h k => h.trans k (fun i e => .inl e)
  have h6 := hz (hz (hz (hz (hz (hf1.mono (S' := fun i => w.heap.size ≤ i) (fun i e => e.elim)) hf2) hf3) hf4) hf5) hf6
  exact ⟨rfl, (hz (hz (hz (hz (h6.alloc _) hf7) hf8) hf9) hf10).mono (fun i e => .inr e)⟩
end Go.Proofs.Ytigcokgjikkohaa
