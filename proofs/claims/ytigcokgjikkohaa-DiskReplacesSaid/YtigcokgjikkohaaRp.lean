/- The walk of DiskReplaces. -/
import Derived.Test.YtigcokgjikkohaaRpPd
import Derived.Test.YtigcokgjikkohaaKn2
import Derived.Deep.DeepCutAuto
import Derived.Deep.QuietTactic
namespace Go.Proofs.Ytigcokgjikkohaa
open Go.RowKit Go.Maps Go.Sort
set_option linter.unusedVariables false
set_option linter.unusedSimpArgs false
section
variable {w w' : World} {B d n m : Nat} {s : Pd.PD} {old new : ByteArray}
theorem catR {a b c : World} (h : Fr (fun i => B ≤ i) a b) (k : Fr (fun i => B ≤ i) b c) : Fr (fun i => B ≤ i) a c := h.trans k (fun i e => .inl e)
theorem in_of {r r' : Int × Pd.PD} {k : Nat} {args : Array Value} (hr : r = r') (h : Calls Try.prog k args w (IRet B w d m r)) : Calls Try.prog k args w fun e w' => e = .returned (.int .i64 r'.1) ∧ InTo B w d m r'.2 w' := by
  subst hr; exact h
theorem rp_new (w : World) : Calls Try.prog 12 #[.int .i64 200] w fun e w' => ∃ d, e = .returned (.tuple #[.pointer (some ⟨d, 0, none⟩), .int .i64 0]) ∧ DiskIn w.heap.size w' d 0 (Pd.PD.new 200) ∧ Fr (fun _ => False) w w' :=
  (new_in 200 w (by omega) (Nat.le_refl _)).mono fun e w' ⟨d, h1, _, h2, h3⟩ => ⟨d, h1, h2, h3⟩
theorem rp_c1 (ho : old.size ≤ 50) (h : DiskIn B w d 0 (Pd.PD.new 200)) : Calls Try.prog 13 #[.pointer (some ⟨d, 0, none⟩), .string ⟨#[97]⟩, .string old] w fun e w' => e = .returned (.int .i64 0) ∧ InTo B w d 1 (Pd.rpS old 0 [] [.set ⟨#[97]⟩ 0] none) w' :=
  in_of (Pd.rp_setup ho 0).1 (append_in h (by omega) ⟨#[97]⟩ old (of_decide_eq_true rfl) (by omega))
theorem rp_c2 (ho : old.size ≤ 50) (h : DiskIn B w d 1 (Pd.rpS old 0 [] [.set ⟨#[97]⟩ 0] none)) : Calls Try.prog 15 #[.pointer (some ⟨d, 0, none⟩), .string ⟨#[97]⟩] w fun e w' => e = .returned (.int .i64 0) ∧ InTo B w d 1 (Pd.rpS old old.size [] [.set ⟨#[97]⟩ 0] none) w' :=
  in_of (Pd.rp_setup ho 0).2.1 (sync_in h ⟨#[97]⟩ (of_decide_eq_true rfl))
theorem rp_c3 (ho : old.size ≤ 50) (h : DiskIn B w d 1 (Pd.rpS old old.size [] [.set ⟨#[97]⟩ 0] none)) : Calls Try.prog 14 #[.pointer (some ⟨d, 0, none⟩)] w fun e w' => e = .returned (.int .i64 0) ∧ InTo B w d 1 (Pd.rpS old old.size [(⟨#[97]⟩, 0)] [] none) w' :=
  in_of (Pd.rp_setup ho 0).2.2.1 (publish_in h)
theorem rp_c4 (ho : old.size ≤ 50) (h : DiskIn B w d 1 (Pd.rpS old old.size [(⟨#[97]⟩, 0)] [] none)) (k : Nat) (hk : k < 6) : Calls Try.prog 22 #[.pointer (some ⟨d, 0, none⟩), .int .i64 k] w fun e w' => e = .returned (.int .i64 0) ∧ InTo B w d 1 (Pd.rp0 old k) w' :=
  in_of (Pd.rp_setup ho k).2.2.2 (limit_in h k (by omega))
theorem rp_a0 (ho : old.size ≤ 50) (hn : new.size ≤ 50) (h : DiskIn B w d 1 (Pd.rp0 old 0)) : Calls Try.prog 13 #[.pointer (some ⟨d, 0, none⟩), .string ⟨#[98]⟩, .string new] w fun e w' => e = .returned (.int .i64 32) ∧ InTo B w d 2 (Pd.rp1 old new 0 0 true) w' :=
  in_of (Pd.rp_append ho hn 0).1 (append_in h (by omega) ⟨#[98]⟩ new (of_decide_eq_true rfl) (by omega))
theorem rp_a1 (ho : old.size ≤ 50) (hn : new.size ≤ 50) {k : Nat} (h : DiskIn B w d 1 (Pd.rp0 old (k + 1))) : Calls Try.prog 13 #[.pointer (some ⟨d, 0, none⟩), .string ⟨#[98]⟩, .string new] w fun e w' => e = .returned (.int .i64 0) ∧ InTo B w d 2 (Pd.rp1 old new 0 k false) w' :=
  in_of (Pd.rp_append ho hn k).2 (append_in h (by omega) ⟨#[98]⟩ new (of_decide_eq_true rfl) (by omega))
theorem rp_s0 (h : DiskIn B w d 2 (Pd.rp1 old new 0 0 false)) : Calls Try.prog 15 #[.pointer (some ⟨d, 0, none⟩), .string ⟨#[98]⟩] w fun e w' => e = .returned (.int .i64 32) ∧ InTo B w d 2 (Pd.rp1 old new 0 0 true) w' :=
  in_of (Pd.rp_sync old new 0).1 (sync_in h ⟨#[98]⟩ (of_decide_eq_true rfl))
theorem rp_s1 {k : Nat} (h : DiskIn B w d 2 (Pd.rp1 old new 0 (k + 1) false)) : Calls Try.prog 15 #[.pointer (some ⟨d, 0, none⟩), .string ⟨#[98]⟩] w fun e w' => e = .returned (.int .i64 0) ∧ InTo B w d 2 (Pd.rp1 old new new.size k false) w' :=
  in_of (Pd.rp_sync old new k).2 (sync_in h ⟨#[98]⟩ (of_decide_eq_true rfl))
theorem rp_r0 (h : DiskIn B w d 2 (Pd.rp1 old new new.size 0 false)) : Calls Try.prog 23 #[.pointer (some ⟨d, 0, none⟩), .string ⟨#[98]⟩, .string ⟨#[97]⟩] w fun e w' => e = .returned (.int .i64 32) ∧ InTo B w d 3 (Pd.rp3 old new 0 true) w' :=
  in_of (Pd.rp_rename old new 0).1 (rename_in h (by omega) ⟨#[98]⟩ ⟨#[97]⟩ (of_decide_eq_true rfl) (of_decide_eq_true rfl))
theorem rp_r1 {k : Nat} (h : DiskIn B w d 2 (Pd.rp1 old new new.size (k + 1) false)) : Calls Try.prog 23 #[.pointer (some ⟨d, 0, none⟩), .string ⟨#[98]⟩, .string ⟨#[97]⟩] w fun e w' => e = .returned (.int .i64 0) ∧ InTo B w d 3 (Pd.rp3 old new k false) w' :=
  in_of (Pd.rp_rename old new k).2 (rename_in h (by omega) ⟨#[98]⟩ ⟨#[97]⟩ (of_decide_eq_true rfl) (of_decide_eq_true rfl))
theorem rp_p0 (h : DiskIn B w d 3 (Pd.rp3 old new 0 false)) : Calls Try.prog 14 #[.pointer (some ⟨d, 0, none⟩)] w fun e w' => e = .returned (.int .i64 32) ∧ InTo B w d 3 (Pd.rp3 old new 0 true) w' :=
  in_of (Pd.rp_publish old new 0).1 (publish_in h)
theorem rp_p1 {k : Nat} (h : DiskIn B w d 3 (Pd.rp3 old new (k + 1) false)) : Calls Try.prog 14 #[.pointer (some ⟨d, 0, none⟩)] w fun e w' => e = .returned (.int .i64 0) ∧ InTo B w d 3 (Pd.rp4 old new k) w' :=
  in_of (Pd.rp_publish old new k).2 (publish_in h)
theorem read_of (h : DiskIn B w d n s) {x : ByteArray} (hr : s.read ⟨#[97]⟩ = (x, 0)) : Calls Try.prog 18 #[.pointer (some ⟨d, 0, none⟩), .string ⟨#[97]⟩] w fun e w' => e = .returned (.tuple #[.string x, .int .i64 0]) ∧ w = w' := by
  have := read_in h ⟨#[97]⟩ (of_decide_eq_true rfl)
  rw [hr] at this
  exact this
theorem box_at {b : Nat} {o : Obj} (h : w.heap[b]? = some o) (hf : Fr (fun i => B ≤ i) w w') (hb : b < B) : w'.heap[b]? = some o :=
  (hf.block b (lt_of_some h) (by omega)).trans h
end
/-- The end of the law, behind whatever the four operations did. -/
def RpEnd (B : Nat) (w : World) (d : Nat) (old new : ByteArray) (b : Bool) (w' : World) : Prop :=
  ∃ n s, n < 1000 ∧ DiskIn B w' d n s ∧ (∀ sc, (s.crash.start sc).read ⟨#[97]⟩ = (new, 0) ∨ b = false ∧ (s.crash.start sc).read ⟨#[97]⟩ = (old, 0)) ∧ Fr (fun i => B ≤ i) w w'
set_option maxRecDepth 100000 in
set_option maxHeartbeats 4000000 in
theorem replaces_any (w : World) (old new : ByteArray) (k6 : Nat) (hk6 : k6 ≤ 255) (sa : Option Addr) (scap : Nat) (sc : List Int) (hI : IntsRd w (.slice sa sc.length scap) sc) :
    Calls Try.prog 5 #[.string old, .string new, .agg #[.int .u8 k6, .slice sa sc.length scap]] w fun e w' => e = .returned (.bool true) ∧ Fr (fun _ => False) w w' := by
  have HI := Lib.hid hI
  clear hI
  by_cases ho : old.size ≤ 50
  · by_cases hn : new.size ≤ 50
    · by_cases h12 : sc.length ≤ 12
      · obtain ⟨k, hk, h6⟩ : ∃ k : Nat, k < 6 ∧ k6 % 6 = k := ⟨k6 % 6, Nat.mod_lt _ (by omega), rfl⟩
        have h6a : (k6 : Int) % 6 = (k : Int) := by omega
        have h6b : Int.tmod (k6 : Int) 6 = (k : Int) := by rw [Int.tmod_eq_emod_of_nonneg (by omega)]; exact h6a
        go_enter Try.func5, Try.ntmps5
        go_upto_region 6 with (first
          | (go_at_call 22; refine (rp_c4 ho H5.out k hk).mono ?_; rintro e w6 ⟨rfl, hd6, hf6⟩; have H6 := Lib.hid hd6; have hb6 := box_at hb5 hf6 hbB; clear hd6 hb5 hx0 hx1; have hx0 := cell_at hb6 0; have hx1 := cell_at hb6 1)
          | (go_at_call 14; refine (rp_c3 ho H4.out).mono ?_; rintro e w5 ⟨rfl, hd5, hf5⟩; have H5 := Lib.hid hd5; have hb5 := box_at hb4 hf5 hbB; clear hd5 hb4 hx0 hx1; have hx0 := cell_at hb5 0; have hx1 := cell_at hb5 1)
          | (go_at_call 15; refine (rp_c2 ho H3.out).mono ?_; rintro e w4 ⟨rfl, hd4, hf4⟩; have H4 := Lib.hid hd4; have hb4 := box_at hb3 hf4 hbB; clear hd4 hb3 hx0 hx1; have hx0 := cell_at hb4 0; have hx1 := cell_at hb4 1)
          | (go_at_call 13; refine (rp_c1 ho H2.out).mono ?_; rintro e w3 ⟨rfl, hd3, hf3⟩; have H3 := Lib.hid hd3; have hb3 := box_at hb2 hf3 hbB; clear hd3 hb2 hx0 hx1; have hx0 := cell_at hb3 0; have hx1 := cell_at hb3 1)
          | (go_at_call 12; refine (rp_new w1).mono ?_; rintro e w2 ⟨d, rfl, hd2, hf2⟩; have H2 := Lib.hid hd2; have hb2 := (hf2.block _ hbB (fun e => e)).trans hb1; clear hd2 hb1 hx0 hx1; have hx0 := cell_at hb2 0; have hx1 := cell_at hb2 1)
          | (go_at_call 11; refine (known_any _).mono ?_; rintro e w1 ⟨rfl, hf1⟩; have hb1 := (hf1.block _ (lt_of_some (heap_alloc_this w _)) (fun e => e)).trans (heap_alloc_this w (.cells #[.int .u8 k6, .slice sa sc.length scap] 41 (0, 0))); have hbB := lt_of_some hb1; have hx0 := cell_at hb1 0; have hx1 := cell_at hb1 1))
        have hfa : Fr (fun i => w1.heap.size ≤ i) w w6 := catR (catR (catR (catR (((((Fr.refl (fun _ => False) w).alloc _).trans hf1 (fun i e => e.elim)).trans hf2 (fun i e => e.elim)).mono (fun i e => e.elim)) hf3) hf4) hf5) hf6
        have HFA := Lib.hid hfa
        clear hf1 hf2 hf3 hf4 hf5 hf6 H2 H3 H4 H5 hfa
        have hB : w.heap.size ≤ w1.heap.size := Nat.le_of_lt hbB
        obtain rfl | rfl | rfl | rfl | rfl | rfl : k = 0 ∨ k = 1 ∨ k = 2 ∨ k = 3 ∨ k = 4 ∨ k = 5 := by omega
        · have h6c : Int.tmod (k6 : Int) 6 = 0 := h6b
          have h6d : (k6 : Int) % 6 = 0 := h6a
          clear h6a h6b h6
          have hfin := Pd.rp_fin1 old new 0 0 true sc
          go_wp2_with (first
            | (go_at_call 18; refine (read_of H9.out hfin).mono ?_; rintro e w' ⟨rfl, rfl⟩)
            | (go_at_call 17; refine (start_in H8.out (by omega) (HI.out.kept ((catR (catR (HFA.out) hf7) hf8).mono (fun i e => .inr (Nat.le_trans hB e)))) (by omega)).mono ?_; rintro e w9 ⟨rfl, hd9, hf9⟩; have H9 := Lib.hid hd9; clear hd9)
            | (go_at_call 16; refine (crash_in H7.out).mono ?_; rintro e w8 ⟨rfl, hd8, hf8⟩; have H8 := Lib.hid hd8; have hb8 := box_at hb7 hf8 hbB; clear hd8 hb7 hx0 hx1; have hx0 := cell_at hb8 0; have hx1 := cell_at hb8 1)
            | (go_at_call 13; refine (rp_a0 ho hn H6.out).mono ?_; rintro e w7 ⟨rfl, hd7, hf7⟩; have H7 := Lib.hid hd7; have hb7 := box_at hb6 hf7 hbB; clear hd7 hb6 hx0 hx1; have hx0 := cell_at hb7 0; have hx1 := cell_at hb7 1))
          all_goals (go_ret; exact ⟨rfl, (catR (catR (catR (HFA.out) hf7) hf8) hf9).mono (fun i e => .inr (Nat.le_trans hB e))⟩)
        · have h6c : Int.tmod (k6 : Int) 6 = 1 := h6b
          have h6d : (k6 : Int) % 6 = 1 := h6a
          clear h6a h6b h6
          have hfin := Pd.rp_fin1 old new 0 0 true sc
          go_wp2_with (first
            | (go_at_call 18; refine (read_of H10.out hfin).mono ?_; rintro e w' ⟨rfl, rfl⟩)
            | (go_at_call 17; refine (start_in H9.out (by omega) (HI.out.kept ((catR (catR (catR (HFA.out) hf7) hf8) hf9).mono (fun i e => .inr (Nat.le_trans hB e)))) (by omega)).mono ?_; rintro e w10 ⟨rfl, hd10, hf10⟩; have H10 := Lib.hid hd10; clear hd10)
            | (go_at_call 16; refine (crash_in H8.out).mono ?_; rintro e w9 ⟨rfl, hd9, hf9⟩; have H9 := Lib.hid hd9; have hb9 := box_at hb8 hf9 hbB; clear hd9 hb8 hx0 hx1; have hx0 := cell_at hb9 0; have hx1 := cell_at hb9 1)
            | (go_at_call 15; refine (rp_s0 H7.out).mono ?_; rintro e w8 ⟨rfl, hd8, hf8⟩; have H8 := Lib.hid hd8; have hb8 := box_at hb7 hf8 hbB; clear hd8 hb7 hx0 hx1; have hx0 := cell_at hb8 0; have hx1 := cell_at hb8 1)
            | (go_at_call 13; refine (rp_a1 ho hn H6.out).mono ?_; rintro e w7 ⟨rfl, hd7, hf7⟩; have H7 := Lib.hid hd7; have hb7 := box_at hb6 hf7 hbB; clear hd7 hb6 hx0 hx1; have hx0 := cell_at hb7 0; have hx1 := cell_at hb7 1))
          all_goals (go_ret; exact ⟨rfl, (catR (catR (catR (catR (HFA.out) hf7) hf8) hf9) hf10).mono (fun i e => .inr (Nat.le_trans hB e))⟩)
        · have h6c : Int.tmod (k6 : Int) 6 = 2 := h6b
          have h6d : (k6 : Int) % 6 = 2 := h6a
          clear h6a h6b h6
          rcases Pd.rp_fin3 old new 0 true sc with hfin | hfin
          all_goals
            go_wp2_with (first
              | (go_at_call 18; refine (read_of H11.out hfin).mono ?_; rintro e w' ⟨rfl, rfl⟩)
              | (go_at_call 17; refine (start_in H10.out (by omega) (HI.out.kept ((catR (catR (catR (catR (HFA.out) hf7) hf8) hf9) hf10).mono (fun i e => .inr (Nat.le_trans hB e)))) (by omega)).mono ?_; rintro e w11 ⟨rfl, hd11, hf11⟩; have H11 := Lib.hid hd11; clear hd11)
              | (go_at_call 16; refine (crash_in H9.out).mono ?_; rintro e w10 ⟨rfl, hd10, hf10⟩; have H10 := Lib.hid hd10; have hb10 := box_at hb9 hf10 hbB; clear hd10 hb9 hx0 hx1; have hx0 := cell_at hb10 0; have hx1 := cell_at hb10 1)
              | (go_at_call 23; refine (rp_r0 H8.out).mono ?_; rintro e w9 ⟨rfl, hd9, hf9⟩; have H9 := Lib.hid hd9; have hb9 := box_at hb8 hf9 hbB; clear hd9 hb8 hx0 hx1; have hx0 := cell_at hb9 0; have hx1 := cell_at hb9 1)
              | (go_at_call 15; refine (rp_s1 H7.out).mono ?_; rintro e w8 ⟨rfl, hd8, hf8⟩; have H8 := Lib.hid hd8; have hb8 := box_at hb7 hf8 hbB; clear hd8 hb7 hx0 hx1; have hx0 := cell_at hb8 0; have hx1 := cell_at hb8 1)
              | (go_at_call 13; refine (rp_a1 ho hn H6.out).mono ?_; rintro e w7 ⟨rfl, hd7, hf7⟩; have H7 := Lib.hid hd7; have hb7 := box_at hb6 hf7 hbB; clear hd7 hb6 hx0 hx1; have hx0 := cell_at hb7 0; have hx1 := cell_at hb7 1))
            all_goals (go_ret; exact ⟨rfl, (catR (catR (catR (catR (catR (HFA.out) hf7) hf8) hf9) hf10) hf11).mono (fun i e => .inr (Nat.le_trans hB e))⟩)
        · have h6c : Int.tmod (k6 : Int) 6 = 3 := h6b
          have h6d : (k6 : Int) % 6 = 3 := h6a
          clear h6a h6b h6
          rcases Pd.rp_fin3 old new 0 true sc with hfin | hfin
          all_goals
            go_wp2_with (first
              | (go_at_call 18; refine (read_of H12.out hfin).mono ?_; rintro e w' ⟨rfl, rfl⟩)
              | (go_at_call 17; refine (start_in H11.out (by omega) (HI.out.kept ((catR (catR (catR (catR (catR (HFA.out) hf7) hf8) hf9) hf10) hf11).mono (fun i e => .inr (Nat.le_trans hB e)))) (by omega)).mono ?_; rintro e w12 ⟨rfl, hd12, hf12⟩; have H12 := Lib.hid hd12; clear hd12)
              | (go_at_call 16; refine (crash_in H10.out).mono ?_; rintro e w11 ⟨rfl, hd11, hf11⟩; have H11 := Lib.hid hd11; have hb11 := box_at hb10 hf11 hbB; clear hd11 hb10 hx0 hx1; have hx0 := cell_at hb11 0; have hx1 := cell_at hb11 1)
              | (go_at_call 14; refine (rp_p0 H9.out).mono ?_; rintro e w10 ⟨rfl, hd10, hf10⟩; have H10 := Lib.hid hd10; have hb10 := box_at hb9 hf10 hbB; clear hd10 hb9 hx0 hx1; have hx0 := cell_at hb10 0; have hx1 := cell_at hb10 1)
              | (go_at_call 23; refine (rp_r1 H8.out).mono ?_; rintro e w9 ⟨rfl, hd9, hf9⟩; have H9 := Lib.hid hd9; have hb9 := box_at hb8 hf9 hbB; clear hd9 hb8 hx0 hx1; have hx0 := cell_at hb9 0; have hx1 := cell_at hb9 1)
              | (go_at_call 15; refine (rp_s1 H7.out).mono ?_; rintro e w8 ⟨rfl, hd8, hf8⟩; have H8 := Lib.hid hd8; have hb8 := box_at hb7 hf8 hbB; clear hd8 hb7 hx0 hx1; have hx0 := cell_at hb8 0; have hx1 := cell_at hb8 1)
              | (go_at_call 13; refine (rp_a1 ho hn H6.out).mono ?_; rintro e w7 ⟨rfl, hd7, hf7⟩; have H7 := Lib.hid hd7; have hb7 := box_at hb6 hf7 hbB; clear hd7 hb6 hx0 hx1; have hx0 := cell_at hb7 0; have hx1 := cell_at hb7 1))
            all_goals (go_ret; exact ⟨rfl, (catR (catR (catR (catR (catR (catR (HFA.out) hf7) hf8) hf9) hf10) hf11) hf12).mono (fun i e => .inr (Nat.le_trans hB e))⟩)
        · have h6c : Int.tmod (k6 : Int) 6 = 4 := h6b
          have h6d : (k6 : Int) % 6 = 4 := h6a
          clear h6a h6b h6
          have hfin := Pd.rp_fin4 old new 0 sc
          go_wp2_with (first
            | (go_at_call 18; refine (read_of H12.out hfin).mono ?_; rintro e w' ⟨rfl, rfl⟩)
            | (go_at_call 17; refine (start_in H11.out (by omega) (HI.out.kept ((catR (catR (catR (catR (catR (HFA.out) hf7) hf8) hf9) hf10) hf11).mono (fun i e => .inr (Nat.le_trans hB e)))) (by omega)).mono ?_; rintro e w12 ⟨rfl, hd12, hf12⟩; have H12 := Lib.hid hd12; clear hd12)
            | (go_at_call 16; refine (crash_in H10.out).mono ?_; rintro e w11 ⟨rfl, hd11, hf11⟩; have H11 := Lib.hid hd11; have hb11 := box_at hb10 hf11 hbB; clear hd11 hb10 hx0 hx1; have hx0 := cell_at hb11 0; have hx1 := cell_at hb11 1)
            | (go_at_call 14; refine (rp_p1 H9.out).mono ?_; rintro e w10 ⟨rfl, hd10, hf10⟩; have H10 := Lib.hid hd10; have hb10 := box_at hb9 hf10 hbB; clear hd10 hb9 hx0 hx1; have hx0 := cell_at hb10 0; have hx1 := cell_at hb10 1)
            | (go_at_call 23; refine (rp_r1 H8.out).mono ?_; rintro e w9 ⟨rfl, hd9, hf9⟩; have H9 := Lib.hid hd9; have hb9 := box_at hb8 hf9 hbB; clear hd9 hb8 hx0 hx1; have hx0 := cell_at hb9 0; have hx1 := cell_at hb9 1)
            | (go_at_call 15; refine (rp_s1 H7.out).mono ?_; rintro e w8 ⟨rfl, hd8, hf8⟩; have H8 := Lib.hid hd8; have hb8 := box_at hb7 hf8 hbB; clear hd8 hb7 hx0 hx1; have hx0 := cell_at hb8 0; have hx1 := cell_at hb8 1)
            | (go_at_call 13; refine (rp_a1 ho hn H6.out).mono ?_; rintro e w7 ⟨rfl, hd7, hf7⟩; have H7 := Lib.hid hd7; have hb7 := box_at hb6 hf7 hbB; clear hd7 hb6 hx0 hx1; have hx0 := cell_at hb7 0; have hx1 := cell_at hb7 1))
          all_goals (go_ret; exact ⟨rfl, (catR (catR (catR (catR (catR (catR (HFA.out) hf7) hf8) hf9) hf10) hf11) hf12).mono (fun i e => .inr (Nat.le_trans hB e))⟩)
        · have h6c : Int.tmod (k6 : Int) 6 = 5 := h6b
          have h6d : (k6 : Int) % 6 = 5 := h6a
          clear h6a h6b h6
          have hfin := Pd.rp_fin4 old new 1 sc
          go_wp2_with (first
            | (go_at_call 18; refine (read_of H12.out hfin).mono ?_; rintro e w' ⟨rfl, rfl⟩)
            | (go_at_call 17; refine (start_in H11.out (by omega) (HI.out.kept ((catR (catR (catR (catR (catR (HFA.out) hf7) hf8) hf9) hf10) hf11).mono (fun i e => .inr (Nat.le_trans hB e)))) (by omega)).mono ?_; rintro e w12 ⟨rfl, hd12, hf12⟩; have H12 := Lib.hid hd12; clear hd12)
            | (go_at_call 16; refine (crash_in H10.out).mono ?_; rintro e w11 ⟨rfl, hd11, hf11⟩; have H11 := Lib.hid hd11; have hb11 := box_at hb10 hf11 hbB; clear hd11 hb10 hx0 hx1; have hx0 := cell_at hb11 0; have hx1 := cell_at hb11 1)
            | (go_at_call 14; refine (rp_p1 H9.out).mono ?_; rintro e w10 ⟨rfl, hd10, hf10⟩; have H10 := Lib.hid hd10; have hb10 := box_at hb9 hf10 hbB; clear hd10 hb9 hx0 hx1; have hx0 := cell_at hb10 0; have hx1 := cell_at hb10 1)
            | (go_at_call 23; refine (rp_r1 H8.out).mono ?_; rintro e w9 ⟨rfl, hd9, hf9⟩; have H9 := Lib.hid hd9; have hb9 := box_at hb8 hf9 hbB; clear hd9 hb8 hx0 hx1; have hx0 := cell_at hb9 0; have hx1 := cell_at hb9 1)
            | (go_at_call 15; refine (rp_s1 H7.out).mono ?_; rintro e w8 ⟨rfl, hd8, hf8⟩; have H8 := Lib.hid hd8; have hb8 := box_at hb7 hf8 hbB; clear hd8 hb7 hx0 hx1; have hx0 := cell_at hb8 0; have hx1 := cell_at hb8 1)
            | (go_at_call 13; refine (rp_a1 ho hn H6.out).mono ?_; rintro e w7 ⟨rfl, hd7, hf7⟩; have H7 := Lib.hid hd7; have hb7 := box_at hb6 hf7 hbB; clear hd7 hb6 hx0 hx1; have hx0 := cell_at hb7 0; have hx1 := cell_at hb7 1))
          all_goals (go_ret; exact ⟨rfl, (catR (catR (catR (catR (catR (catR (HFA.out) hf7) hf8) hf9) hf10) hf11) hf12).mono (fun i e => .inr (Nat.le_trans hB e))⟩)
      · go_enter Try.func5, Try.ntmps5
        go_wp2_with (first
          | (go_at_call 11; refine (known_any w1).mono ?_; rintro e w2 ⟨rfl, hf2⟩)
          | (go_at_call 11; refine (known_any _).mono ?_; rintro e w1 ⟨rfl, hf1⟩; have hb1 := (hf1.block _ (lt_of_some (heap_alloc_this w _)) (fun e => e)).trans (heap_alloc_this w (.cells #[.int .u8 k6, .slice sa sc.length scap] 41 (0, 0))); have hx0 := cell_at hb1 0; have hx1 := cell_at hb1 1))
        go_ret
        exact ⟨rfl, (((Fr.refl (fun _ => False) w).alloc _).trans hf1 (fun i e => e.elim)).trans hf2 (fun i e => e.elim)⟩
    · go_enter Try.func5, Try.ntmps5
      go_wp2_with (first
        | (go_at_call 11; refine (known_any w1).mono ?_; rintro e w2 ⟨rfl, hf2⟩)
        | (go_at_call 11; refine (known_any _).mono ?_; rintro e w1 ⟨rfl, hf1⟩; have hb1 := (hf1.block _ (lt_of_some (heap_alloc_this w _)) (fun e => e)).trans (heap_alloc_this w (.cells #[.int .u8 k6, .slice sa sc.length scap] 41 (0, 0))); have hx0 := cell_at hb1 0; have hx1 := cell_at hb1 1))
      go_ret
      exact ⟨rfl, (((Fr.refl (fun _ => False) w).alloc _).trans hf1 (fun i e => e.elim)).trans hf2 (fun i e => e.elim)⟩
  · go_enter Try.func5, Try.ntmps5
    go_wp2_with (first
      | (go_at_call 11; refine (known_any w1).mono ?_; rintro e w2 ⟨rfl, hf2⟩)
      | (go_at_call 11; refine (known_any _).mono ?_; rintro e w1 ⟨rfl, hf1⟩; have hb1 := (hf1.block _ (lt_of_some (heap_alloc_this w _)) (fun e => e)).trans (heap_alloc_this w (.cells #[.int .u8 k6, .slice sa sc.length scap] 41 (0, 0))); have hx0 := cell_at hb1 0; have hx1 := cell_at hb1 1))
    go_ret
    exact ⟨rfl, (((Fr.refl (fun _ => False) w).alloc _).trans hf1 (fun i e => e.elim)).trans hf2 (fun i e => e.elim)⟩
end Go.Proofs.Ytigcokgjikkohaa
