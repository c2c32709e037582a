/- The walk of DiskNames. -/
import Derived.Test.YtigcokgjikkohaaPr
namespace Go.Proofs.Ytigcokgjikkohaa
open Go.RowKit Go.Maps Go.Sort
set_option linter.unusedVariables false
set_option linter.unusedSimpArgs false
def Pd.na1 : Int × Pd.PD := (Pd.PD.new 60).append ⟨#[97, 46, 48, 45, 122]⟩ ⟨#[102, 105, 114, 115, 116, 32, 98, 121, 116, 101, 115]⟩
theorem Pd.na1_files : Pd.na1.2.files.length = 1 := by kernel_rfl
section
variable {w w' : World} {B d n m k : Nat} {s t s' : Pd.PD} {q : Int × Pd.PD} {r : Int} {args : Array Value}
theorem pr_eq (hq : q = (r, s')) (h : Calls Try.prog k args w (PRet B w d n m q.1 q.2 t)) : Calls Try.prog k args w (PRet B w d n m r s' t) := by subst hq; exact h
theorem pr_eq' (hq : q = (r, s')) (h : Calls Try.prog k args w (PRet B w d n m q.1 s q.2)) : Calls Try.prog k args w (PRet B w d n m r s s') := by subst hq; exact h
theorem catP {a b c : World} (h : Fr (fun i => B ≤ i) a b) (k : Fr (fun i => B ≤ i) b c) : Fr (fun i => B ≤ i) a c := h.trans k (fun i e => .inl e)
theorem na_new (w : World) : Calls Try.prog 12 #[.int .i64 60] w fun e w' => ∃ d, e = .returned (.tuple #[.pointer (some ⟨d, 0, none⟩), .int .i64 0]) ∧ DiskIn w.heap.size w' d 0 (Pd.PD.new 60) ∧ Fr (fun _ => False) w w' :=
  (new_in 60 w (by omega) (Nat.le_refl _)).mono fun e w' ⟨d, h1, _, h2, h3⟩ => ⟨d, h1, h2, h3⟩
theorem na_pair (h : DiskIn B w d 0 (Pd.PD.new 60)) (hB : B ≤ w.heap.size) : PairAt B (w.alloc (.cells #[.int .i64 60, .int .i64 (-1), .bool false, .slice none 0 0, .slice none 0 0, .slice none 0 0, .slice none 0 0] 56 (0, 0))) d 0 w.heap.size (Pd.PD.new 60) (Pd.PD.new 60) := pair_new (cap := 60) h hB
theorem na_d1 (h : PairAt B w d 0 m (Pd.PD.new 60) t) : Calls Try.prog 13 #[.pointer (some ⟨d, 0, none⟩), .string ⟨#[97, 46, 48, 45, 122]⟩, .string ⟨#[102, 105, 114, 115, 116, 32, 98, 121, 116, 101, 115]⟩] w (PRet B w d 1 m Pd.na1.1 Pd.na1.2 t) :=
  pd_append h (by omega) ⟨#[97, 46, 48, 45, 122]⟩ ⟨#[102, 105, 114, 115, 116, 32, 98, 121, 116, 101, 115]⟩ (of_decide_eq_true rfl) (of_decide_eq_true rfl)
theorem na_m1 (h : PairAt B w d n m s (Pd.PD.new 60)) : Calls Try.prog 28 #[.pointer (some ⟨m, 0, none⟩), .string ⟨#[97, 46, 48, 45, 122]⟩, .string ⟨#[102, 105, 114, 115, 116, 32, 98, 121, 116, 101, 115]⟩] w (PRet B w d n m Pd.na1.1 s Pd.na1.2) :=
  pm_append h (Pd.Inv.new (by omega)) (by omega) (of_decide_eq_true rfl) ⟨#[97, 46, 48, 45, 122]⟩ ⟨#[102, 105, 114, 115, 116, 32, 98, 121, 116, 101, 115]⟩ (of_decide_eq_true rfl) (of_decide_eq_true rfl)
theorem read_has (s : Pd.PD) (k : ByteArray) : ((s.read k).2 = 0 ∧ (!s.down && (Pd.find s.names k).isSome) = true) ∨ (¬ (s.read k).2 = 0 ∧ ((s.read k).2 == 0) = false ∧ (!s.down && (Pd.find s.names k).isSome) = false) := by
  unfold Pd.PD.read
  cases s.down with
  | true => exact .inr ⟨by simp, by simp, rfl⟩
  | false =>
    cases Pd.find s.names k with
    | none => exact .inr ⟨by simp, by simp, rfl⟩
    | some i => exact .inl ⟨rfl, rfl⟩
end
set_option maxRecDepth 100000 in
set_option maxHeartbeats 1500000 in
theorem names_law (w : World) (a b z : ByteArray) : Calls Try.prog 8 #[.string a, .string b, .string z] w fun e w' => e = .returned (.bool true) ∧ Fr (fun _ => False) w w' := by
  by_cases ha : a.size ≤ 50
  · by_cases hb : b.size ≤ 50
    · by_cases hz : z.size ≤ 50
      · obtain ⟨s1, hs1⟩ : ∃ s, Pd.na1.2 = s := ⟨_, rfl⟩
        obtain ⟨r2, s2, q2⟩ : ∃ r s, s1.append a z = (r, s) := ⟨_, _, rfl⟩
        obtain ⟨r3, s3, q3⟩ : ∃ r s, s2.rename a b = (r, s) := ⟨_, _, rfl⟩
        obtain ⟨r4, s4, q4⟩ : ∃ r s, s3.sync b = (r, s) := ⟨_, _, rfl⟩
        obtain ⟨r5, s5, q5⟩ : ∃ r s, s4.remove a = (r, s) := ⟨_, _, rfl⟩
        obtain ⟨r6, s6, q6⟩ : ∃ r s, s5.publish = (r, s) := ⟨_, _, rfl⟩
        have hfl : s1.files.length ≤ 1000000 := by rw [← hs1, Pd.na1_files]; omega
        have HS1 := Lib.hid hs1
        have Q2 := Lib.hid q2
        have Q3 := Lib.hid q3
        have Q4 := Lib.hid q4
        have Q5 := Lib.hid q5
        have Q6 := Lib.hid q6
        have HR := Lib.hid (read_has s5 a)
        have HR2 := Lib.hid (read_has s5 b)
        have HFL := Lib.hid hfl
        clear hs1 q2 q3 q4 q5 q6 hfl
        obtain ⟨x1, hx1⟩ : ∃ x, Pd.na1.1 = x := ⟨_, rfl⟩
        go_enter Try.func8, Try.ntmps8
        go_upto_region 7 with (first
          | (go_at_call 28; refine (na_m1 H3.out).mono ?_; rintro e w4 ⟨rfl, hp4, hf4⟩; rw [HS1.out] at hp4; have H4 := Lib.hid hp4; clear hp4)
          | (go_at_call 13; refine (na_d1 HP.out).mono ?_; rintro e w3 ⟨rfl, hp3, hf3⟩; have H3 := Lib.hid hp3; clear hp3)
          | (go_at_call 12; refine (na_new w1).mono ?_; rintro e w2 ⟨d, rfl, hd2, hf2⟩; have HP := Lib.hid (na_pair hd2 hf2.size); clear hd2)
          | (go_at_call 11; refine (known_any w).mono ?_; rintro e w1 ⟨rfl, hf1⟩; skip))
        have hfa : Fr (fun i => w1.heap.size ≤ i) w w4 := catP (catP (((hf1.trans hf2 (fun i e => e.elim)).alloc _).mono (fun i e => e.elim)) hf3) hf4
        have HFA := Lib.hid hfa
        have hB := hf1.size
        clear hf1 hf2 hf3 hf4 hfa HP H3
        go_upto_region 9 with (first
          | (go_at_call 26; refine (pair_agrees H14.out).mono ?_; rintro e w15 ⟨rfl, hp15, hf15⟩; have H15 := Lib.hid hp15; clear hp15)
          | (go_at_call 32; refine (pr_eq' Q5.out (pm_remove H13.out H12.out.disk.1 (by omega) a)).mono ?_; rintro e w14 ⟨rfl, hp14, hf14⟩; have H14 := Lib.hid hp14; clear hp14)
          | (go_at_call 31; refine (pr_eq Q5.out (pd_remove H12.out (by omega) a (by omega))).mono ?_; rintro e w13 ⟨rfl, hp13, hf13⟩; have H13 := Lib.hid hp13; clear hp13)
          | (go_at_call 30; refine (pr_eq' Q4.out (pm_sync H11.out H10.out.disk.1 b)).mono ?_; rintro e w12 ⟨rfl, hp12, hf12⟩; have H12 := Lib.hid hp12; clear hp12)
          | (go_at_call 15; refine (pr_eq Q4.out (pd_sync H10.out b (by omega))).mono ?_; rintro e w11 ⟨rfl, hp11, hf11⟩; have H11 := Lib.hid hp11; clear hp11)
          | (go_at_call 26; refine (pair_agrees H9.out).mono ?_; rintro e w10 ⟨rfl, hp10, hf10⟩; have H10 := Lib.hid hp10; clear hp10)
          | (go_at_call 29; refine (pr_eq' Q3.out (pm_rename H8.out H7.out.disk.1 (by omega) a b (by omega))).mono ?_; rintro e w9 ⟨rfl, hp9, hf9⟩; have H9 := Lib.hid hp9; clear hp9)
          | (go_at_call 23; refine (pr_eq Q3.out (pd_rename H7.out (by omega) a b (by omega) (by omega))).mono ?_; rintro e w8 ⟨rfl, hp8, hf8⟩; have H8 := Lib.hid hp8; clear hp8)
          | (go_at_call 26; refine (pair_agrees H6.out).mono ?_; rintro e w7 ⟨rfl, hp7, hf7⟩; have H7 := Lib.hid hp7; clear hp7)
          | (go_at_call 28; refine (pr_eq' Q2.out (pm_append H5.out H4.out.disk.1 (by omega) HFL.out a z (by omega) (by omega))).mono ?_; rintro e w6 ⟨rfl, hp6, hf6⟩; have H6 := Lib.hid hp6; clear hp6)
          | (go_at_call 13; refine (pr_eq Q2.out (pd_append H4.out (by omega) a z (by omega) (by omega))).mono ?_; rintro e w5 ⟨rfl, hp5, hf5⟩; have H5 := Lib.hid hp5; clear hp5))
        have hfb := (catP (catP (catP (catP (catP (catP (catP (catP (catP (catP (catP HFA.out hf5) hf6) hf7) hf8) hf9) hf10) hf11) hf12) hf13) hf14) hf15)
        have HFB := Lib.hid hfb
        clear hf5 hf6 hf7 hf8 hf9 hf10 hf11 hf12 hf13 hf14 hf15 hfb H4 H5 H6 H7 H8 H9 H10 H11 H12 H13 H14
        rcases HR.out with ⟨hr1, hh1⟩ | ⟨hr1, hq1, hh1⟩ <;> rcases HR2.out with ⟨hr2, hh2⟩ | ⟨hr2, hq2, hh2⟩
        all_goals
          go_wp2_with (first
            | (go_at_call 26; refine (pair_agrees H17.out).mono ?_; rintro e w18 ⟨rfl, hp18, hf18⟩; have H18 := Lib.hid hp18; clear hp18)
            | (go_at_call 35; refine (pr_eq' Q6.out (pm_publish H16.out)).mono ?_; rintro e w17 ⟨rfl, hp17, hf17⟩; have H17 := Lib.hid hp17; clear hp17)
            | (go_at_call 14; refine (pr_eq Q6.out (pd_publish H15.out)).mono ?_; rintro e w16 ⟨rfl, hp16, hf16⟩; have H16 := Lib.hid hp16; clear hp16)
            | (go_at_call 34; have _g := G1; refine (pair_has H15.out b).mono ?_; rintro e w' ⟨rfl, rfl⟩; rw [hh2])
            | (go_at_call 34; refine (pair_has H15.out a).mono ?_; rintro e w' ⟨rfl, rfl⟩; rw [hh1]; have G1 := hh1)
            | (go_at_call 18; refine (read_in H15.out.disk b (by omega)).mono ?_; rintro e w' ⟨rfl, rfl⟩; skip)
            | (go_at_call 33; refine (size_in H15.out.disk a (by omega)).mono ?_; rintro e w' ⟨rfl, rfl⟩; skip))
          go_ret
          exact ⟨rfl, (catP (catP (catP HFB.out hf16) hf17) hf18).mono (fun i e => .inr (Nat.le_trans hB e))⟩
      · go_enter Try.func8, Try.ntmps8
        go_wp2_with (first
          | (go_at_call 11; refine (known_any w1).mono ?_; rintro e w2 ⟨rfl, hf2⟩)
          | (go_at_call 11; refine (known_any w).mono ?_; rintro e w1 ⟨rfl, hf1⟩))
        go_ret
        exact ⟨rfl, hf1.trans hf2 (fun i e => e.elim)⟩
    · go_enter Try.func8, Try.ntmps8
      go_wp2_with (first
        | (go_at_call 11; refine (known_any w1).mono ?_; rintro e w2 ⟨rfl, hf2⟩)
        | (go_at_call 11; refine (known_any w).mono ?_; rintro e w1 ⟨rfl, hf1⟩))
      go_ret
      exact ⟨rfl, hf1.trans hf2 (fun i e => e.elim)⟩
  · go_enter Try.func8, Try.ntmps8
    go_wp2_with (first
      | (go_at_call 11; refine (known_any w1).mono ?_; rintro e w2 ⟨rfl, hf2⟩)
      | (go_at_call 11; refine (known_any w).mono ?_; rintro e w1 ⟨rfl, hf1⟩))
    go_ret
    exact ⟨rfl, hf1.trans hf2 (fun i e => e.elim)⟩
end Go.Proofs.Ytigcokgjikkohaa
