/- The walk of DiskKeeps. -/
import Derived.Test.YtigcokgjikkohaaAc2
namespace Go.Proofs.Ytigcokgjikkohaa
open Go.RowKit Go.Maps Go.Sort
set_option linter.unusedVariables false
set_option linter.unusedSimpArgs false
namespace Pd
def keN : ByteArray := ⟨#[107, 101, 112, 116]⟩
def keA (z : ByteArray) : PD := ((PD.new 1000).append ⟨#[107, 101, 112, 116]⟩ z).2
def keS (z : ByteArray) : PD := ((keA z).sync ⟨#[107, 101, 112, 116]⟩).2
theorem start_down (s : PD) (sc : List Int) : (s.crash.start sc).down = false := by
  unfold PD.start
  rw [if_neg (by show ¬ true = false; decide)]
theorem kept_ne {x : ByteArray} (h : ¬ x.toList = [107, 101, 112, 116]) : x ≠ ⟨#[107, 101, 112, 116]⟩ := by
  rintro rfl
  exact h (by rw [ByteArray.toList_eq])
end Pd
section
variable {w w' : World} {B d n m : Nat} {s : Pd.PD} {z : ByteArray}
theorem catK {a b c : World} (h : Fr (fun i => B ≤ i) a b) (k : Fr (fun i => B ≤ i) b c) : Fr (fun i => B ≤ i) a c := h.trans k (fun i e => .inl e)
theorem ke_new (w : World) : Calls Try.prog 12 #[.int .i64 1000] w fun e w' => ∃ d, e = .returned (.tuple #[.pointer (some ⟨d, 0, none⟩), .int .i64 0]) ∧ DiskIn w.heap.size w' d 0 (Pd.PD.new 1000) ∧ Fr (fun _ => False) w w' :=
  (new_in 1000 w (by omega) (Nat.le_refl _)).mono fun e w' ⟨d, h1, _, h2, h3⟩ => ⟨d, h1, h2, h3⟩
theorem ke_c1 (hz : z.size ≤ 50) (h : DiskIn B w d 0 (Pd.PD.new 1000)) : Calls Try.prog 13 #[.pointer (some ⟨d, 0, none⟩), .string ⟨#[107, 101, 112, 116]⟩, .string z] w fun e w' => e = .returned (.int .i64 0) ∧ InTo B w d 1 (Pd.keA z) w' :=
  iret_of (m := 1) (Pd.keep_new hz).1 (append_in h (by omega) ⟨#[107, 101, 112, 116]⟩ z (of_decide_eq_true rfl) (by omega))
theorem ke_c2 (hz : z.size ≤ 50) (h : DiskIn B w d 1 (Pd.keA z)) : Calls Try.prog 15 #[.pointer (some ⟨d, 0, none⟩), .string ⟨#[107, 101, 112, 116]⟩] w fun e w' => e = .returned (.int .i64 0) ∧ InTo B w d 1 (Pd.keS z) w' :=
  iret_of (m := 1) (Pd.keep_new hz).2.1 (sync_in h ⟨#[107, 101, 112, 116]⟩ (of_decide_eq_true rfl))
theorem ke_c3 (hz : z.size ≤ 50) (h : DiskIn B w d 1 (Pd.keS z)) : Calls Try.prog 14 #[.pointer (some ⟨d, 0, none⟩)] w fun e w' => e = .returned (.int .i64 0) ∧ ∃ s, Pd.Keep ⟨#[107, 101, 112, 116]⟩ z s ∧ InTo B w d 1 s w' :=
  (iret_of (m := 1) (Pd.keep_new hz).2.2.1 (publish_in h)).mono fun e w' ⟨h1, h2⟩ => ⟨h1, _, (Pd.keep_new hz).2.2.2, h2⟩
theorem ke_act {x : PAct} (h : DiskIn B w d n s) (hk : Pd.Keep ⟨#[107, 101, 112, 116]⟩ z s) (hn : n < 1000000) (hok : ActOk w x) (hs : x.small = true) (ha : x.name ≠ ⟨#[107, 101, 112, 116]⟩) (hb : x.dst ≠ ⟨#[107, 101, 112, 116]⟩) :
    Calls Try.prog 25 #[.pointer (some ⟨d, 0, none⟩), .agg #[.int .u8 x.kind, .string x.name, .string x.dst, .int .i8 x.num, .slice x.sa x.script.length x.scap]] w fun e w' => ∃ r s', e = .returned (.int .i64 r) ∧ Pd.Keep ⟨#[107, 101, 112, 116]⟩ z s' ∧ InTo B w d (n + 1) s' w' :=
  (act_in h hn hok hs).mono fun e w' ⟨h1, h2⟩ => ⟨_, _, h1, hk.act x.kind x.num x.script ha hb, h2⟩
theorem ke_read (h : DiskIn B w d n s) (hk : Pd.Keep ⟨#[107, 101, 112, 116]⟩ z s) (hd : s.down = false) : Calls Try.prog 18 #[.pointer (some ⟨d, 0, none⟩), .string ⟨#[107, 101, 112, 116]⟩] w fun e w' => e = .returned (.tuple #[.string z, .int .i64 0]) ∧ w = w' := by
  have := read_in h ⟨#[107, 101, 112, 116]⟩ (of_decide_eq_true rfl)
  rw [hk.read hd] at this
  exact this
theorem ke_start (h : DiskIn B w d n s.crash) (hn : n < 1000000) : Calls Try.prog 17 #[.pointer (some ⟨d, 0, none⟩), .slice none 0 0] w fun e w' => e = .returned (.tuple #[]) ∧ InTo B w d n (s.crash.start []) w' :=
  start_in h hn (sc := []) ⟨by simp, .inl ⟨rfl, rfl⟩⟩ (by simp)
end
set_option maxRecDepth 100000 in
set_option maxHeartbeats 4000000 in
theorem keeps_any (w : World) (z : ByteArray) (a : Option Addr) (cap : Nat) (l : List PAct) (h : ActsRd w (.slice a l.length cap) l) :
    Calls Try.prog 6 #[.string z, .slice a l.length cap] w fun e w' => e = .returned (.bool true) ∧ Fr (fun _ => False) w w' := by
  have H := Lib.hid h
  clear h
  by_cases hfew : fewB l = true
  · by_cases h20 : l.length ≤ 20
    · by_cases hz : z.size ≤ 50
      · go_enter Try.func6, Try.ntmps6
        go_upto_region 6 with (first
          | (go_at_call 14; refine (ke_c3 hz H4.out).mono ?_; rintro e w5 ⟨rfl, s0, hk0, hd5, hf5⟩; have H5 := Lib.hid hd5; have K5 := Lib.hid hk0; clear hd5 hk0)
          | (go_at_call 15; refine (ke_c2 hz H3.out).mono ?_; rintro e w4 ⟨rfl, hd4, hf4⟩; have H4 := Lib.hid hd4; clear hd4)
          | (go_at_call 13; refine (ke_c1 hz H2.out).mono ?_; rintro e w3 ⟨rfl, hd3, hf3⟩; have H3 := Lib.hid hd3; clear hd3)
          | (go_at_call 12; refine (ke_new w1).mono ?_; rintro e w2 ⟨d, rfl, hd2, hf2⟩; have H2 := Lib.hid hd2; clear hd2)
          | (go_at_call 24; refine (few_any w1 a cap l (H.out.kept hf1 (fun b e => e.elim))).mono ?_; rintro e w' ⟨rfl, rfl⟩)
          | (go_at_call 11; refine (known_any _).mono ?_; rintro e w1 ⟨rfl, hf1⟩))
        have hfa : Fr (fun i => w1.heap.size ≤ i) w w5 := catK (catK (catK ((hf1.trans hf2 (fun i e => e.elim)).mono (fun i e => e.elim)) hf3) hf4) hf5
        have hB := hf1.size
        have HFA := Lib.hid hfa
        clear hf1 hf2 hf3 hf4 hf5 H2 H3 H4 hfa
        go_upto_region 7 with (fail)
        go_loopw [7] (fun i wr => ∃ (j : Nat) (s : Pd.PD), i = .int .i64 j ∧ j ≤ l.length ∧ DiskIn w1.heap.size wr d (j + 1) s ∧ Pd.Keep ⟨#[107, 101, 112, 116]⟩ z s ∧ Fr (fun i => w1.heap.size ≤ i) w wr) (fun i wr => l.length - (intOf i).toNat)
        case atStart => exact ⟨0, s0, rfl, Nat.zero_le _, H5.out, K5.out, HFA.out⟩
        case round =>
          obtain ⟨j, s, rfl, hj, hD, hK, hF⟩ := hrel
          have HD := Lib.hid hD
          have HF := Lib.hid hF
          have HK := Lib.hid hK
          clear hK
          by_cases hlt : j < l.length
          · obtain ⟨b, c, x, rfl, hx, hok, hc, HC⟩ := (H.out.kept hF (fun b e => Nat.le_trans hB e)).at hlt
            have hsm : x.small = true := by
              simp only [fewB, Bool.and_eq_true, List.all_eq_true] at hfew
              exact hfew.1 x (List.mem_of_getElem? hx)
            have HOK := Lib.hid hok
            have HC := HC
            obtain ⟨c0, c1, c2, c3, c4⟩ := HC
            clear hD hF hok
            by_cases hn : x.name.toList = [107, 101, 112, 116]
            · go_wp2
              exact ⟨⟨j + 1, s, by go_num, by omega, HD.out.mono (by omega), HK.out, HF.out⟩, by simp [intOf]; omega⟩
            · by_cases hm : x.dst.toList = [107, 101, 112, 116]
              · go_wp2
                exact ⟨⟨j + 1, s, by go_num, by omega, HD.out.mono (by omega), HK.out, HF.out⟩, by simp [intOf]; omega⟩
              · have hnb : (x.name.toList == [107, 101, 112, 116]) = false := by simpa using hn
                have hmb : (x.dst.toList == [107, 101, 112, 116]) = false := by simpa using hm
                go_wp2_with (first
                  | (go_at_call 18; refine (ke_read HD2.out HK2.out hdn).mono ?_; rintro e w' ⟨rfl, rfl⟩)
                  | (go_at_call 21; refine (down_in HD2.out).mono ?_; rintro e w' ⟨rfl, rfl⟩; rcases Bool.eq_false_or_eq_true s2.down with hdn | hdn <;> rw [hdn])
                  | (go_at_call 25; refine (ke_act HD.out HK.out (by omega) HOK.out hsm (Pd.kept_ne hn) (Pd.kept_ne hm)).mono ?_; rintro e w2 ⟨r, s2, rfl, hk2, hd2, hf2⟩; have HD2 := Lib.hid hd2; have HK2 := Lib.hid hk2; clear hd2 hk2))
                all_goals exact ⟨⟨j + 1, s2, by go_num, by omega, HD2.out, HK2.out, catK HF.out hf2⟩, by simp [intOf]; omega⟩
          · obtain rfl : j = l.length := by omega
            clear hD hF
            go_wp2_with (first
              | (go_at_call 18; refine (ke_read HD2.out (HK.out.crash.start []) (Pd.start_down s [])).mono ?_; rintro e w' ⟨rfl, rfl⟩)
              | (go_at_call 17; refine (ke_start HD1.out (by omega)).mono ?_; rintro e w8 ⟨rfl, hd8, hf8⟩; have HD2 := Lib.hid hd8; clear hd8)
              | (go_at_call 16; refine (crash_in HD.out).mono ?_; rintro e w7 ⟨rfl, hd7, hf7⟩; have HD1 := Lib.hid hd7; clear hd7))
            go_ret
            exact ⟨rfl, (catK (catK HF.out hf7) hf8).mono (fun i e => .inr (Nat.le_trans hB e))⟩
      · go_enter Try.func6, Try.ntmps6
        go_wp2_with (first
          | (go_at_call 11; refine (known_any w1).mono ?_; rintro e w2 ⟨rfl, hf2⟩)
          | (go_at_call 24; refine (few_any w1 a cap l (H.out.kept hf1 (fun b e => e.elim))).mono ?_; rintro e w' ⟨rfl, rfl⟩)
          | (go_at_call 11; refine (known_any w).mono ?_; rintro e w1 ⟨rfl, hf1⟩))
        go_ret
        exact ⟨rfl, hf1.trans hf2 (fun i e => e.elim)⟩
    · go_enter Try.func6, Try.ntmps6
      go_wp2_with (first
        | (go_at_call 11; refine (known_any w1).mono ?_; rintro e w2 ⟨rfl, hf2⟩)
        | (go_at_call 24; refine (few_any w1 a cap l (H.out.kept hf1 (fun b e => e.elim))).mono ?_; rintro e w' ⟨rfl, rfl⟩)
        | (go_at_call 11; refine (known_any w).mono ?_; rintro e w1 ⟨rfl, hf1⟩))
      go_ret
      exact ⟨rfl, hf1.trans hf2 (fun i e => e.elim)⟩
  · have hfew' : fewB l = false := by simpa using hfew
    go_enter Try.func6, Try.ntmps6
    go_wp2_with (first
      | (go_at_call 11; refine (known_any w1).mono ?_; rintro e w2 ⟨rfl, hf2⟩)
      | (go_at_call 24; refine (few_any w1 a cap l (H.out.kept hf1 (fun b e => e.elim))).mono ?_; rintro e w' ⟨rfl, rfl⟩)
      | (go_at_call 11; refine (known_any w).mono ?_; rintro e w1 ⟨rfl, hf1⟩))
    go_ret
    exact ⟨rfl, hf1.trans hf2 (fun i e => e.elim)⟩
end Go.Proofs.Ytigcokgjikkohaa
