/- The walk of DiskNil. -/
import Derived.Test.YtigcokgjikkohaaAc2
namespace Go.Proofs.Ytigcokgjikkohaa
open Go.RowKit Go.Maps Go.Sort
set_option linter.unusedVariables false
set_option linter.unusedSimpArgs false
namespace Pd
def ni1 : PD := ((PD.new 9).append ⟨#[97]⟩ ⟨#[120]⟩).2
section
variable {s : PD} (h : s.down = true)
include h
theorem dn_append (a b : ByteArray) : s.append a b = (18, s) := by unfold PD.append; rw [if_pos h]
theorem dn_sync (a : ByteArray) : s.sync a = (18, s) := by unfold PD.sync; rw [if_pos h]
theorem dn_rename (a b : ByteArray) : s.rename a b = (18, s) := by unfold PD.rename; rw [if_pos h]
theorem dn_remove (a : ByteArray) : s.remove a = (18, s) := by unfold PD.remove; rw [if_pos h]
theorem dn_publish : s.publish = (18, s) := by unfold PD.publish; rw [if_pos h]
theorem dn_limit (k : Int) : s.setLimit k = (18, s) := by unfold PD.setLimit; rw [if_pos h]
theorem dn_read (a : ByteArray) : s.read a = (ByteArray.empty, 18) := by unfold PD.read; rw [if_pos h]
theorem dn_list : s.list = [] := by unfold PD.list; rw [if_pos h]
theorem dn_free : s.free = 0 := by unfold PD.free; rw [if_pos h]
end
end Pd
section
variable {w w' : World} {B d n m : Nat} {s : Pd.PD} {x : PAct}
theorem clone_nil (w : World) : Calls Try.prog 36 #[.pointer none] w fun e w' => e = .returned (.pointer none) ∧ Fr (fun _ => False) w w' := by
  go_enter Try.func36, Try.ntmps36
  go_wp2
  go_ret
  exact ⟨rfl, Fr.refl _ _⟩
theorem catN {a b c : World} (h : Fr (fun i => B ≤ i) a b) (k : Fr (fun i => B ≤ i) b c) : Fr (fun i => B ≤ i) a c := h.trans k (fun i e => .inl e)
theorem in_of' {r r' : Int × Pd.PD} {k : Nat} {args : Array Value} (hr : r = r') (h : Calls Try.prog k args w (IRet B w d m r)) : Calls Try.prog k args w fun e w' => e = .returned (.int .i64 r'.1) ∧ InTo B w d m r'.2 w' := by
  subst hr; exact h
theorem few_one {b : Nat} {t : TypeId} (hb : w.heap[b]? = some (.cells #[.int .u8 x.kind, .string x.name, .string x.dst, .int .i8 x.num, .slice x.sa x.script.length x.scap] t (0, 0))) (hok : ActOk w x) :
    Calls Try.prog 24 #[.slice (some ⟨b, 0, none⟩) 1 1] w fun e w' => e = .returned (.bool x.small) ∧ w = w' := by
  have h : ActsRd w (.slice (some ⟨b, 0, none⟩) [x].length 1) [x] := by
    refine ⟨by simp; exact hok, .inr ⟨⟨b, 0, none⟩, 1, rfl, by simp, fun i y hy => ?_⟩⟩
    match i, hy with
    | 0, hy =>
      simp at hy
      subst hy
      refine ⟨lt_of_some hb, fun j c hj => ?_⟩
      have ha : (⟨b, 0, none⟩ : Addr).add (0 * 5 + j) = ⟨b, j, none⟩ := by
        rw [Nat.zero_mul, Nat.zero_add]
        unfold Addr.add
        split
        · rename_i e; rw [e]
        · rw [Nat.zero_add]
      rw [ha, cell_at hb j]
      exact hj
    | i + 1, hy => simp at hy
  refine (few_any w (some ⟨b, 0, none⟩) 1 [x] h).mono ?_
  rintro e w' ⟨rfl, h2⟩
  exact ⟨by simp [fewB], h2⟩
theorem ni_new (w : World) : Calls Try.prog 12 #[.int .i64 9] w fun e w' => ∃ d, e = .returned (.tuple #[.pointer (some ⟨d, 0, none⟩), .int .i64 0]) ∧ DiskIn w.heap.size w' d 0 (Pd.PD.new 9) ∧ Fr (fun _ => False) w w' :=
  (new_in 9 w (by omega) (Nat.le_refl _)).mono fun e w' ⟨d, h1, _, h2, h3⟩ => ⟨d, h1, h2, h3⟩
theorem ni_first (h : DiskIn B w d 0 (Pd.PD.new 9)) : Calls Try.prog 13 #[.pointer (some ⟨d, 0, none⟩), .string ⟨#[97]⟩, .string ⟨#[120]⟩] w fun e w' => ∃ r, e = .returned (.int .i64 r) ∧ InTo B w d 1 Pd.ni1 w' :=
  (append_in h (by omega) ⟨#[97]⟩ ⟨#[120]⟩ (of_decide_eq_true rfl) (of_decide_eq_true rfl)).mono fun e w' ⟨h1, h2⟩ => ⟨_, h1, h2⟩
section
variable (h : DiskIn B w d n s) (hs : s.down = true)
include h hs
theorem ni_append (hn : n < 1000000) (a b : ByteArray) (ha : a.size ≤ 9223372036854775807) (hb : b.size ≤ 4611686018427387904) : Calls Try.prog 13 #[.pointer (some ⟨d, 0, none⟩), .string a, .string b] w fun e w' => e = .returned (.int .i64 18) ∧ InTo B w d (n + 1) s w' :=
  in_of' (Pd.dn_append hs a b) (append_in h hn a b ha hb)
theorem ni_sync : Calls Try.prog 15 #[.pointer (some ⟨d, 0, none⟩), .string ⟨#[97]⟩] w fun e w' => e = .returned (.int .i64 18) ∧ InTo B w d n s w' :=
  in_of' (Pd.dn_sync hs _) (sync_in h ⟨#[97]⟩ (of_decide_eq_true rfl))
theorem ni_rename (hn : n < 1000000) : Calls Try.prog 23 #[.pointer (some ⟨d, 0, none⟩), .string ⟨#[97]⟩, .string ⟨#[98]⟩] w fun e w' => e = .returned (.int .i64 18) ∧ InTo B w d (n + 1) s w' :=
  in_of' (Pd.dn_rename hs _ _) (rename_in h hn ⟨#[97]⟩ ⟨#[98]⟩ (of_decide_eq_true rfl) (of_decide_eq_true rfl))
theorem ni_remove (hn : n < 1000000) : Calls Try.prog 31 #[.pointer (some ⟨d, 0, none⟩), .string ⟨#[97]⟩] w fun e w' => e = .returned (.int .i64 18) ∧ InTo B w d (n + 1) s w' :=
  in_of' (Pd.dn_remove hs _) (remove_in h hn ⟨#[97]⟩ (of_decide_eq_true rfl))
theorem ni_publish : Calls Try.prog 14 #[.pointer (some ⟨d, 0, none⟩)] w fun e w' => e = .returned (.int .i64 18) ∧ InTo B w d n s w' :=
  in_of' (Pd.dn_publish hs) (publish_in h)
theorem ni_limit : Calls Try.prog 22 #[.pointer (some ⟨d, 0, none⟩), .int .i64 3] w fun e w' => e = .returned (.int .i64 18) ∧ InTo B w d n s w' :=
  in_of' (Pd.dn_limit hs 3) (limit_in h 3 (by omega))
theorem ni_read : Calls Try.prog 18 #[.pointer (some ⟨d, 0, none⟩), .string ⟨#[97]⟩] w fun e w' => e = .returned (.tuple #[.string ⟨#[]⟩, .int .i64 18]) ∧ w = w' := by
  have := read_in h ⟨#[97]⟩ (of_decide_eq_true rfl)
  rw [Pd.dn_read hs] at this
  exact this
theorem ni_size : Calls Try.prog 33 #[.pointer (some ⟨d, 0, none⟩), .string ⟨#[97]⟩] w fun e w' => e = .returned (.tuple #[.int .i64 0, .int .i64 18]) ∧ w = w' := by
  have := size_in h ⟨#[97]⟩ (of_decide_eq_true rfl)
  rw [Pd.dn_read hs] at this
  exact this
theorem ni_names : Calls Try.prog 20 #[.pointer (some ⟨d, 0, none⟩)] w fun e w' => e = .returned (.slice none 0 0) ∧ Fr (fun _ => False) w w' := by
  refine (names_in h).mono ?_
  rintro e w' ⟨v, rfl, hv, hf⟩
  exact ⟨by rw [hv.2.2 (Pd.dn_list hs)], hf⟩
theorem ni_free : Calls Try.prog 19 #[.pointer (some ⟨d, 0, none⟩)] w fun e w' => e = .returned (.int .i64 0) ∧ Fr (fun _ => False) w w' := by
  have := free_in h
  rw [Pd.dn_free hs] at this
  exact this
theorem ni_down : Calls Try.prog 21 #[.pointer (some ⟨d, 0, none⟩)] w fun e w' => e = .returned (.bool true) ∧ w = w' := by
  have := down_in h
  rw [hs] at this
  exact this
end
end
theorem ni_cells {w : World} {b : Nat} {x : PAct} {t : TypeId} (h : w.heap[b]? = some (.cells #[.int .u8 x.kind, .string x.name, .string x.dst, .int .i8 x.num, .slice x.sa x.script.length x.scap] t (0, 0))) :
    w.cell? ⟨b, 0, none⟩ = some (.int .u8 x.kind) ∧ w.cell? ⟨b, 1, none⟩ = some (.string x.name) ∧ w.cell? ⟨b, 2, none⟩ = some (.string x.dst) ∧ w.cell? ⟨b, 3, none⟩ = some (.int .i8 x.num) ∧ w.cell? ⟨b, 4, none⟩ = some (.slice x.sa x.script.length x.scap) :=
  ⟨cell_at h 0, cell_at h 1, cell_at h 2, cell_at h 3, cell_at h 4⟩
set_option maxRecDepth 100000 in
set_option maxHeartbeats 4000000 in
theorem nil_any (w : World) (x : PAct) (hok : ActOk w x) : Calls Try.prog 10 #[.agg x.cells] w fun e w' => e = .returned (.bool true) ∧ Fr (fun _ => False) w w' := by
  show Calls Try.prog 10 #[.agg #[.int .u8 x.kind, .string x.name, .string x.dst, .int .i8 x.num, .slice x.sa x.script.length x.scap]] w _
  have HOK := Lib.hid hok
  clear hok
  by_cases hs : x.small = true
  · obtain ⟨s1, s2, s3⟩ : x.name.size ≤ 50 ∧ x.dst.size ≤ 50 ∧ x.script.length ≤ 12 := by
      have := hs
      simp only [PAct.small, Bool.and_eq_true, decide_eq_true_eq] at this
      exact ⟨this.1.1, this.1.2, this.2⟩
    have hdn : Pd.ni1.crash.down = true := rfl
    have HDN := Lib.hid hdn
    clear hdn
    go_enter Try.func10, Try.ntmps10
    go_upto_region 3 with (first
      | (go_at_call 24; refine (few_one (heap_alloc_this w1 _) (HOK.out.kept (hfa.alloc _) (fun b e => e.elim))).mono ?_; rintro e w' ⟨rfl, rfl⟩)
      | (go_at_call 11; refine (known_any _).mono ?_; rintro e w1 ⟨rfl, hf1⟩; have hb1 := (hf1.block _ (lt_of_some (heap_alloc_this w _)) (fun e => e)).trans (heap_alloc_this w (.cells #[.int .u8 x.kind, .string x.name, .string x.dst, .int .i8 x.num, .slice x.sa x.script.length x.scap] 48 (0, 0))); have hbB := lt_of_some hb1; have hfa : Fr (fun _ => False) w w1 := ((Fr.refl (fun _ => False) w).alloc _).trans hf1 (fun i e => e.elim); obtain ⟨x0, x1, x2, x3, x4⟩ := ni_cells hb1))
    have hfB := hfa.alloc (.cells #[.int .u8 x.kind, .string x.name, .string x.dst, .int .i8 x.num, .slice x.sa x.script.length x.scap] 48 (0, 0))
    have hb2 := heap_alloc_old' (o := (.cells #[.int .u8 x.kind, .string x.name, .string x.dst, .int .i8 x.num, .slice x.sa x.script.length x.scap] 48 (0, 0))) hb1
    clear x0 x1 x2 x3 x4 hb1 hf1 hbB
    obtain ⟨x0, x1, x2, x3, x4⟩ := ni_cells hb2
    generalize w1.alloc (.cells #[.int .u8 x.kind, .string x.name, .string x.dst, .int .i8 x.num, .slice x.sa x.script.length x.scap] 48 (0, 0)) = wB at hfB hb2 x0 x1 x2 x3 x4 ⊢
    clear hfa
    go_wp2_with (first
      | (go_at_call 21; refine (ni_down H14.out HDN.out).mono ?_; rintro e w' ⟨rfl, rfl⟩)
      | (go_at_call 19; refine (ni_free H13.out HDN.out).mono ?_; rintro e w14 ⟨rfl, hf14⟩; have H14 := Lib.hid (H13.out.kept hf14))
      | (go_at_call 20; refine (ni_names H12.out HDN.out).mono ?_; rintro e w13 ⟨rfl, hf13⟩; have H13 := Lib.hid (H12.out.kept hf13))
      | (go_at_call 22; refine (ni_limit H11.out HDN.out).mono ?_; rintro e w12 ⟨rfl, hd12, hf12⟩; have H12 := Lib.hid hd12; clear hd12)
      | (go_at_call 14; refine (ni_publish H10.out HDN.out).mono ?_; rintro e w11 ⟨rfl, hd11, hf11⟩; have H11 := Lib.hid hd11; clear hd11)
      | (go_at_call 31; refine (ni_remove H9.out HDN.out (by omega)).mono ?_; rintro e w10 ⟨rfl, hd10, hf10⟩; have H10 := Lib.hid hd10; clear hd10)
      | (go_at_call 23; refine (ni_rename H8.out HDN.out (by omega)).mono ?_; rintro e w9 ⟨rfl, hd9, hf9⟩; have H9 := Lib.hid hd9; clear hd9)
      | (go_at_call 15; refine (ni_sync H7.out HDN.out).mono ?_; rintro e w8 ⟨rfl, hd8, hf8⟩; have H8 := Lib.hid hd8; clear hd8)
      | (go_at_call 13; refine (ni_append H6.out HDN.out (by omega) x.name x.dst (by omega) (by omega)).mono ?_; rintro e w7 ⟨rfl, hd7, hf7⟩; have H7 := Lib.hid hd7; clear hd7)
      | (go_at_call 33; refine (ni_size H6.out HDN.out).mono ?_; rintro e w' ⟨rfl, rfl⟩)
      | (go_at_call 18; refine (ni_read H6.out HDN.out).mono ?_; rintro e w' ⟨rfl, rfl⟩)
      | (go_at_call 16; refine (crash_in H5.out).mono ?_; rintro e w6 ⟨rfl, hd6, hf6⟩; have hb7 := (hf6.block _ (lt_of_some hb6) (by omega)).trans hb6; clear hb6 x0 x1 x2 x3 x4; obtain ⟨x0, x1, x2, x3, x4⟩ := ni_cells hb7; have H6 := Lib.hid hd6; clear hd6)
      | (go_at_call 13; refine (ni_first H4.out).mono ?_; rintro e w5 ⟨r, rfl, hd5, hf5⟩; have hb6 := (hf5.block _ (lt_of_some hb5) (by omega)).trans hb5; clear hb5 x0 x1 x2 x3 x4; obtain ⟨x0, x1, x2, x3, x4⟩ := ni_cells hb6; have H5 := Lib.hid hd5; clear hd5)
      | (go_at_call 12; refine (ni_new w3).mono ?_; rintro e w4 ⟨d, rfl, hd4, hf4⟩; have hb4x := hb4; have hb5 := (hf4.block _ (lt_of_some hb4) (fun e => e)).trans hb4; clear hb4 x0 x1 x2 x3 x4; obtain ⟨x0, x1, x2, x3, x4⟩ := ni_cells hb5; have hfE := hfD.trans hf4 (fun i e => e.elim); have hbl3 : w.heap.size < w3.heap.size := lt_of_some hb4x; have H4 := Lib.hid hd4; clear hd4)
      | (go_at_call 36; refine (clone_nil w2).mono ?_; rintro e w3 ⟨rfl, hf3⟩; have hb4 := (hf3.block _ (lt_of_some hb3) (fun e => e)).trans hb3; clear hb3 x0 x1 x2 x3 x4; obtain ⟨x0, x1, x2, x3, x4⟩ := ni_cells hb4; have hfD := hfC.trans hf3 (fun i e => e.elim))
      | (go_at_call 21; refine (down_nil w2).mono ?_; rintro e w' ⟨rfl, rfl⟩)
      | (go_at_call 19; refine (free_nil w2).mono ?_; rintro e w' ⟨rfl, rfl⟩)
      | (go_at_call 20; refine (names_nil w2).mono ?_; rintro e w' ⟨rfl, rfl⟩)
      | (go_at_call 22; refine (limit_nil 3 w2).mono ?_; rintro e w' ⟨rfl, rfl⟩)
      | (go_at_call 14; refine (Publish_nil w2).mono ?_; rintro e w' ⟨rfl, rfl⟩)
      | (go_at_call 31; refine (Remove_nil x.name w2).mono ?_; rintro e w' ⟨rfl, rfl⟩)
      | (go_at_call 23; refine (Rename_nil x.name x.dst w2).mono ?_; rintro e w' ⟨rfl, rfl⟩)
      | (go_at_call 15; refine (Sync_nil x.name w2).mono ?_; rintro e w' ⟨rfl, rfl⟩)
      | (go_at_call 13; refine (append_nil x.name x.dst w2).mono ?_; rintro e w' ⟨rfl, rfl⟩)
      | (go_at_call 33; refine (size_nil x.name w2).mono ?_; rintro e w' ⟨rfl, rfl⟩)
      | (go_at_call 18; refine (read_nil x.name w2).mono ?_; rintro e w' ⟨rfl, rfl⟩)
      | (go_at_call 17; refine (start_nil wB x.sa x.script.length x.scap).mono ?_; rintro e w2 ⟨rfl, hf2⟩; have hb3 := (hf2.block _ (lt_of_some hb2) (fun e => e)).trans hb2; clear hb2 x0 x1 x2 x3 x4; obtain ⟨x0, x1, x2, x3, x4⟩ := ni_cells hb3; have hfC := hfB.trans hf2 (fun i e => e.elim))
      | (go_at_call 16; refine (crash_nil wB).mono ?_; rintro e w' ⟨rfl, rfl⟩))
    go_ret
    exact ⟨rfl, ((catN (catN (catN (catN (catN (catN (catN (catN (catN (catN (hfE.mono (S' := fun i => w3.heap.size ≤ i) (fun i e => e.elim)) hf5) hf6) hf7) hf8) hf9) hf10) hf11) hf12) (hf13.mono (fun i e => e.elim))) (hf14.mono (fun i e => e.elim)))).mono (fun i e => .inr (Nat.le_trans (Nat.le_of_lt hbl3) e))⟩
  · have hs' : x.small = false := by simpa using hs
    go_enter Try.func10, Try.ntmps10
    go_wp2_with (first
      | (go_at_call 11; refine (known_any wB).mono ?_; rintro e w2 ⟨rfl, hf2⟩)
      | (go_at_call 24; refine (few_one (heap_alloc_this w1 _) (HOK.out.kept (hfa.alloc _) (fun b e => e.elim))).mono ?_; rintro e w' ⟨rfl, rfl⟩; have hfB := hfa.alloc (.cells #[.int .u8 x.kind, .string x.name, .string x.dst, .int .i8 x.num, .slice x.sa x.script.length x.scap] 48 (0, 0)); generalize w1.alloc (.cells #[.int .u8 x.kind, .string x.name, .string x.dst, .int .i8 x.num, .slice x.sa x.script.length x.scap] 48 (0, 0)) = wB at hfB ⊢)
      | (go_at_call 11; refine (known_any _).mono ?_; rintro e w1 ⟨rfl, hf1⟩; have hb1 := (hf1.block _ (lt_of_some (heap_alloc_this w _)) (fun e => e)).trans (heap_alloc_this w (.cells #[.int .u8 x.kind, .string x.name, .string x.dst, .int .i8 x.num, .slice x.sa x.script.length x.scap] 48 (0, 0))); have hfa : Fr (fun _ => False) w w1 := ((Fr.refl (fun _ => False) w).alloc _).trans hf1 (fun i e => e.elim); obtain ⟨x0, x1, x2, x3, x4⟩ := ni_cells hb1))
    go_ret
    exact ⟨rfl, hfB.trans hf2 (fun i e => e.elim)⟩
end Go.Proofs.Ytigcokgjikkohaa
