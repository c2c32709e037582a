/- The model's choice out of a script. -/
import Derived.Test.YtigcokgjikkohaaMo5
import Derived.IntWalk
namespace Go.Proofs.Ytigcokgjikkohaa
open Go.RowKit Go.Maps Go.Sort
set_option linter.unusedVariables false
set_option linter.unusedSimpArgs false
/-- The script that is left: a box (block sb) with a slice of numbers that lie below block B. -/
def ScAt (w : World) (B sb : Nat) (sc : List Int) : Prop :=
  B ≤ sb ∧ (∀ n ∈ sc, -9223372036854775808 ≤ n ∧ n ≤ 9223372036854775807) ∧ ∃ (a : Option Addr) (cap : Nat), w.heap[sb]? = some (.cells #[.slice a sc.length cap] 106 (0, 0)) ∧ sc.length ≤ cap ∧
    ∀ (j : Nat) x, sc[j]? = some x → ∃ b : Addr, a = some b ∧ b.block < B ∧ B ≤ w.heap.size ∧ w.cell? (b.add j) = some (.int .i64 x)
theorem ScAt.of {w : World} {a : Option Addr} {cap : Nat} {sc : List Int} (h : IntsRd w (.slice a sc.length cap) sc) (hc : sc.length ≤ cap) :
    ScAt (w.alloc (.cells #[.slice a sc.length cap] 106 (0, 0))) w.heap.size w.heap.size sc := by
  refine ⟨Nat.le_refl _, h.1, a, cap, heap_alloc_this _ _, hc, fun j x hx => ?_⟩
  rcases h.2 with ⟨_, rfl⟩ | ⟨b, c, h1, h2, h3⟩
  · simp at hx
  · cases h1
    have hu : (sc.map (Value.int .i64))[j]? = some (.int .i64 x) := by rw [List.getElem?_map, hx]; rfl
    refine ⟨b, rfl, h3 j _ hu, by simp, ?_⟩
    exact (((Fr.refl (fun _ => False) w).alloc (.cells #[.slice (some b) sc.length cap] 106 (0, 0))).cell (by rw [add_block]; exact h3 j _ hu) (fun e => e)).trans (h2 j _ hu)
section
variable {w w' : World} {B sb : Nat} {sc : List Int} {S : Nat → Prop}
theorem ScAt.kept (h : ScAt w B sb sc) (hf : Fr S w w') (hS : ∀ b, b < B → ¬ S b) (hs : ¬ S sb) : ScAt w' B sb sc := by
  obtain ⟨h0, h1, a, cap, h2, h3, h4⟩ := h
  refine ⟨h0, h1, a, cap, (hf.block sb (lt_of_some h2) hs).trans h2, h3, fun j x hx => ?_⟩
  obtain ⟨b, hb, hl, hB, hc⟩ := h4 j x hx
  exact ⟨b, hb, hl, Nat.le_trans hB hf.size, (hf.cell (by rw [add_block]; omega) (by rw [add_block]; exact hS _ hl)).trans hc⟩
theorem ScAt.kept' {x : Int} {r : List Int} (h : ScAt w B sb (x :: r)) (hf : Fr (fun i => i = sb) w w') : B ≤ sb ∧ (∀ n ∈ x :: r, -9223372036854775808 ≤ n ∧ n ≤ 9223372036854775807) ∧
    ∀ b : Addr, (∃ cap, w.heap[sb]? = some (.cells #[.slice (some b) (x :: r).length cap] 106 (0, 0))) → ∀ (j : Nat) y, (x :: r)[j]? = some y → w'.cell? (b.add j) = some (.int .i64 y) := by
  obtain ⟨h0, h1, a, cap, h2, h3, h4⟩ := h
  refine ⟨h0, h1, fun b ⟨cap', hb⟩ j y hy => ?_⟩
  rw [h2] at hb
  cases hb
  obtain ⟨b', hb', hl, hB, hc⟩ := h4 j y hy
  cases hb'
  exact (hf.cell (by rw [add_block]; omega) (by rw [add_block]; omega)).trans hc
end
def MChosen (w : World) (B sb : Nat) (sc : List Int) (most : Nat) (e : Ending) (w' : World) : Prop :=
  e = .returned (.int .i64 (Pd.choice sc most).1) ∧ ScAt w' B sb (Pd.choice sc most).2 ∧ Fr (fun i => i = sb) w w'
set_option maxRecDepth 100000 in
set_option maxHeartbeats 1000000 in
theorem mchoice_any {w : World} {B sb : Nat} {sc : List Int} (h : ScAt w B sb sc) (most : Nat) (hm : most < 1000000000000) (hl : sc.length ≤ 1000000000000) :
    Calls Try.prog 66 #[.pointer (some ⟨sb, 0, none⟩), .int .i64 most] w (MChosen w B sb sc most) := by
  match sc, h with
  | [], h =>
    obtain ⟨h0, h1, a, cap, h2, h3, h4⟩ := h
    have hH := Lib.hid (show ScAt w B sb [] from ⟨h0, h1, a, cap, h2, h3, h4⟩)
    have c0 : w.cell? ⟨sb, 0, none⟩ = some (.slice a 0 cap) := cell_at h2 0
    have hw : IntKind.i64.wrap ((most : Int) + 1) = (most : Int) + 1 := IntWalk.i64_in _ (by omega)
    have hmp : ¬ ((most : Int) + 1 = 0) := by omega
    clear h0 h1 h2 h3 h4
    go_enter Try.func66, Try.ntmps66
    go_wp2
    go_ret
    exact ⟨rfl, hH.out, Fr.refl _ _⟩
  | x :: r, h =>
    obtain ⟨h0, h1, a, cap, h2, h3, h4⟩ := h
    obtain ⟨b, rfl, hbl, hBs, hcx⟩ := h4 0 x rfl
    have hx := h1 x List.mem_cons_self
    have c0 : w.cell? ⟨sb, 0, none⟩ = some (.slice (some b) (r.length + 1) cap) := cell_at h2 0
    have f0 : w.frozen? ⟨sb, 0, none⟩ = false := free_at h2 0
    have hcx' : w.cell? b = some (.int .i64 x) := hcx
    have hbs : b.block ≠ sb := by omega
    have HH := Lib.hid (show ScAt w B sb (x :: r) from ⟨h0, h1, some b, cap, h2, h3, h4⟩)
    have H2 := Lib.hid h2
    have hw : IntKind.i64.wrap ((most : Int) + 1) = (most : Int) + 1 := IntWalk.i64_in _ (by omega)
    have hmp : ¬ ((most : Int) + 1 = 0) := by omega
    have hlr : r.length + 1 ≤ cap := h3
    clear h0 h1 h2 h3 h4 hcx
    have fin : ∀ v, (v = .slice (some ⟨b.block, b.off + 1, none⟩) r.length (cap - 1) ∨ (cap = 1 ∧ v = .slice (some b) r.length 0)) → ScAt (w.setCell ⟨sb, 0, none⟩ v) B sb r ∧ Fr (fun i => i = sb) w (w.setCell ⟨sb, 0, none⟩ v) := by
      intro v hv
      have hf : Fr (fun i => i = sb) w (w.setCell ⟨sb, 0, none⟩ v) := (Fr.refl (fun i => i = sb) w).setCell ⟨sb, 0, none⟩ _ (.inl rfl)
      obtain ⟨k0, k1, k2⟩ := HH.out.kept' hf
      refine ⟨⟨k0, fun n hn => k1 n (List.mem_cons_of_mem _ hn), ?_⟩, hf⟩
      rcases hv with rfl | ⟨rfl, rfl⟩
      · refine ⟨some ⟨b.block, b.off + 1, none⟩, cap - 1, (heap_set_same H2.out).trans rfl, by omega, fun j y hy => ⟨_, rfl, hbl, Nat.le_trans hBs hf.size, ?_⟩⟩
        have := k2 b ⟨_, H2.out⟩ (j + 1) y (by simpa using hy)
        rw [show b.add (j + 1) = (⟨b.block, b.off + 1, none⟩ : Addr).add j from by rw [Nat.add_comm j 1, ← Addr.add_add]; rfl] at this
        exact this
      · have hr0 : r = [] := List.length_eq_zero_iff.1 (by omega)
        subst hr0
        exact ⟨some b, 0, (heap_set_same H2.out).trans rfl, Nat.le_refl _, fun j y hy => by simp at hy⟩
    have FIN := Lib.hid fin
    clear fin
    by_cases hn : x < 0
    · have hch : Pd.choice (x :: r) most = (0, r) := by unfold Pd.choice; dsimp only; rw [if_pos hn]
      go_enter Try.func66, Try.ntmps66
      go_wp2
      all_goals
        go_ret
        unfold MChosen
        rw [hch]
        first
          | exact ⟨rfl, FIN.out _ (.inl rfl)⟩
          | exact ⟨rfl, FIN.out _ (.inr ⟨by assumption, rfl⟩)⟩
    · have hch : Pd.choice (x :: r) most = (x.toNat % (most + 1), r) := by unfold Pd.choice; dsimp only; rw [if_neg hn]
      obtain ⟨k, rfl⟩ : ∃ k : Nat, x = k := ⟨x.toNat, by omega⟩
      go_enter Try.func66, Try.ntmps66
      have hcv : (((k : Int).toNat % (most + 1) : Nat) : Int) = (k : Int) % ((most : Int) + 1) := by rw [Int.toNat_natCast]; push_cast; rfl
      have HCV := Lib.hid hcv
      clear hcv
      go_wp2
      all_goals
        go_ret
        unfold MChosen
        rw [hch]
        first
          | exact ⟨by show Ending.returned (.int .i64 ((k : Int) % ((most : Int) + 1))) = _; rw [HCV.out], FIN.out _ (.inl rfl)⟩
          | exact ⟨by show Ending.returned (.int .i64 ((k : Int) % ((most : Int) + 1))) = _; rw [HCV.out], FIN.out _ (.inr ⟨by assumption, rfl⟩)⟩
end Go.Proofs.Ytigcokgjikkohaa
