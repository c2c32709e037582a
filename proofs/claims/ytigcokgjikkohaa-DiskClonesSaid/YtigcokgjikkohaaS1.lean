/- Slices of integers; slices.Clone on them; the closure that takes choices out of a script. -/
import Derived.Test.YtigcokgjikkohaaN2
namespace Go.Proofs.Ytigcokgjikkohaa
open Go.RowKit Go.Maps Go.Sort
set_option linter.unusedVariables false
set_option linter.unusedSimpArgs false

/-- A slice of integers, and what it holds. -/
def IntsAt (w : World) (v : Value) (sc : List Int) : Prop :=
  (∀ n ∈ sc, -9223372036854775808 ≤ n ∧ n ≤ 9223372036854775807) ∧
  ((sc = [] ∧ ∃ a c, v = .slice a 0 c ∧ (a = none → c = 0)) ∨
   ∃ g off cap cs fz, v = .slice (some ⟨g, off, none⟩) sc.length cap ∧ sc.length ≤ cap ∧ w.heap[g]? = some (.cells cs 3 fz) ∧ ∀ i, i < sc.length → cs[off + i]? = some (.int .i64 (sc.getD i 0)))
theorem IntsAt.kept {w w' : World} {S : Nat → Prop} {v : Value} {sc : List Int} (h : IntsAt w v sc) (hf : Fr S w w') (hv : ∀ g, v.ownBlock = some g → ¬ S g) : IntsAt w' v sc := by
  obtain ⟨h0, h1⟩ := h
  refine ⟨h0, ?_⟩
  rcases h1 with h1 | ⟨g, off, cap, cs, fz, rfl, hc, hb, hi⟩
  · exact .inl h1
  · exact .inr ⟨g, off, cap, cs, fz, rfl, hc, (hf.block g (lt_of_some hb) (hv g rfl)).trans hb, hi⟩
theorem IntsAt.kept' {w w' : World} {S : Nat → Prop} {v : Value} {sc : List Int} (h : IntsAt w v sc) (hf : Fr S w w') (hv : ∀ g, v.ownBlock = some g → S g → g < w.heap.size → False) : IntsAt w' v sc := by
  obtain ⟨h0, h1⟩ := h
  refine ⟨h0, ?_⟩
  rcases h1 with h1 | ⟨g, off, cap, cs, fz, rfl, hc, hb, hi⟩
  · exact .inl h1
  · exact .inr ⟨g, off, cap, cs, fz, rfl, hc, (hf.block g (lt_of_some hb) (fun e => hv g rfl e (lt_of_some hb))).trans hb, hi⟩
theorem info_int : (Try.prog.info? 3).map (fun i => (i.zero, i.size, i.bytes)) = some (some (.int .i64 0), 1, 8) := by kernel_rfl

/-- slices.Clone of integers has returned a slice of its own. -/
def Cloned (w : World) (sc : List Int) (e : Ending) (w' : World) : Prop :=
  ∃ v, e = .returned v ∧ IntsAt w' v sc ∧ (∀ g, v.ownBlock = some g → w.heap.size ≤ g) ∧ Fr (fun _ => False) w w'
theorem owned_ints {w : World} {base : Nat} {v : Value} {sc : List Int} (h : w.ownsRow base 3 1 v sc.length (sc.map (Value.int .i64))) (hw : ∀ n ∈ sc, -9223372036854775808 ≤ n ∧ n ≤ 9223372036854775807) :
    IntsAt w v sc ∧ ∀ g, v.ownBlock = some g → base ≤ g := by
  refine ⟨⟨hw, ?_⟩, fun g hg => (h.lt g hg).1⟩
  rcases h.2 with ⟨rfl, h0⟩ | ⟨g, cap, cur, rfl, hb, hg, hn, hm, hs, ht⟩
  · rw [h0]; exact .inl ⟨List.length_eq_zero_iff.1 h0, none, 0, rfl, fun _ => rfl⟩
  · refine .inr ⟨g, 0, cap, cur, (0, 0), rfl, hn, hg, fun i hi => ?_⟩
    have h1 : (cur.toList.take (sc.length * 1))[i]? = (sc.map (Value.int .i64))[i]? := by rw [ht]
    rw [List.getElem?_take_of_lt (by omega)] at h1
    rw [Nat.zero_add, ← Array.getElem?_toList, h1]
    simp [hi]

set_option maxRecDepth 100000 in
set_option maxHeartbeats 400000 in
theorem cloneInts_nil (w : World) : Calls Try.prog 45 #[.slice none 0 0] w (Cloned w []) := by
  have hq := fun w => Lib.run_eql_slice_nil (P := Try.prog) w 23 3 none 0 0 0 0 Try.underlying23
  go_enter Try.func45, Try.ntmps45
  go_wp2
  go_ret
  exact ⟨_, rfl, ⟨by simp, .inl ⟨rfl, none, 0, rfl, fun _ => rfl⟩⟩, (fun g hg => by cases hg), Fr.refl _ _⟩

theorem cellAdd {w : World} {g off : Nat} {cs : Array Value} {t : TypeId} {fz : Nat × Nat} (h : w.heap[g]? = some (.cells cs t fz)) (j : Nat) : w.cell? ((⟨g, off, none⟩ : Addr).add j) = cs[off + j]? := by
  have : (⟨g, off, none⟩ : Addr).add j = ⟨g, off + j, none⟩ := by unfold Addr.add; split <;> simp_all
  rw [this, cell_at h]
theorem oneCells_ints (l : List Int) : ∀ u ∈ l.map (Value.int .i64), u.oneCell' = true := by
  intro u hu
  obtain ⟨n, _, rfl⟩ := List.mem_map.1 hu
  rfl

set_option maxRecDepth 100000 in
set_option maxHeartbeats 1000000 in
theorem cloneInts_some {w : World} (a : Addr) (m c : Nat) (sc : List Int) (hm : m = sc.length) (hb : sc.length ≤ 1000000000000) (hw : ∀ n ∈ sc, -9223372036854775808 ≤ n ∧ n ≤ 9223372036854775807)
    (hc : ∀ (j : Nat) u, (sc.map (Value.int .i64))[j]? = some u → w.cell? (a.add j) = some u) (hlt : ∀ (j : Nat) u, (sc.map (Value.int .i64))[j]? = some u → a.block < w.heap.size) :
    Calls Try.prog 45 #[.slice (some a) m c] w (Cloned w sc) := by
  subst hm
  obtain ⟨i0, hi, hz0, hz1, hz2⟩ := info_parts info_int
  have hq := fun w => Lib.run_eql_slice_nil (P := Try.prog) w 23 3 (some a) sc.length c 0 0 Try.underlying23
  have HC := Lib.hid hc
  have HW := Lib.hid hw
  have HL := Lib.hid hlt
  have ow : (w.alloc (.cells #[] 3)).ownsRow w.heap.size 3 1 (.slice (some ⟨w.heap.size, 0, none⟩) 0 0) 0 [] := World.ownsRow_made w #[] 0 (Nat.le_refl _) (Nat.zero_le _) rfl
  have HO := Lib.hid ow
  have hc1 : ∀ (j : Nat) u, (sc.map (Value.int .i64))[j]? = some u → (w.alloc (.cells #[] 3)).cell? (a.add j) = some u := by
    intro j u hu
    rw [World.cell?_of_block (w := w) (Below.heap_alloc _ _ _ ?_)]
    · exact hc j u hu
    · have : (a.add j).block = a.block := by unfold Addr.add; split <;> rfl
      rw [this]
      exact hlt j u hu
  have HC1 := Lib.hid hc1
  clear hc hw hlt ow hc1
  go_enter Try.func45, Try.ntmps45
  go_wp2_with (at_builtin; refine wpList_append_own_at _ rfl (.tmp 5) (.tmp 6) 23 rfl w.heap.size 3 i0 (.int .i64 0) 1 8 Try.underlying23 hi hz0 hz1 hz2 rfl (by decide) (.slice (some ⟨w.heap.size, 0, none⟩) 0 0) 0 [] rfl (by exact HO.out) a sc.length c (sc.map (Value.int .i64)) rfl (by simp) (by exact HC1.out) (by exact oneCells_ints _) (by unfold maxLen; omega) (by omega) (by simp) ?_; intro v' w3 hown3 hg3 _ hloc3)
  go_wp2
  go_ret
  rw [List.nil_append, Nat.zero_add] at hown3
  obtain ⟨h1, h2⟩ := owned_ints hown3 HW.out
  exact ⟨v', rfl, h1, h2, ((Fr.refl _ w).alloc _).grown hg3 (fun k e => .inr (by cases e; exact Nat.le_refl _))⟩

theorem cloneInts_any {w : World} {v : Value} {sc : List Int} (h : IntsAt w v sc) (hb : sc.length ≤ 1000000000000) : Calls Try.prog 45 #[v] w (Cloned w sc) := by
  obtain ⟨h0, ⟨rfl, a, c, rfl, hn⟩ | ⟨g, off, cap, cs, fz, rfl, hc, hg, hcs⟩⟩ := h
  · cases a with
    | none => rw [hn rfl]; exact cloneInts_nil w
    | some a => exact cloneInts_some a 0 c [] rfl (by simp) (by simp) (fun j u hu => by simp at hu) (fun j u hu => by simp at hu)
  · refine cloneInts_some ⟨g, off, none⟩ _ cap sc rfl hb h0 (fun j u hu => ?_) (fun j u hu => lt_of_some hg)
    rw [cellAdd hg]
    have hj : j < sc.length := by have := (List.getElem?_eq_some_iff.1 hu).1; simpa using this
    rw [hcs j hj, ← hu]
    simp [hj]

/-- A slice of integers that can be read. -/
def IntsRd (w : World) (v : Value) (sc : List Int) : Prop :=
  (∀ n ∈ sc, -9223372036854775808 ≤ n ∧ n ≤ 9223372036854775807) ∧
  ((v = .slice none 0 0 ∧ sc = []) ∨
   ∃ (a : Addr) (cap : Nat), v = .slice (some a) sc.length cap ∧ (∀ (j : Nat) u, (sc.map (Value.int .i64))[j]? = some u → w.cell? (a.add j) = some u) ∧ ∀ (j : Nat) u, (sc.map (Value.int .i64))[j]? = some u → a.block < w.heap.size)
theorem add_block (a : Addr) (j : Nat) : (a.add j).block = a.block := by unfold Addr.add; split <;> rfl
theorem IntsRd.kept {w w' : World} {v : Value} {sc : List Int} (h : IntsRd w v sc) (hf : Fr (fun _ => False) w w') : IntsRd w' v sc := by
  obtain ⟨h0, h1 | ⟨a, cap, rfl, h2, h3⟩⟩ := h
  · exact ⟨h0, .inl h1⟩
  · refine ⟨h0, .inr ⟨a, cap, rfl, fun j u hu => ?_, fun j u hu => Nat.lt_of_lt_of_le (h3 j u hu) hf.size⟩⟩
    rw [hf.cell (by rw [add_block]; exact h3 j u hu) (fun e => e)]
    exact h2 j u hu
theorem IntsAt.rd {w : World} {v : Value} {sc : List Int} (h : IntsAt w v sc) : IntsRd w v sc := by
  obtain ⟨h0, ⟨rfl, a, c, rfl, hn⟩ | ⟨g, off, cap, cs, fz, rfl, hc, hg, hcs⟩⟩ := h
  · refine ⟨h0, ?_⟩
    cases a with
    | none => rw [hn rfl]; exact .inl ⟨rfl, rfl⟩
    | some a => exact .inr ⟨a, c, rfl, fun j u hu => by simp at hu, fun j u hu => by simp at hu⟩
  · refine ⟨h0, .inr ⟨_, cap, rfl, fun j u hu => ?_, fun j u hu => lt_of_some hg⟩⟩
    rw [cellAdd hg]
    have hj : j < sc.length := by have := (List.getElem?_eq_some_iff.1 hu).1; simpa using this
    rw [hcs j hj, ← hu]
    simp [hj]
theorem cloneInts_rd {w : World} {v : Value} {sc : List Int} (h : IntsRd w v sc) (hb : sc.length ≤ 1000000000000) : Calls Try.prog 45 #[v] w (Cloned w sc) := by
  obtain ⟨h0, ⟨rfl, rfl⟩ | ⟨a, cap, rfl, h2, h3⟩⟩ := h
  · exact cloneInts_nil w
  · exact cloneInts_some a _ cap sc rfl hb h0 h2 h3
theorem rd_shape {w : World} {v : Value} {sc : List Int} (h : IntsRd w v sc) : ∃ a n c, v = .slice a n c := by
  obtain ⟨h0, ⟨rfl, rfl⟩ | ⟨a, cap, rfl, h2, h3⟩⟩ := h
  · exact ⟨_, _, _, rfl⟩
  · exact ⟨_, _, _, rfl⟩

/-! ### the closure that takes a choice out of the script -/
def ScriptAt (w : World) (B sb : Nat) (sc : List Int) : Prop :=
  ∃ sv, w.heap[sb]? = some (.cells #[sv] 23 (0, 0)) ∧ IntsAt w sv sc ∧ sv.ownBlock ≠ some sb ∧ ∀ g, sv.ownBlock = some g → B ≤ g
theorem tmod_nonpos (n : Int) (m : Nat) (h : n < 0) : n.tmod ((m : Int) + 1) ≤ 0 := by
  obtain ⟨k, rfl⟩ : ∃ k : Nat, n = -(k : Int) := ⟨n.natAbs, by omega⟩
  rw [Int.neg_tmod]
  have := Int.tmod_nonneg ((m : Int) + 1) (show (0 : Int) ≤ k by omega)
  omega
/-- A choice has been taken. -/
def Chosen (w : World) (B sb : Nat) (sc : List Int) (most : Nat) (e : Ending) (w' : World) : Prop :=
  e = .returned (.int .i64 (Pd.choice sc most).1) ∧ (∃ sv, w'.heap[sb]? = some (.cells #[sv] 23 (0, 0)) ∧ IntsAt w' sv (Pd.choice sc most).2 ∧ sv.ownBlock ≠ some sb ∧ ∀ g, sv.ownBlock = some g → B ≤ g) ∧ Fr (fun i => i = sb) w w' ∧ w'.heap.size = w.heap.size

set_option maxRecDepth 100000 in
set_option maxHeartbeats 1000000 in
theorem choice_nil {w : World} {B sb most : Nat} (h : ScriptAt w B sb []) (hm : most < 1000000000000) : Calls Try.prog 46 #[.int .i64 most, .pointer (some ⟨sb, 0, none⟩)] w (Chosen w B sb [] most) := by
  obtain ⟨sv, hb, hI, hne, hbs⟩ := h
  have hshape : ∃ a c, sv = .slice a 0 c := by
    obtain ⟨h0, ⟨_, a, c, rfl, hn⟩ | ⟨g, off, cap, cs, fz, rfl, hc, hg, hcs⟩⟩ := hI
    · exact ⟨a, c, rfl⟩
    · exact ⟨_, _, rfl⟩
  obtain ⟨a, c, rfl⟩ := hshape
  have hcell := cell_of_one hb
  have HI := Lib.hid hI
  have HB := Lib.hid hb
  have HN := Lib.hid hne
  have HBS := Lib.hid hbs
  clear hb hI hne hbs
  go_enter Try.func46, Try.ntmps46
  go_wp2
  go_ret
  exact ⟨rfl, ⟨_, HB.out, HI.out, HN.out, HBS.out⟩, Fr.refl _ _, rfl⟩
theorem tail_ints {w : World} {g off cap : Nat} {x : Int} {r : List Int} {cs : Array Value} {fz : Nat × Nat} {v : Value}
    (h0 : ∀ n ∈ x :: r, -9223372036854775808 ≤ n ∧ n ≤ 9223372036854775807) (hc : r.length + 1 ≤ cap) (hg : w.heap[g]? = some (.cells cs 3 fz)) (hcs : ∀ i, i < (x :: r).length → cs[off + i]? = some (.int .i64 ((x :: r).getD i 0)))
    (hv : v = .slice (some ⟨g, off + 1, none⟩) r.length (cap - 1) ∨ (r = [] ∧ v = .slice (some ⟨g, off, none⟩) 0 0)) : IntsAt w v r ∧ v.ownBlock = some g := by
  rcases hv with rfl | ⟨rfl, rfl⟩
  · refine ⟨⟨fun n hn => h0 n (List.mem_cons_of_mem _ hn), .inr ⟨g, off + 1, cap - 1, cs, fz, rfl, by omega, hg, fun i hi => ?_⟩⟩, rfl⟩
    have := hcs (i + 1) (by simp; omega)
    rw [show off + 1 + i = off + (i + 1) from by omega, this]
    simp [List.getD]
  · exact ⟨⟨by simp, .inl ⟨rfl, _, 0, rfl, fun h => by cases h⟩⟩, rfl⟩
theorem choice_val {x : Int} {r : List Int} {most : Nat} {y : Int} (h : (0 ≤ x ∧ y = max 0 (x % ((most : Int) + 1))) ∨ (x < 0 ∧ y = max 0 (x.tmod ((most : Int) + 1)))) : y = (Pd.choice (x :: r) most).1 := by
  unfold Pd.choice
  rcases h with ⟨h1, rfl⟩ | ⟨h1, rfl⟩
  · dsimp only
    rw [if_neg (by omega)]
    have h2 := Int.emod_nonneg x (show ((most : Int) + 1) ≠ 0 by omega)
    rw [Int.max_eq_right h2]
    obtain ⟨k, rfl⟩ : ∃ k : Nat, x = k := ⟨x.toNat, by omega⟩
    rw [Int.toNat_natCast]
    push_cast
    rfl
  · dsimp only
    rw [if_pos h1]
    have := tmod_nonpos x most h1
    omega
set_option maxRecDepth 100000 in
set_option maxHeartbeats 1000000 in
theorem choice_cons {w : World} {B sb most : Nat} {x : Int} {r : List Int} (h : ScriptAt w B sb (x :: r)) (hm : most < 1000000000000) (hb : r.length ≤ 1000000000000) : Calls Try.prog 46 #[.int .i64 most, .pointer (some ⟨sb, 0, none⟩)] w (Chosen w B sb (x :: r) most) := by
  obtain ⟨sv, hb, hI, hne, hbs⟩ := h
  obtain ⟨h0, ⟨h1, _⟩ | ⟨g, off, cap, cs, fz, rfl, hc, hg, hcs⟩⟩ := hI
  · cases h1
  have hcell := cell_of_one hb
  have hfz := free_of_one hb
  have hx := h0 x List.mem_cons_self
  have hgs : g ≠ sb := fun e => hne (by rw [e]; rfl)
  have hcx : w.cell? ⟨g, off, none⟩ = some (.int .i64 x) := by
    rw [cell_at hg]
    have := hcs 0 (by simp)
    simpa using this
  have hlen : (x :: r).length = r.length + 1 := rfl
  rw [hlen] at hcell hc
  have HB := Lib.hid hb
  have H0 := Lib.hid h0
  have HG := Lib.hid hg
  have HCS := Lib.hid hcs
  have hbg : B ≤ g := hbs g rfl
  clear hb hne h0 hcs hg hlen hbs
  have fin : ∀ (y : Int) (v : Value), ((0 ≤ x ∧ y = max 0 (x % ((most : Int) + 1))) ∨ (x < 0 ∧ y = max 0 (x.tmod ((most : Int) + 1)))) → (v = .slice (some ⟨g, off + 1, none⟩) r.length (cap - 1) ∨ (r = [] ∧ v = .slice (some ⟨g, off, none⟩) 0 0)) →
      Chosen w B sb (x :: r) most (.returned (.int .i64 y)) (w.setCell ⟨sb, 0, none⟩ v).drew := by
    intro y v hy hv
    obtain ⟨h1, h2⟩ := tail_ints H0.out hc HG.out HCS.out hv
    have hf := setD_fr w sb 0 v
    refine ⟨by rw [choice_val hy], ⟨v, one_setCell HB.out, ?_, (by rw [h2]; intro e; cases e; exact hgs rfl), (by rw [h2]; intro g' hg'; cases hg'; exact hbg)⟩, hf.drew, by simp⟩
    exact h1.kept (w' := (w.setCell ⟨sb, 0, none⟩ v).drew) hf.drew (fun g' hg' e => by rw [h2] at hg'; cases hg'; exact hgs e)
  have FIN := Lib.hid fin
  clear fin
  by_cases hsx : 0 ≤ x
  · by_cases hc1 : cap = 1
    · have hr0 : r = [] := by
        cases r with
        | nil => rfl
        | cons a b => simp at hc; omega
      subst hr0
      subst hc1
      go_enter Try.func46, Try.ntmps46
      go_wp2
      go_region
      all_goals go_wp2
      all_goals go_ret
      all_goals exact FIN.out _ _ (.inl ⟨hsx, rfl⟩) (.inr (by simp))
    · go_enter Try.func46, Try.ntmps46
      go_wp2
      go_region
      all_goals go_wp2
      all_goals go_ret
      all_goals exact FIN.out _ _ (.inl ⟨hsx, rfl⟩) (.inl rfl)
  · have hsx' : x < 0 := by omega
    by_cases hc1 : cap = 1
    · have hr0 : r = [] := by
        cases r with
        | nil => rfl
        | cons a b => simp at hc; omega
      subst hr0
      subst hc1
      go_enter Try.func46, Try.ntmps46
      go_wp2
      go_region
      all_goals go_wp2
      all_goals go_ret
      all_goals exact FIN.out _ _ (.inr ⟨hsx', rfl⟩) (.inr (by simp))
    · go_enter Try.func46, Try.ntmps46
      go_wp2
      go_region
      all_goals go_wp2
      all_goals go_ret
      all_goals exact FIN.out _ _ (.inr ⟨hsx', rfl⟩) (.inl rfl)
theorem choice_any {w : World} {B sb most : Nat} {sc : List Int} (h : ScriptAt w B sb sc) (hm : most < 1000000000000) (hb : sc.length ≤ 1000000000000) : Calls Try.prog 46 #[.int .i64 most, .pointer (some ⟨sb, 0, none⟩)] w (Chosen w B sb sc most) := by
  cases sc with
  | nil => exact choice_nil h hm
  | cons x r => exact choice_cons h hm (by simp at hb; omega)
end Go.Proofs.Ytigcokgjikkohaa
