/- The model's isName, outcome, without. -/
import Derived.Test.YtigcokgjikkohaaMo1
import Derived.StillTailTactics
import Derived.Deep.RegionLaw
import Derived.Deep.RegionLawGrows
import Derived.BigRegion
import Derived.Maps.AppendAt
namespace Go.Proofs.Ytigcokgjikkohaa
open Go.RowKit Go.Maps Go.Sort
set_option linter.unusedVariables false
set_option linter.unusedSimpArgs false
set_option maxHeartbeats 1000000 in
theorem misName_any (s : ByteArray) (w : World) (hs : s.size ≤ 9223372036854775807) : Calls Try.prog 53 #[.string s] w fun e w' => e = .returned (.bool (Pd.isName s)) ∧ w = w' := by
  go_enter Try.func53, Try.ntmps53
  go_wp2
  go_loop [3] (fun i => ∃ k : Nat, k ≤ s.size ∧ i = .int .i64 k ∧ allOk s k) (fun i => s.size - (intOf i).toNat)
  case atStart => exact ⟨0, Nat.zero_le _, rfl, fun j _ h => absurd h (Nat.not_lt_zero _)⟩
  case round =>
    obtain ⟨k, hk, rfl, hall⟩ := hrel
    have H := Lib.hid hall
    clear hall
    by_cases hlt : k < s.size
    · go_wp2
      all_goals
        first
          | (go_ret; exact ⟨ret_bool (isName_false hlt (by rw [← Bool.not_eq_true, okChar_iff]; simp only [bne_iff_ne, bne_eq_false_iff_eq, ne_eq] at *; omega)).symm, rfl⟩)
          | exact ⟨⟨k + 1, by omega, by go_num, allOk_succ H.out hlt ((okChar_iff _).2 (by simp only [bne_iff_ne, bne_eq_false_iff_eq, ne_eq] at *; omega))⟩, by simp [intOf]; omega⟩
    · obtain rfl : k = s.size := by omega
      have hfin : Pd.isName s = (decide (0 < s.size) && decide (s.size ≤ 40)) := by unfold Pd.isName; rw [allOk_full H.out, Bool.true_and]
      have Hf := Lib.hid hfin
      clear hfin
      by_cases h0 : 0 < s.size
      · by_cases h1 : s.size ≤ 40
        · go_wp2
          go_ret
          exact ⟨ret_bool (by rw [Hf.out]; simp [h0, h1]; omega), rfl⟩
        · go_wp2
          go_ret
          exact ⟨ret_bool (by rw [Hf.out]; simp [h0, h1]; omega), rfl⟩
      · go_wp2
        go_ret
        exact ⟨ret_bool (by rw [Hf.out]; simp [h0]), rfl⟩
theorem moutcome_any (b : Bool) (w : World) : Calls Try.prog 56 #[.bool b] w fun e w' => e = .returned (.int .i64 (Pd.outc b)) ∧ w = w' := by
  cases b
  · go_enter Try.func56, Try.ntmps56
    go_wp2
    go_ret
    exact ⟨rfl, rfl⟩
  · go_enter Try.func56, Try.ntmps56
    go_wp2
    go_ret
    exact ⟨rfl, rfl⟩
theorem del_snoc_same {l : Pd.Names} {k : ByteArray} {e : ByteArray × Nat} (he : e.1 = k) : Pd.del (l ++ [e]) k = Pd.del l k := by
  simp [Pd.del, List.filter_append, he]
theorem del_snoc_ne {l : Pd.Names} {k : ByteArray} {e : ByteArray × Nat} (he : ¬ e.1 = k) : Pd.del (l ++ [e]) k = Pd.del l k ++ [e] := by
  simp [Pd.del, List.filter_append, he]
theorem info_ment : (Try.prog.info? 94).map (fun i => (i.zero, i.size, i.bytes)) = some (some (.agg #[.string ByteArray.empty, .int .i64 0]), 2, 24) := by kernel_rfl
/-- What a function that makes a row of names leaves. -/
def EntTo (w : World) (l : Pd.Names) (e : Ending) (w' : World) : Prop :=
  ∃ v, e = .returned v ∧ w'.ownsRow 0 94 2 v l.length (entV l) ∧ (∀ b, v.ownBlock = some b → w.heap.size ≤ b) ∧ Fr (fun _ => False) w w'
set_option maxRecDepth 100000 in
set_option maxHeartbeats 2000000 in
theorem without_any {w : World} {M : Nat → Prop} {v : Value} {l : Pd.Names} (h : RdIn w M 2 v l.length (entV l)) (k : ByteArray) : Calls Try.prog 72 #[v, .string k] w (EntTo w (Pd.del l k)) := by
  obtain ⟨a, cap, rfl, _⟩ := h.slice
  have hlen := h.2.1
  obtain ⟨i0, hi, hz0, hz1, hz2⟩ := info_parts info_ment
  have H := Lib.hid h
  have HI := Lib.hid hi
  have HZ0 := Lib.hid hz0
  have HZ1 := Lib.hid hz1
  have HZ2 := Lib.hid hz2
  clear h hi hz0 hz1 hz2
  go_enter Try.func72, Try.ntmps72
  go_upto_region 3 with (fail)
  go_loopw [5, 6] (fun v5 i wr => ∃ (j : Nat), i = .int .i64 j ∧ j ≤ l.length ∧ wr.ownsRow 0 94 2 v5 (Pd.del (l.take j) k).length (entV (Pd.del (l.take j) k)) ∧ (∀ b, v5.ownBlock = some b → w.heap.size ≤ b) ∧ Fr (fun _ => False) w wr) (fun v5 i wr => l.length - (intOf i).toNat)
  case atStart => exact ⟨0, rfl, Nat.zero_le _, World.ownsRow_nil _ _ _ _, by simp [Value.ownBlock], Fr.refl _ _⟩
  case round =>
    obtain ⟨j, rfl, hj, hrow, hown, hf⟩ := hrel
    have HR := Lib.hid hrow
    have HO := Lib.hid hown
    have HF := Lib.hid hf
    clear hrow hown
    by_cases hlt : j < l.length
    · have hx : l[j]? = some l[j] := List.getElem?_eq_getElem hlt
      generalize l[j] = e at hx
      obtain ⟨e1, e2⟩ := entV_get hx
      obtain ⟨b, c, rfl, hc, _, _, c0, c1⟩ := (H.out.kept hf (fun b _ _ e => e)).two hlt e1 e2
      clear e1 e2 hf
      by_cases he : e.1.toList = k.toList
      · go_wp2
        refine ⟨⟨j + 1, by go_num, by omega, ?_, HO.out, HF.out⟩, by simp [intOf]; omega⟩
        rw [List.take_add_one, hx, Option.toList_some, del_snoc_same (toList_inj.1 he)]
        exact HR.out
      · have heb : (e.1.toList == k.toList) = false := by simpa using he
        have hdl : (Pd.del (l.take j) k).length ≤ 1000000000000 := by
          have h1 := Pd.length_del (l.take j) k
          have h2 : (l.take j).length ≤ l.length := by rw [List.length_take]; omega
          omega
        go_wp2_with (at_builtin; go_must (refine wpList_append_own_at _ rfl (.tmp 20) (.tmp 25) 53 rfl 0 94 i0 (.agg #[.string ByteArray.empty, .int .i64 0]) 2 24 Try.underlying53 HI.out HZ0.out HZ1.out HZ2.out rfl (by decide) _ _ _ rfl (HR.out.alloc _) ⟨wr.heap.size, 0, none⟩ 1 1 [.string e.1, .int .i64 e.2] rfl rfl (cell_two_new _ _ _ _) (oneCells_two rfl rfl) (by unfold maxLen; omega) (by omega) (Nat.zero_le _) ?_; intro v' w1 hown1 hg1 hnil1 hloc1))
        refine ⟨⟨j + 1, by go_num, by omega, ?_, ?_, ?_⟩, by simp [intOf]; omega⟩
        · rw [List.take_add_one, hx, Option.toList_some, del_snoc_ne (fun h => he (toList_inj.2 h)), List.length_append, entV_append]
          exact hown1
        · intro b hb
          rcases hloc1 with h1 | h1
          · exact HO.out b (h1.symm.trans hb)
          · rw [h1] at hb
            cases hb
            have := HF.out.size
            simp
            omega
        · refine (((HF.out.alloc _).grown hg1 (fun k hk => .inr (HO.out k hk))))
    · obtain rfl : j = l.length := by omega
      clear hf
      go_wp2
      go_ret
      refine ⟨_, rfl, ?_, HO.out, HF.out⟩
      have := HR.out
      rw [List.take_length] at this
      exact this
end Go.Proofs.Ytigcokgjikkohaa
