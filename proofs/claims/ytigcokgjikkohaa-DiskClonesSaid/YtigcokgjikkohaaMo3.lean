/- The model's with. -/
import Derived.Test.YtigcokgjikkohaaMo2
import Derived.Deep.DeepCutAuto
import Derived.Deep.QuietTactic
import Derived.Laws.AppendOwnNone
namespace Go.Proofs.Ytigcokgjikkohaa
open Go.RowKit Go.Maps Go.Sort
set_option linter.unusedVariables false
set_option linter.unusedSimpArgs false
theorem Fr.drewM {S : Nat → Prop} {a w : World} (h : Fr S a w) (n : Nat) : Fr S a (w.drewN n) := ⟨h.os, h.tape, h.output, h.size, h.block⟩
theorem bytesLess_before : ∀ a b : List UInt8, Op.bytesLess a b = bytesBefore a b
  | [], [] => rfl
  | [], _ :: _ => rfl
  | _ :: _, [] => rfl
  | a :: r, b :: s => by simp only [Op.bytesLess, bytesBefore, bytesLess_before r s]
theorem before_asym : ∀ a b : List UInt8, bytesBefore a b = true → bytesBefore b a = true → False
  | [], [], h, _ => by simp [bytesBefore] at h
  | [], _ :: _, _, h => by simp [bytesBefore] at h
  | _ :: _, [], h, _ => by simp [bytesBefore] at h
  | a :: r, b :: s, h, h' => by
    simp only [bytesBefore, Bool.or_eq_true, decide_eq_true_eq, Bool.and_eq_true, beq_iff_eq, UInt8.lt_iff_toNat_lt] at h h'
    rcases h with h | ⟨rfl, h⟩
    · rcases h' with h' | ⟨rfl, h'⟩
      · omega
      · omega
    · rcases h' with h' | ⟨_, h'⟩
      · omega
      · exact before_asym r s h h'
theorem before_total : ∀ a b : List UInt8, a ≠ b → bytesBefore a b = true ∨ bytesBefore b a = true
  | [], [], h => absurd rfl h
  | [], _ :: _, _ => .inl rfl
  | _ :: _, [], _ => .inr rfl
  | a :: r, b :: s, h => by
    simp only [bytesBefore, Bool.or_eq_true, decide_eq_true_eq, Bool.and_eq_true, beq_iff_eq, UInt8.lt_iff_toNat_lt]
    by_cases e : a = b
    · subst e
      rcases before_total r s (fun e => h (by rw [e])) with h1 | h1
      · exact .inl (.inr ⟨rfl, h1⟩)
      · exact .inr (.inr ⟨rfl, h1⟩)
    · have : a.toNat ≠ b.toNat := fun e' => e (UInt8.toNat_inj.1 e')
      omega
theorem ins_split {x : ByteArray × Nat} : ∀ {l : Pd.Names} {j : Nat}, (∀ e ∈ l.take j, Pd.nbef e.1 x.1 = true) → (∀ e, l[j]? = some e → Pd.nbef e.1 x.1 = false) → (∀ e ∈ l, e.1 ≠ x.1) → Pd.ins x l = l.take j ++ x :: l.drop j
  | [], j, _, _, _ => by simp [Pd.ins]
  | y :: r, 0, _, h2, h3 => by
    have h4 := h2 y rfl
    have hne : x.1.data.toList ≠ y.1.data.toList := fun e => h3 y List.mem_cons_self (by
      have : y.1.toList = x.1.toList := by rw [ByteArray.toList_eq, ByteArray.toList_eq, e]
      exact toList_inj.1 this)
    have h5 : Pd.nbef x.1 y.1 = true := by
      rcases before_total _ _ hne with h | h
      · exact h
      · unfold Pd.nbef at h4; rw [h] at h4; cases h4
    simp [Pd.ins, h5]
  | y :: r, j + 1, h1, h2, h3 => by
    have h4 := h1 y (by simp)
    have h5 : Pd.nbef x.1 y.1 = false := by
      rw [← Bool.not_eq_true]
      intro h
      exact before_asym _ _ h h4
    have ih := ins_split (x := x) (l := r) (j := j) (fun e he => h1 e (by simp [he])) (fun e he => h2 e (by simpa using he)) (fun e he => h3 e (List.mem_cons_of_mem _ he))
    simp [Pd.ins, h5, ih]
theorem del_ne {l : Pd.Names} {k : ByteArray} : ∀ e ∈ Pd.del l k, e.1 ≠ k := by
  intro e he
  have := (List.mem_filter.1 he).2
  simpa using this
theorem entV_take : ∀ (l : Pd.Names) (j : Nat), entV (l.take j) = (entV l).take (j * 2)
  | [], _ => by simp [entV]
  | _ :: _, 0 => by simp [entV]
  | e :: r, j + 1 => by
    rw [show (j + 1) * 2 = j * 2 + 1 + 1 by omega]
    simp [entV, entV_take r j]
theorem entV_drop : ∀ (l : Pd.Names) (j : Nat), entV (l.drop j) = (entV l).drop (j * 2)
  | [], _ => by simp [entV]
  | _ :: _, 0 => by simp
  | e :: r, j + 1 => by
    rw [show (j + 1) * 2 = j * 2 + 1 + 1 by omega]
    simp [entV, entV_drop r j]
theorem entV_one (l : Pd.Names) : ∀ u ∈ entV l, u.oneCell' = true := by
  induction l with
  | nil => simp [entV]
  | cons e r ih =>
    intro u hu
    simp only [entV, List.mem_cons] at hu
    rcases hu with rfl | rfl | hu
    · rfl
    · rfl
    · exact ih u hu
theorem row_cast {w : World} {base e sz n n' : Nat} {v : Value} {ys ys' : List Value} (h : w.ownsRow base e sz v n ys) (hn : n = n') (hy : ys = ys') : w.ownsRow base e sz v n' ys' := by
  subst hn; subst hy; exact h
theorem own_fresh {w0 w : World} {v v' : Value} (h : ∀ b, v.ownBlock = some b → w0.heap.size ≤ b) (hs : w0.heap.size ≤ w.heap.size) (hl : v'.ownBlock = v.ownBlock ∨ v'.ownBlock = some w.heap.size) : ∀ b, v'.ownBlock = some b → w0.heap.size ≤ b := by
  intro b hb
  rcases hl with h1 | h1
  · exact h b (h1.symm.trans hb)
  · rw [h1] at hb; cases hb; exact hs
theorem rd_cells {w : World} {M : Nat → Prop} {g : Addr} {cap n sz : Nat} {ys : List Value} (h : RdIn w M sz (.slice (some g) n cap) n ys) : ∀ (j : Nat) u, ys[j]? = some u → w.cell? (g.add j) = some u := by
  rcases h.2.2 with ⟨h1, _⟩ | ⟨a, c, h1, _, _, _, _, h6⟩
  · cases h1
  · cases h1; exact h6
set_option maxRecDepth 100000 in
set_option maxHeartbeats 4000000 in
theorem with_any {w : World} {M : Nat → Prop} {v : Value} {l : Pd.Names} (h : RdIn w M 2 v l.length (entV l)) (k : ByteArray) (i : Nat) : Calls Try.prog 73 #[v, .agg #[.string k, .int .i64 i]] w (EntTo w (Pd.put l k i)) := by
  obtain ⟨a, cap, rfl, _⟩ := h.slice
  have hlen := h.2.1
  obtain ⟨i0, hi, hz0, hz1, hz2⟩ := info_parts info_ment
  have H := Lib.hid h
  have HI := Lib.hid hi
  have HZ0 := Lib.hid hz0
  have HZ1 := Lib.hid hz1
  have HZ2 := Lib.hid hz2
  have hb0 := heap_alloc_this w (.cells #[.string k, .int .i64 i] 94 (0, 0))
  have hfa : Fr (fun _ => False) w (w.alloc (.cells #[.string k, .int .i64 i] 94 (0, 0))) := (Fr.refl _ _).alloc _
  have x0 := cell_at hb0 0
  have x1 := cell_at hb0 1
  clear h hi hz0 hz1 hz2
  go_enter Try.func73, Try.ntmps73
  go_upto_region 3 with (first
    | (go_at_call 72; refine (without_any (H.out.kept hfa (fun b _ _ e => e)) k).mono ?_; rintro e w1 ⟨v1, rfl, hrow1, hown1, hf1⟩))
  have hb1 := (hf1.block _ (lt_of_some hb0) (fun e => e)).trans hb0
  clear x0 x1 hb0 H
  have hl1 : (Pd.del l k).length ≤ 1000000000000 := by have := Pd.length_del l k; omega
  have hne := @del_ne l k
  obtain ⟨l1, hl1e⟩ : ∃ l1, Pd.del l k = l1 := ⟨_, rfl⟩
  have hput : Pd.put l k i = Pd.ins (k, i) l1 := by unfold Pd.put; rw [hl1e]
  rw [hl1e] at hrow1 hl1 hne
  have HPUT := Lib.hid hput
  clear hput hl1e
  have hfw := hfa.trans hf1 (fun i e => e.elim)
  have hrd := RdIn.of_row (M := fun b => v1.ownBlock = some b) hrow1 hl1 (fun b e => e)
  obtain ⟨a1, cap1, rfl, hcap1⟩ := hrd.slice
  have HRD := Lib.hid hrd
  have HROW := Lib.hid hrow1
  have HFW := Lib.hid hfw
  have HOWN := Lib.hid hown1
  have HNE := Lib.hid hne
  have HB1 := Lib.hid hb1
  clear hrd hrow1 hfw hown1 hne hf1 hfa hb1
  go_upto_region 4 with (fail)
  rcases HRD.out.2.2 with ⟨hv, hn0⟩ | ⟨g, cap', hv, _, _, _, _, _⟩
  · obtain rfl : l1 = [] := List.length_eq_zero_iff.1 hn0
    cases hv
    have hput : Pd.put l k i = [(k, i)] := HPUT.out
    have HPUT2 := Lib.hid hput
    clear hput HPUT HRD HROW HNE hl1 hcap1 hn0 HOWN
    go_loopw [6] (fun i wr => i = .int .i64 0 ∧ Fr (fun _ => False) w1 wr) (fun i wr => 0)
    case atStart => exact ⟨rfl, Fr.refl _ _⟩
    case round =>
      obtain ⟨rfl, hf⟩ := hrel
      have HF := Lib.hid hf
      clear hf
      go_upto_region 4 with (fail)
      refine wp_region_quiet_lit (by kernel_rfl) (by kernel_rfl) ?_
      iterate 14 (refine (wpQuiet_step (fun K hK => ?_) : _); go_simp; refine hK _ ?_; clear hK K)
      refine (wpQuiet_nil ?_ : _)
      intro _ hw'
      obtain ⟨nq, hw''⟩ := hw'
      subst hw''
      go_upto_region 6 with (fail)
      have hfe := HF.out.drewM nq
      generalize wr.drewN nq = wE at hfe ⊢
      have HB2 := Lib.hid ((hfe.block _ (lt_of_some HB1.out) (fun e => e)).trans HB1.out)
      have x0 := cell_at HB2.out 0
      have x1 := cell_at HB2.out 1
      go_upto_region 7 with (at_builtin; go_must (refine wpList_append_own_none rfl (.tmp 27) (.tmp 30) 53 rfl 0 94 i0 2 Try.underlying53 HI.out (.slice none 0 0) 0 [] rfl (World.ownsRow_nil _ _ _ _) (by rfl) ?_))
      go_upto_region 8 with (at_builtin; go_must (refine wpList_append_own_at _ rfl (.tmp 32) (.tmp 34) 53 rfl 0 94 i0 (.agg #[.string ByteArray.empty, .int .i64 0]) 2 24 Try.underlying53 HI.out HZ0.out HZ1.out HZ2.out rfl (by decide) (.slice none 0 0) 0 [] (by rfl) (World.ownsRow_nil _ _ _ _) ⟨wE.heap.size, 0, none⟩ 1 1 [.string k, .int .i64 i] rfl rfl (cell_two_new _ _ _ _) (oneCells_two rfl rfl) (by unfold maxLen; omega) (by omega) (Nat.zero_le _) ?_; intro v3 w3 hown3 hg3 _ hloc3))
      have HO3 := Lib.hid hown3
      have HG3 := Lib.hid hg3
      have HL3 := Lib.hid hloc3
      clear hown3 hg3 hloc3
      go_wp2_with (at_builtin; go_must (refine wpList_append_own_none rfl (.tmp 36) (.tmp 39) 53 rfl 0 94 i0 2 Try.underlying53 HI.out v3 (0 + 1) ([] ++ [.string k, .int .i64 i]) (by rfl) HO3.out (by rfl) ?_))
      go_ret
      have hs3 := hfe.size
      refine ⟨v3, rfl, row_cast HO3.out ?_ ?_, fun b hb => Nat.le_trans HFW.out.size (own_fresh (v := .slice none 0 0) (fun b e => by cases e) (by simp; omega) HL3.out b hb), HFW.out.trans ((hfe.alloc _).grown HG3.out (fun k hk => by cases hk)) (fun i e => e.elim)⟩
      · rw [HPUT2.out]
        rfl
      · rw [HPUT2.out]
        rfl
  · cases hv
    go_loopw [6] (fun i wr => ∃ (j : Nat), i = .int .i64 j ∧ j ≤ l1.length ∧ (∀ e ∈ l1.take j, Pd.nbef e.1 k = true) ∧ Fr (fun _ => False) w1 wr) (fun i wr => l1.length - (intOf i).toNat)
    case atStart => exact ⟨0, rfl, Nat.zero_le _, by simp, Fr.refl _ _⟩
    case round =>
      obtain ⟨j, rfl, hj, hall, hf⟩ := hrel
      have HALL := Lib.hid hall
      have HF := Lib.hid hf
      have HB2 := Lib.hid ((hf.block _ (lt_of_some HB1.out) (fun e => e)).trans HB1.out)
      have x0 := cell_at HB2.out 0
      have x1 := cell_at HB2.out 1
      clear hall
      by_cases hlt : j < l1.length
      · have hx : l1[j]? = some l1[j] := List.getElem?_eq_getElem hlt
        generalize l1[j] = e at hx
        obtain ⟨e1, e2⟩ := entV_get hx
        obtain ⟨b, c, hbe, hc, _, _, c0, c1⟩ := (HRD.out.kept hf (fun b _ _ e => e)).two hlt e1 e2
        cases hbe
        clear e1 e2 hf
        by_cases hn : Op.bytesLess e.1.toList k.toList = true
        · go_upto_region 4 with (fail)
          refine wp_region_quiet_lit (by kernel_rfl) (by kernel_rfl) ?_
          iterate 14 (refine (wpQuiet_step (fun K hK => ?_) : _); go_simp; refine hK _ ?_; clear hK K)
          refine (wpQuiet_nil ?_ : _)
          intro _ hw'
          obtain ⟨nq, hw''⟩ := hw'
          subst hw''
          go_wp2
          refine ⟨⟨j + 1, by go_num, by omega, ?_, HF.out.drewM nq⟩, by simp [intOf]; omega⟩
          intro y hy
          rw [List.take_add_one, hx] at hy
          rcases List.mem_append.1 hy with hy | hy
          · exact HALL.out y hy
          · simp at hy
            subst hy
            rw [bytesLess_before, ByteArray.toList_eq, ByteArray.toList_eq] at hn
            exact hn
        · have hnb : Op.bytesLess e.1.toList k.toList = false := by simpa using hn
          have hex : ∀ e', l1[j]? = some e' → Pd.nbef e'.1 k = false := by
            intro e' he'
            rw [hx] at he'
            cases he'
            rw [bytesLess_before, ByteArray.toList_eq, ByteArray.toList_eq] at hnb
            exact hnb
          have hsp := ins_split (x := (k, i)) HALL.out hex HNE.out
          have HSP := Lib.hid hsp
          clear hsp hex
          go_upto_region 4 with (fail)
          refine wp_region_quiet_lit (by kernel_rfl) (by kernel_rfl) ?_
          iterate 14 (refine (wpQuiet_step (fun K hK => ?_) : _); go_simp; refine hK _ ?_; clear hK K)
          refine (wpQuiet_nil ?_ : _)
          intro _ hw'
          obtain ⟨nq, hw''⟩ := hw'
          subst hw''
          go_upto_region 6 with (fail)
          have hfe := HF.out.drewM nq
          generalize wr.drewN nq = wE at hfe ⊢
          clear x0 x1 HB2 HF HALL
          (try clear hc)
          have hjc : (j : Int) ≤ (cap1 : Int) := by omega
          have hjl : (l1.take j).length = j := by rw [List.length_take]; omega
          have hE1 := rd_cells (HRD.out.kept hfe (fun b _ _ e => e))
          have hE2 : ∀ (m : Nat) u, (entV (l1.take j))[m]? = some u → wE.cell? (g.add m) = some u := by
            intro m u hm
            refine hE1 m u ?_
            rw [entV_take] at hm
            obtain ⟨h7, h8⟩ := List.getElem?_eq_some_iff.1 hm
            rw [List.getElem_take] at h8
            rw [← h8]
            exact List.getElem?_eq_getElem _
          have HE2 := Lib.hid hE2
          clear hE1 hE2
          go_upto_region 7 with (at_builtin; go_must (refine wpList_append_own_at _ rfl (.tmp 27) (.tmp 30) 53 rfl 0 94 i0 (.agg #[.string ByteArray.empty, .int .i64 0]) 2 24 Try.underlying53 HI.out HZ0.out HZ1.out HZ2.out rfl (by decide) (.slice none 0 0) 0 [] rfl (World.ownsRow_nil _ _ _ _) g j cap1 (entV (l1.take j)) rfl (by rw [length_entV, hjl]) HE2.out (entV_one _) (by unfold maxLen; omega) (by omega) (Nat.zero_le _) ?_; intro v2 w2 hown2 hg2 _ hloc2))
          have hs1 := hfe.size
          have hfr2 : ∀ b, v2.ownBlock = some b → w1.heap.size ≤ b := own_fresh (v := .slice none 0 0) (fun b e => by cases e) hs1 hloc2
          have hf2 : Fr (fun _ => False) w1 w2 := hfe.grown hg2 (fun k hk => by cases hk)
          have HF2 := Lib.hid hf2
          have HB2 := Lib.hid ((hf2.block _ (lt_of_some HB1.out) (fun e => e)).trans HB1.out)
          have x0 := cell_at HB2.out 0
          have x1 := cell_at HB2.out 1
          have HO2 := Lib.hid hown2
          clear hown2 hg2 hloc2 hfe HE2 hf2
          go_upto_region 8 with (at_builtin; go_must (refine wpList_append_own_at _ rfl (.tmp 32) (.tmp 34) 53 rfl 0 94 i0 (.agg #[.string ByteArray.empty, .int .i64 0]) 2 24 Try.underlying53 HI.out HZ0.out HZ1.out HZ2.out rfl (by decide) v2 (0 + j) ([] ++ entV (l1.take j)) rfl (HO2.out.alloc _) ⟨w2.heap.size, 0, none⟩ 1 1 [.string k, .int .i64 i] rfl rfl (cell_two_new _ _ _ _) (oneCells_two rfl rfl) (by unfold maxLen; omega) (by omega) (Nat.zero_le _) ?_; intro v3 w3 hown3 hg3 _ hloc3))
          have hs2 := HF2.out.size
          have hfr3 : ∀ b, v3.ownBlock = some b → w1.heap.size ≤ b := own_fresh hfr2 (by simp; omega) hloc3
          have hf3 : Fr (fun _ => False) w1 w3 := (HF2.out.alloc _).grown hg3 (fun k hk => .inr (hfr2 k hk))
          have HF3 := Lib.hid hf3
          have hE3 := rd_cells (HRD.out.kept hf3 (fun b _ _ e => e))
          have hE4 : ∀ (m : Nat) u, (entV (l1.drop j))[m]? = some u → w3.cell? ((g.add (j * 2)).add m) = some u := by
            intro m u hm
            rw [Addr.add_add]
            refine hE3 _ u ?_
            rw [entV_drop, List.getElem?_drop] at hm
            exact hm
          have HE4 := Lib.hid hE4
          have HO3 := Lib.hid hown3
          have HFR3 := Lib.hid hfr3
          clear hown3 hg3 hloc3 hfr2 hfr3 hf3 hE3 hE4 x0 x1 HF2 HB2
          by_cases hcj : cap1 = j
          · have hnj : l1.length - j = 0 := by omega
            have hdj : l1.drop j = [] := List.drop_eq_nil_of_le (by omega)
            have hcj' : (cap1 : Int) = (j : Int) := by omega
            go_wp2_with (at_builtin; go_must (refine wpList_append_own_at _ rfl (.tmp 36) (.tmp 39) 53 rfl 0 94 i0 (.agg #[.string ByteArray.empty, .int .i64 0]) 2 24 Try.underlying53 HI.out HZ0.out HZ1.out HZ2.out rfl (by decide) v3 (0 + j + 1) ([] ++ entV (l1.take j) ++ [.string k, .int .i64 i]) rfl HO3.out g 0 0 [] (by rfl) rfl (by simp) (by simp) (by unfold maxLen; omega) (by omega) (Nat.zero_le _) ?_; intro v4 w4 hown4 hg4 _ hloc4))
            go_ret
            have hs3 := HF3.out.size
            refine ⟨v4, rfl, row_cast hown4 ?_ ?_, fun b hb => Nat.le_trans HFW.out.size (own_fresh HFR3.out hs3 hloc4 b hb), HFW.out.trans (HF3.out.grown hg4 (fun k hk => .inr (HFR3.out k hk))) (fun i e => e.elim)⟩
            · rw [HPUT.out, HSP.out]
              simp only [List.length_append, List.length_cons, List.length_take, List.length_drop]
              omega
            · rw [HPUT.out, HSP.out, entV_append]
              simp only [entV, List.nil_append, List.append_assoc, List.cons_append]
              rw [hdj]
              rfl
          · have hcj' : ¬ (cap1 : Int) = (j : Int) := by omega
            have hln : (l1.drop j).length = l1.length - j := List.length_drop
            go_wp2_with (at_builtin; go_must (refine wpList_append_own_at _ rfl (.tmp 36) (.tmp 39) 53 rfl 0 94 i0 (.agg #[.string ByteArray.empty, .int .i64 0]) 2 24 Try.underlying53 HI.out HZ0.out HZ1.out HZ2.out rfl (by decide) v3 (0 + j + 1) ([] ++ entV (l1.take j) ++ [.string k, .int .i64 i]) rfl HO3.out (g.add (j * 2)) (l1.length - j) (cap1 - j) (entV (l1.drop j)) (by rfl) (by rw [length_entV, hln]) HE4.out (entV_one _) (by unfold maxLen; omega) (by omega) (Nat.zero_le _) ?_; intro v4 w4 hown4 hg4 _ hloc4))
            go_ret
            have hs3 := HF3.out.size
            refine ⟨v4, rfl, row_cast hown4 ?_ ?_, fun b hb => Nat.le_trans HFW.out.size (own_fresh HFR3.out hs3 hloc4 b hb), HFW.out.trans (HF3.out.grown hg4 (fun k hk => .inr (HFR3.out k hk))) (fun i e => e.elim)⟩
            · rw [HPUT.out, HSP.out]
              simp only [List.length_append, List.length_cons, List.length_take, List.length_drop]
              omega
            · rw [HPUT.out, HSP.out, entV_append]
              simp only [entV, List.nil_append, List.append_assoc, List.cons_append]
      · have hje : j = l1.length := by omega
        have hex : ∀ e', l1[j]? = some e' → Pd.nbef e'.1 k = false := by
          intro e' he'
          rw [List.getElem?_eq_none (by omega)] at he'
          cases he'
        clear hje
        have hcond : ¬ (j : Int) < (l1.length : Int) := by omega
        clear hf
        have hsp := ins_split (x := (k, i)) HALL.out hex HNE.out
        have HSP := Lib.hid hsp
        clear hsp hex
        go_upto_region 4 with (fail)
        refine wp_region_quiet_lit (by kernel_rfl) (by kernel_rfl) ?_
        iterate 14 (refine (wpQuiet_step (fun K hK => ?_) : _); go_simp; refine hK _ ?_; clear hK K)
        refine (wpQuiet_nil ?_ : _)
        intro _ hw'
        obtain ⟨nq, hw''⟩ := hw'
        subst hw''
        go_upto_region 6 with (fail)
        have hfe := HF.out.drewM nq
        generalize wr.drewN nq = wE at hfe ⊢
        clear x0 x1 HB2 HF HALL
        (try clear hc)
        have hjc : (j : Int) ≤ (cap1 : Int) := by omega
        have hjl : (l1.take j).length = j := by rw [List.length_take]; omega
        have hE1 := rd_cells (HRD.out.kept hfe (fun b _ _ e => e))
        have hE2 : ∀ (m : Nat) u, (entV (l1.take j))[m]? = some u → wE.cell? (g.add m) = some u := by
          intro m u hm
          refine hE1 m u ?_
          rw [entV_take] at hm
          obtain ⟨h7, h8⟩ := List.getElem?_eq_some_iff.1 hm
          rw [List.getElem_take] at h8
          rw [← h8]
          exact List.getElem?_eq_getElem _
        have HE2 := Lib.hid hE2
        clear hE1 hE2
        go_upto_region 7 with (at_builtin; go_must (refine wpList_append_own_at _ rfl (.tmp 27) (.tmp 30) 53 rfl 0 94 i0 (.agg #[.string ByteArray.empty, .int .i64 0]) 2 24 Try.underlying53 HI.out HZ0.out HZ1.out HZ2.out rfl (by decide) (.slice none 0 0) 0 [] rfl (World.ownsRow_nil _ _ _ _) g j cap1 (entV (l1.take j)) rfl (by rw [length_entV, hjl]) HE2.out (entV_one _) (by unfold maxLen; omega) (by omega) (Nat.zero_le _) ?_; intro v2 w2 hown2 hg2 _ hloc2))
        have hs1 := hfe.size
        have hfr2 : ∀ b, v2.ownBlock = some b → w1.heap.size ≤ b := own_fresh (v := .slice none 0 0) (fun b e => by cases e) hs1 hloc2
        have hf2 : Fr (fun _ => False) w1 w2 := hfe.grown hg2 (fun k hk => by cases hk)
        have HF2 := Lib.hid hf2
        have HB2 := Lib.hid ((hf2.block _ (lt_of_some HB1.out) (fun e => e)).trans HB1.out)
        have x0 := cell_at HB2.out 0
        have x1 := cell_at HB2.out 1
        have HO2 := Lib.hid hown2
        clear hown2 hg2 hloc2 hfe HE2 hf2
        go_upto_region 8 with (at_builtin; go_must (refine wpList_append_own_at _ rfl (.tmp 32) (.tmp 34) 53 rfl 0 94 i0 (.agg #[.string ByteArray.empty, .int .i64 0]) 2 24 Try.underlying53 HI.out HZ0.out HZ1.out HZ2.out rfl (by decide) v2 (0 + j) ([] ++ entV (l1.take j)) rfl (HO2.out.alloc _) ⟨w2.heap.size, 0, none⟩ 1 1 [.string k, .int .i64 i] rfl rfl (cell_two_new _ _ _ _) (oneCells_two rfl rfl) (by unfold maxLen; omega) (by omega) (Nat.zero_le _) ?_; intro v3 w3 hown3 hg3 _ hloc3))
        have hs2 := HF2.out.size
        have hfr3 : ∀ b, v3.ownBlock = some b → w1.heap.size ≤ b := own_fresh hfr2 (by simp; omega) hloc3
        have hf3 : Fr (fun _ => False) w1 w3 := (HF2.out.alloc _).grown hg3 (fun k hk => .inr (hfr2 k hk))
        have HF3 := Lib.hid hf3
        have hE3 := rd_cells (HRD.out.kept hf3 (fun b _ _ e => e))
        have hE4 : ∀ (m : Nat) u, (entV (l1.drop j))[m]? = some u → w3.cell? ((g.add (j * 2)).add m) = some u := by
          intro m u hm
          rw [Addr.add_add]
          refine hE3 _ u ?_
          rw [entV_drop, List.getElem?_drop] at hm
          exact hm
        have HE4 := Lib.hid hE4
        have HO3 := Lib.hid hown3
        have HFR3 := Lib.hid hfr3
        clear hown3 hg3 hloc3 hfr2 hfr3 hf3 hE3 hE4 x0 x1 HF2 HB2
        by_cases hcj : cap1 = j
        · have hnj : l1.length - j = 0 := by omega
          have hdj : l1.drop j = [] := List.drop_eq_nil_of_le (by omega)
          have hcj' : (cap1 : Int) = (j : Int) := by omega
          go_wp2_with (at_builtin; go_must (refine wpList_append_own_at _ rfl (.tmp 36) (.tmp 39) 53 rfl 0 94 i0 (.agg #[.string ByteArray.empty, .int .i64 0]) 2 24 Try.underlying53 HI.out HZ0.out HZ1.out HZ2.out rfl (by decide) v3 (0 + j + 1) ([] ++ entV (l1.take j) ++ [.string k, .int .i64 i]) rfl HO3.out g 0 0 [] (by rfl) rfl (by simp) (by simp) (by unfold maxLen; omega) (by omega) (Nat.zero_le _) ?_; intro v4 w4 hown4 hg4 _ hloc4))
          go_ret
          have hs3 := HF3.out.size
          refine ⟨v4, rfl, row_cast hown4 ?_ ?_, fun b hb => Nat.le_trans HFW.out.size (own_fresh HFR3.out hs3 hloc4 b hb), HFW.out.trans (HF3.out.grown hg4 (fun k hk => .inr (HFR3.out k hk))) (fun i e => e.elim)⟩
          · rw [HPUT.out, HSP.out]
            simp only [List.length_append, List.length_cons, List.length_take, List.length_drop]
            omega
          · rw [HPUT.out, HSP.out, entV_append]
            simp only [entV, List.nil_append, List.append_assoc, List.cons_append]
            rw [hdj]
            rfl
        · have hcj' : ¬ (cap1 : Int) = (j : Int) := by omega
          have hln : (l1.drop j).length = l1.length - j := List.length_drop
          go_wp2_with (at_builtin; go_must (refine wpList_append_own_at _ rfl (.tmp 36) (.tmp 39) 53 rfl 0 94 i0 (.agg #[.string ByteArray.empty, .int .i64 0]) 2 24 Try.underlying53 HI.out HZ0.out HZ1.out HZ2.out rfl (by decide) v3 (0 + j + 1) ([] ++ entV (l1.take j) ++ [.string k, .int .i64 i]) rfl HO3.out (g.add (j * 2)) (l1.length - j) (cap1 - j) (entV (l1.drop j)) (by rfl) (by rw [length_entV, hln]) HE4.out (entV_one _) (by unfold maxLen; omega) (by omega) (Nat.zero_le _) ?_; intro v4 w4 hown4 hg4 _ hloc4))
          go_ret
          have hs3 := HF3.out.size
          refine ⟨v4, rfl, row_cast hown4 ?_ ?_, fun b hb => Nat.le_trans HFW.out.size (own_fresh HFR3.out hs3 hloc4 b hb), HFW.out.trans (HF3.out.grown hg4 (fun k hk => .inr (HFR3.out k hk))) (fun i e => e.elim)⟩
          · rw [HPUT.out, HSP.out]
            simp only [List.length_append, List.length_cons, List.length_take, List.length_drop]
            omega
          · rw [HPUT.out, HSP.out, entV_append]
            simp only [entV, List.nil_append, List.append_assoc, List.cons_append]
end Go.Proofs.Ytigcokgjikkohaa
