/- The model's files are copied and written; sync. -/
import Derived.Test.YtigcokgjikkohaaMo8
namespace Go.Proofs.Ytigcokgjikkohaa
open Go.RowKit Go.Maps Go.Sort
set_option linter.unusedVariables false
set_option linter.unusedSimpArgs false
theorem info_mfile : (Try.prog.info? 92).map (fun i => (i.zero, i.size, i.bytes)) = some (some (.agg #[.string ByteArray.empty, .int .i64 0]), 2, 24) := by kernel_rfl
theorem filV_one (l : List Pd.PFile) : ∀ u ∈ filV l, u.oneCell' = true := by
  induction l with
  | nil => simp [filV]
  | cons e r ih =>
    intro u hu
    simp only [filV, List.mem_cons] at hu
    rcases hu with rfl | rfl | hu
    · rfl
    · rfl
    · exact ih u hu
theorem filV_set_dur (d : Nat) : ∀ (fs : List Pd.PFile) (k : Nat), (filV fs).set (k * 2 + 1) (.int .i64 d) = filV (fs.modify k fun f => { f with dur := d })
  | [], _ => by simp [filV]
  | f :: r, 0 => by simp [filV]
  | f :: r, k + 1 => by
    rw [show (k + 1) * 2 + 1 = k * 2 + 1 + 1 + 1 by omega]
    simp only [filV, List.set_cons_succ, List.modify_succ_cons, filV_set_dur d r k]
theorem filV_set_data (z : ByteArray) : ∀ (fs : List Pd.PFile) (k : Nat), (filV fs).set (k * 2) (.string z) = filV (fs.modify k fun f => { f with data := z })
  | [], _ => by simp [filV]
  | f :: r, 0 => by simp [filV]
  | f :: r, k + 1 => by
    rw [show (k + 1) * 2 = k * 2 + 1 + 1 by omega]
    simp only [filV, List.set_cons_succ, List.modify_succ_cons, filV_set_data z r k]
theorem modify_at (fs : List Pd.PFile) (k : Nat) (g g' : Pd.PFile → Pd.PFile) (h : k < fs.length → g (Pd.fileAt fs k) = g' (Pd.fileAt fs k)) : fs.modify k g = fs.modify k g' := by
  apply List.ext_getElem?
  intro i
  rw [List.getElem?_modify, List.getElem?_modify]
  by_cases e : k = i
  · subst e
    by_cases hk : k < fs.length
    · rw [fileAt_get hk]
      simp [h hk]
    · rw [List.getElem?_eq_none (by omega)]
      rfl
  · simp [e]
theorem ModelTo.drew {w w' : World} {M : Nat → Prop} {m : Nat} {s : Pd.PD} (h : ModelTo w M m s w') : ModelTo w M m s w'.drew :=
  ⟨h.1.kept (S := fun _ => False) ((Fr.refl (fun _ => False) w').drew) (fun _ _ _ e => e) (fun e => e), h.2.drew⟩
theorem row_some {w : World} {base e sz n : Nat} {v : Value} {ys : List Value} (h : w.ownsRow base e sz v n ys) (hn : 0 < n) : ∃ g cap, v = .slice (some ⟨g, 0, none⟩) n cap := by
  rcases h.2 with ⟨_, h0⟩ | ⟨g, cap, cur, rfl, _⟩
  · omega
  · exact ⟨g, cap, rfl⟩
theorem row_block {w : World} {e sz n g cap : Nat} {ys : List Value} (h : w.ownsRow 0 e sz (.slice (some ⟨g, 0, none⟩) n cap) n ys) :
    ∃ cur : Array Value, w.heap[g]? = some (.cells cur e (0, 0)) ∧ n ≤ cap ∧ cap ≤ maxLen ∧ cur.size = cap * sz ∧ cur.toList.take (n * sz) = ys := by
  rcases h.2 with ⟨h1, _⟩ | ⟨g', c', cur, h1, _, h3, h4, h5, h6, h7⟩
  · cases h1
  · cases h1
    exact ⟨cur, h3, h4, h5, h6, h7⟩
theorem row_set {w : World} {e sz n g cap : Nat} {ys : List Value} (h : w.ownsRow 0 e sz (.slice (some ⟨g, 0, none⟩) n cap) n ys) (i : Nat) (u : Value) : (w.setCell ⟨g, i, none⟩ u).ownsRow 0 e sz (.slice (some ⟨g, 0, none⟩) n cap) n (ys.set i u) := by
  obtain ⟨cur, h3, h4, h5, h6, h7⟩ := row_block h
  refine ⟨by simp [h.1], .inr ⟨g, cap, cur.setIfInBounds i u, rfl, Nat.zero_le _, heap_set_same h3, h4, h5, by simp [h6], ?_⟩⟩
  rw [Array.toList_setIfInBounds, List.take_set, h7]
theorem row_cell {w : World} {e sz n g cap : Nat} {ys : List Value} (h : w.ownsRow 0 e sz (.slice (some ⟨g, 0, none⟩) n cap) n ys) {i : Nat} {u : Value} (hu : ys[i]? = some u) : w.cell? ⟨g, i, none⟩ = some u := by
  obtain ⟨cur, h3, h4, h5, h6, h7⟩ := row_block h
  rw [cell_at h3 i]
  subst h7
  obtain ⟨h8, h9⟩ := List.getElem?_eq_some_iff.1 hu
  rw [List.getElem_take] at h9
  have h10 : i < cur.size := by simp at h8; omega
  rw [Array.getElem?_eq_getElem h10]
  exact congrArg some h9
theorem row_free {w : World} {e sz n g cap : Nat} {ys : List Value} (h : w.ownsRow 0 e sz (.slice (some ⟨g, 0, none⟩) n cap) n ys) (i : Nat) : w.frozen? ⟨g, i, none⟩ = false := by
  obtain ⟨cur, h3, _⟩ := row_block h
  exact free_at h3 i
theorem mfile_close {w1 w2 : World} {M : Nat → Prop} {m g n cap i : Nat} {fv nv dv pv u : Value} {t : Pd.PD} {fs' : List Pd.PFile} (p1 : ModelP w1 M m fv nv dv pv t) (hf2 : Fr (fun _ => False) w1 w2)
    (hown : w2.ownsRow 0 92 2 (.slice (some ⟨g, 0, none⟩) n cap) n (filV t.files)) (hn : n = fs'.length) (hn2 : n ≤ 1000000000000) (hg : w1.heap.size ≤ g) (hset : (filV t.files).set i u = filV fs') :
    ModelTo w1 M m { t with files := fs' } ((w2.setCell ⟨m, 3, none⟩ (.slice (some ⟨g, 0, none⟩) n cap)).setCell ⟨g, i, none⟩ u) := by
  have hlt := p1.lt
  have hgm : g ≠ m := by omega
  have hf3 : Fr (fun i => i = m) w1 (w2.setCell ⟨m, 3, none⟩ (.slice (some ⟨g, 0, none⟩) n cap)) := (hf2.mono (S' := fun i => i = m) (fun i e => e.elim)).setCell ⟨m, 3, none⟩ _ (.inl rfl)
  have hf4 : Fr (fun i => i = m) w1 ((w2.setCell ⟨m, 3, none⟩ (.slice (some ⟨g, 0, none⟩) n cap)).setCell ⟨g, i, none⟩ u) := hf3.setCell ⟨g, i, none⟩ u (.inr hg)
  have p2 := p1.kept hf2 (fun _ _ _ e => e) (fun e => e)
  have hrow3 : (w2.setCell ⟨m, 3, none⟩ (.slice (some ⟨g, 0, none⟩) n cap)).ownsRow 0 92 2 (.slice (some ⟨g, 0, none⟩) n cap) n (filV t.files) := ownsRow_fr (S := fun i => i = m) hown ((Fr.refl (fun i => i = m) w2).setCell ⟨m, 3, none⟩ _ (.inl rfl)) (fun b hb e => by cases hb; exact hgm e)
  have hrow4 := row_set hrow3 i u
  rw [hset] at hrow4
  refine p1.turn hf4 ((heap_set_other (heap_set_same p2.cell) (fun e => hgm e.symm)).trans rfl) p1.lim ?_ (p1.hn.past hf4 p1.hm) (p1.hd.past hf4 p1.hm) (p1.hp.past hf4 p1.hm)
  show RdIn _ _ 2 _ fs'.length (filV fs')
  rw [← hn]
  exact RdIn.of_row hrow4 hn2 (fun b hb => by cases hb; exact .inr hg)
set_option maxRecDepth 100000 in
set_option maxHeartbeats 2000000 in
theorem msync_any {w : World} {M : Nat → Prop} {m n : Nat} {s : Pd.PD} (h : ModelAt w M m s) (hi : Pd.Inv n s) (a : ByteArray) :
    Calls Try.prog 30 #[.pointer (some ⟨m, 0, none⟩), .string a] w fun e w' => e = .returned (.int .i64 (s.sync a).1) ∧ ModelTo w M m (s.sync a).2 w' := by
  obtain ⟨an, capn, c4, c2, hr⟩ := h.names
  have H := Lib.hid h
  have HR := Lib.hid hr
  clear h hr
  by_cases hd : s.down = true
  · have e : s.sync a = (18, s) := by unfold Pd.PD.sync; rw [if_pos hd]
    rw [e]
    rw [hd] at c2
    clear hd e
    go_enter Try.func30, Try.ntmps30
    go_wp2_with (go_at_call 52; refine (mfind_any HR.out a).mono ?_; rintro e w' ⟨rfl, rfl⟩)
    go_ret
    exact ⟨rfl, ModelTo.same H.out (Fr.refl _ _)⟩
  · have hd : s.down = false := by simpa using hd
    rw [hd] at c2
    rcases hf : Pd.find s.names a with _ | k
    · have e : s.sync a = (10, s) := by unfold Pd.PD.sync; rw [if_neg (by rw [hd]; decide), hf]
      have hk := fnd_none hf
      rw [e]
      clear hd e hf
      go_enter Try.func30, Try.ntmps30
      go_wp2_with (go_at_call 52; refine (mfind_any HR.out a).mono ?_; rintro e w' ⟨rfl, rfl⟩; rw [hk])
      go_ret
      exact ⟨rfl, ModelTo.same H.out (Fr.refl _ _)⟩
    · have hk := fnd_some hf
      have hkn : ¬ ((k : Int) < 0) := by omega
      have hkf : k < s.tick.2.files.length := by rw [(Pd.tick_same s).2.1]; exact (hi.nm _ (Pd.find_mem hf)).2
      rcases hb : s.tick.1 with _ | _
      · have e : s.sync a = (0, { s.tick.2 with files := s.tick.2.files.modify k fun f => { f with dur := (Pd.fileAt s.tick.2.files k).data.size } }) := by
          unfold Pd.PD.sync
          rw [if_neg (by rw [hd]; decide), hf]
          dsimp only
          rw [if_neg (by rw [hb]; decide), (Pd.tick_same s).2.1, modify_at s.files k (fun f => { f with dur := f.data.size }) (fun f => { f with dur := (Pd.fileAt s.files k).data.size }) (fun _ => rfl)]
        rw [e]
        clear hd e hf
        obtain ⟨i0, hi0, hz0, hz1, hz2⟩ := info_parts info_mfile
        go_enter Try.func30, Try.ntmps30
        go_upto_region 8 with (first
          | (go_at_call 54; refine (mfails_any H.out).mono ?_; rintro e w1 ⟨rfl, ht1⟩; rw [hb])
          | (go_at_call 52; refine (mfind_any HR.out a).mono ?_; rintro e w' ⟨rfl, rfl⟩; rw [hk]))
        obtain ⟨⟨fv, nv, dv, pv, p1⟩, hf1⟩ := ht1
        obtain ⟨af, capf, rfl, _⟩ := p1.hf.slice
        rcases p1.hf.2.2 with ⟨_, h0⟩ | ⟨g0, cap0, hv, _, _, _, _, _⟩
        · omega
        · cases hv
          have hfl := p1.hf.2.1
          have PP := Lib.hid p1
          have HF1 := Lib.hid hf1
          obtain ⟨_, _, _, c3, _, _, _⟩ := p1.cells
          have z3 := p1.free 3
          have hlt := p1.lt
          have hE := rd_cells (p1.hf.kept ((Fr.refl (fun _ => False) w1).alloc (.cells #[] 92 (0, 0))) (fun _ _ _ e => e))
          have HE := Lib.hid hE
          clear p1 hf1 hE c4 c2
          go_upto_region 9 with (at_builtin; go_must (refine wpList_append_own_at _ rfl (.tmp 24) (.tmp 28) 52 rfl 0 92 i0 (.agg #[.string ByteArray.empty, .int .i64 0]) 2 24 Try.underlying52 hi0 hz0 hz1 hz2 rfl (by decide) (.slice (some ⟨w1.heap.size, 0, none⟩) 0 0) 0 [] (by rfl) (row_empty (heap_alloc_this w1 _)) g0 s.tick.2.files.length capf (filV s.tick.2.files) rfl (length_filV _) HE.out (filV_one _) (by unfold maxLen; omega) (by omega) (Nat.zero_le _) ?_; intro v3 w2 hown2 hg2 _ hloc2; have hf2 : Fr (fun _ => False) w1 w2 := ((Fr.refl (fun _ => False) w1).alloc _).grown hg2 (fun k hk => .inr (by simp [Value.ownBlock] at hk; omega)); have h3l : ∀ b, v3.ownBlock = some b → w1.heap.size ≤ b := own_fresh (w0 := w1) (fun b hb => by simp [Value.ownBlock] at hb; omega) (by first | omega | (simp; done) | (simp; omega)) hloc2; obtain ⟨g, cap, rfl⟩ := row_some hown2 (by omega); have p2 := PP.out.kept hf2 (fun _ _ _ e => e) (fun e => e); obtain ⟨_, _, _, d3, _, _, _⟩ := p2.cells; have y3 := p2.free 3))
          have hgl : w1.heap.size ≤ g := h3l g rfl
          have hgm : g ≠ m := by omega
          have hrow2 : w2.ownsRow 0 92 2 (.slice (some ⟨g, 0, none⟩) s.tick.2.files.length cap) s.tick.2.files.length (filV s.tick.2.files) := by simpa only [Nat.zero_add, List.nil_append] using hown2
          have hrow3 : (w2.setCell ⟨m, 3, none⟩ (.slice (some ⟨g, 0, none⟩) s.tick.2.files.length cap)).ownsRow 0 92 2 (.slice (some ⟨g, 0, none⟩) s.tick.2.files.length cap) s.tick.2.files.length (filV s.tick.2.files) := ownsRow_fr (S := fun i => i = m) hrow2 ((Fr.refl (fun i => i = m) w2).setCell ⟨m, 3, none⟩ _ (.inl rfl)) (fun b hb e => by cases hb; exact hgm e)
          have k3 : (w2.setCell ⟨m, 3, none⟩ (.slice (some ⟨g, 0, none⟩) s.tick.2.files.length cap)).cell? ⟨m, 3, none⟩ = some (.slice (some ⟨g, 0, none⟩) s.tick.2.files.length cap) := (cell_at (heap_set_same p2.cell) 3).trans rfl
          have e0 := row_cell hrow3 (filV_get (fileAt_get hkf)).1
          have e1 := row_cell hrow3 (filV_get (fileAt_get hkf)).2
          have e2 := row_free hrow3 (k * 2 + 1)
          have hki : (k : Int) < (s.tick.2.files.length : Int) := by omega
          have hclose := mfile_close (i := k * 2 + 1) PP.out hf2 hrow2 (by rw [List.length_modify]) hfl hgl (filV_set_dur (Pd.fileAt s.tick.2.files k).data.size s.tick.2.files k)
          have HCL := Lib.hid hclose
          clear hown2 hg2 hloc2 hf2 h3l p2 d3 y3 c3 z3 hrow2 hrow3 hclose hi0 hz0 hz1 hz2 HE
          generalize w2.setCell ⟨m, 3, none⟩ (.slice (some ⟨g, 0, none⟩) s.tick.2.files.length cap) = w3 at k3 e0 e1 e2 HCL ⊢
          go_region
          all_goals
            go_wp2
            go_ret
            exact ⟨rfl, (ModelTo.trans ⟨⟨_, _, _, _, PP.out⟩, HF1.out⟩ HCL.out).drew⟩
      · have e : s.sync a = (32, s.tick.2) := by
          unfold Pd.PD.sync
          rw [if_neg (by rw [hd]; decide), hf]
          dsimp only
          rw [if_pos hb]
        rw [e]
        clear hd e hf
        go_enter Try.func30, Try.ntmps30
        go_wp2_with (first
          | (go_at_call 54; refine (mfails_any H.out).mono ?_; rintro e w1 ⟨rfl, ht1⟩; rw [hb])
          | (go_at_call 52; refine (mfind_any HR.out a).mono ?_; rintro e w' ⟨rfl, rfl⟩; rw [hk]))
        go_ret
        exact ⟨rfl, ht1⟩
end Go.Proofs.Ytigcokgjikkohaa
