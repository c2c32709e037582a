/- The model's append. -/
import Derived.Test.YtigcokgjikkohaaMo9
namespace Go.Proofs.Ytigcokgjikkohaa
open Go.RowKit Go.Maps Go.Sort
set_option linter.unusedVariables false
set_option linter.unusedSimpArgs false
theorem ModelAt.drewN {w : World} {M : Nat → Prop} {m : Nat} {s : Pd.PD} (h : ModelAt w M m s) (q : Nat) : ModelAt (w.drewN q) M m s :=
  h.kept (S := fun _ => False) ((Fr.refl (fun _ => False) w).drewM q) (fun _ _ _ e => e) (fun e => e)
theorem mapply_set0 {w : World} {M : Nat → Prop} {m : Nat} {s : Pd.PD} (h : ModelAt w M m s) (a : ByteArray) (ha : 0 < a.size) (hn : s.names.length ≤ 1000000) (hp : s.pending.length ≤ 1000000) :
    Calls Try.prog 55 #[.pointer (some ⟨m, 0, none⟩), .agg #[.string ⟨#[]⟩, .string a, .int .i64 0]] w fun e w' => e = .returned (.tuple #[]) ∧ ModelTo w M m (s.apply (.set a 0)) w' :=
  mapply_any h (.set a 0) ha hn hp
theorem nil_append_ba (z : ByteArray) : (⟨#[]⟩ : ByteArray) ++ z = z := by
  apply ByteArray.ext
  rw [ByteArray.data_append]
  simp
theorem two_at {w : World} {b : Nat} {x y : Value} {t : TypeId} (h : w.heap[b]? = some (.cells #[x, y] t (0, 0))) : ∀ (j : Nat) u, [x, y][j]? = some u → w.cell? ((⟨b, 0, none⟩ : Addr).add j) = some u := by
  intro j u hj
  have ha : (⟨b, 0, none⟩ : Addr).add j = ⟨b, j, none⟩ := by
    unfold Addr.add
    split
    · rename_i e; rw [e]
    · rw [Nat.zero_add]
  rw [ha, cell_at h j]
  simpa using hj
theorem modify_last (x : Pd.PFile) (g : Pd.PFile → Pd.PFile) : ∀ fs : List Pd.PFile, (fs ++ [x]).modify fs.length g = fs ++ [g x]
  | [] => rfl
  | f :: r => by simp only [List.cons_append, List.length_cons, List.modify_succ_cons, modify_last x g r]
theorem mfiles_close {w1 w4 : World} {M : Nat → Prop} {m n : Nat} {fv nv dv pv v : Value} {t : Pd.PD} {fs' : List Pd.PFile} (p1 : ModelP w1 M m fv nv dv pv t) (hf : Fr (fun _ => False) w1 w4)
    (hown : w4.ownsRow 0 92 2 v n (filV fs')) (hn : n = fs'.length) (hn2 : n ≤ 1000000000000) (hl : ∀ b, v.ownBlock = some b → w1.heap.size ≤ b) : ModelTo w1 M m { t with files := fs' } (w4.setCell ⟨m, 3, none⟩ v) := by
  have hlt := p1.lt
  have hfs : Fr (fun i => i = m) w4 (w4.setCell ⟨m, 3, none⟩ v) := (Fr.refl (fun i => i = m) w4).setCell ⟨m, 3, none⟩ _ (.inl rfl)
  have hf4 : Fr (fun i => i = m) w1 (w4.setCell ⟨m, 3, none⟩ v) := (hf.mono (fun i e => e.elim)).trans hfs (fun i e => .inl e)
  have p4 := p1.kept hf (fun _ _ _ e => e) (fun e => e)
  refine p1.turn hf4 ((heap_set_same p4.cell).trans rfl) p1.lim ?_ (p1.hn.past hf4 p1.hm) (p1.hd.past hf4 p1.hm) (p1.hp.past hf4 p1.hm)
  show RdIn _ _ 2 _ fs'.length (filV fs')
  rw [← hn]
  exact ((RdIn.of_row (M := fun b => w1.heap.size ≤ b) hown hn2 hl).kept hfs (fun b hb _ e => by subst e; omega)).mono (fun b hb _ => .inr hb)
theorem ModelTo.undrew {w w' : World} {M : Nat → Prop} {m q : Nat} {s : Pd.PD} (h : ModelTo (w.drewN q) M m s w') : ModelTo w M m s w' :=
  ⟨h.1, ((Fr.refl (fun i => i = m) w).drewM q).trans h.2 (fun i e => .inl e)⟩
set_option maxRecDepth 100000 in
set_option maxHeartbeats 4000000 in
theorem mappend_any {w : World} {M : Nat → Prop} {m n : Nat} {s : Pd.PD} (h : ModelAt w M m s) (hi : Pd.Inv n s) (hn : n < 1000000) (hfn : s.files.length ≤ 1000000) (a z : ByteArray) (ha : a.size ≤ 9223372036854775807) (hz : z.size ≤ 1000000) :
    Calls Try.prog 28 #[.pointer (some ⟨m, 0, none⟩), .string a, .string z] w fun e w' => e = .returned (.int .i64 (s.append a z).1) ∧ ModelTo w M m (s.append a z).2 w' := by
  obtain ⟨an, capn, c4, c2, hr⟩ := h.names
  have c0 : w.cell? ⟨m, 0, none⟩ = some (.int .i64 s.cap) := by obtain ⟨_, _, _, _, p⟩ := h; exact p.cells.1
  have H := Lib.hid h
  have HR := Lib.hid hr
  have HI := Lib.hid hi
  have HTB := Lib.hid (tick_bounds hi hn)
  have hub := hi.used_le
  have hft : s.tick.2.files.length ≤ 1000000 := by rw [(Pd.tick_same s).2.1]; exact hfn
  have hsum : IntKind.i64.wrap ((s.used : Int) + (z.size : Int)) = (s.used : Int) + (z.size : Int) := IntWalk.i64_in _ (by omega)
  clear h hr
  by_cases hd : s.down = true
  · have e : s.append a z = (18, s) := by unfold Pd.PD.append; rw [if_pos hd]
    rw [e]
    rw [hd] at c2
    clear hd e hi
    go_enter Try.func28, Try.ntmps28
    go_wp2_with (go_at_call 52; refine (mfind_any HR.out a).mono ?_; rintro e w' ⟨rfl, rfl⟩)
    go_ret
    exact ⟨rfl, ModelTo.same H.out (Fr.refl _ _)⟩
  · have hd : s.down = false := by simpa using hd
    rw [hd] at c2
    rcases hnm : Pd.isName a with _ | _
    · have e : s.append a z = (11, s) := by unfold Pd.PD.append; rw [if_neg (by rw [hd]; decide), if_pos hnm]
      rw [e]
      clear hd e hi
      go_enter Try.func28, Try.ntmps28
      go_wp2_with (first
        | (go_at_call 53; refine (misName_any a _ ha).mono ?_; rintro e w' ⟨rfl, rfl⟩; rw [hnm])
        | (go_at_call 52; refine (mfind_any HR.out a).mono ?_; rintro e w' ⟨rfl, rfl⟩))
      go_ret
      exact ⟨rfl, ModelTo.same H.out (Fr.refl _ _)⟩
    · have ha0 : 0 < a.size := (Pd.isName_size hnm).1
      rcases hf : Pd.find s.names a with _ | k
      · have hk := fnd_none hf
        by_cases h64 : 64 ≤ s.names.length
        · have e : s.append a z = (6, s) := by
            unfold Pd.PD.append
            rw [if_neg (by rw [hd]; decide), if_neg (by rw [hnm]; decide), hf]
            dsimp only
            rw [if_pos h64]
          rw [e]
          have h64' : 64 ≤ (s.names.length : Int) := by omega
          clear hd e hi hf
          go_enter Try.func28, Try.ntmps28
          go_wp2_with (first
            | (go_at_call 53; refine (misName_any a _ ha).mono ?_; rintro e w' ⟨rfl, rfl⟩; rw [hnm])
            | (go_at_call 52; refine (mfind_any HR.out a).mono ?_; rintro e w' ⟨rfl, rfl⟩; rw [hk]))
          go_ret
          exact ⟨rfl, ModelTo.same H.out (Fr.refl _ _)⟩
        · have h64' : ¬ (64 ≤ (s.names.length : Int)) := by omega
          by_cases hcap : s.cap < s.used + z.size
          · have e : s.append a z = (33, s) := by
              unfold Pd.PD.append
              rw [if_neg (by rw [hd]; decide), if_neg (by rw [hnm]; decide), hf]
              dsimp only
              rw [if_neg h64, if_pos hcap]
            rw [e]
            have hcap' : (s.cap : Int) < (s.used : Int) + (z.size : Int) := by omega
            clear hd e hi hf
            go_enter Try.func28, Try.ntmps28
            go_upto_region 8 with (first
              | (go_at_call 53; refine (misName_any a _ ha).mono ?_; rintro e w' ⟨rfl, rfl⟩; rw [hnm])
              | (go_at_call 52; refine (mfind_any HR.out a).mono ?_; rintro e w' ⟨rfl, rfl⟩; rw [hk]))
            go_quiet ((go_at_call 50; exact Calls.quiet_of (mused_any (H.out.drewN _) HI.out)))
            go_wp2
            go_ret
            exact ⟨rfl, ModelTo.same H.out ((Fr.refl _ _).drewM nq)⟩
          · have hcap' : ¬ ((s.cap : Int) < (s.used : Int) + (z.size : Int)) := by omega
            have e : s.append a z = (Pd.outc s.tick.1, { s.tick.2.apply (.set a s.tick.2.files.length) with files := s.tick.2.files ++ [⟨z, 0⟩] }) := by
              unfold Pd.PD.append
              rw [if_neg (by rw [hd]; decide), if_neg (by rw [hnm]; decide), hf]
              dsimp only
              rw [if_neg h64, if_neg hcap, (Pd.tick_same s).2.1]
            obtain ⟨XX, hXX⟩ : ∃ X, s.append a z = (Pd.outc s.tick.1, X) := ⟨_, e⟩
            have HX0 := Lib.hid ((Prod.mk.inj (hXX.symm.trans e)).2)
            rw [hXX]
            clear hd e hi hf hXX
            obtain ⟨i0, hi0, hz0, hz1, hz2⟩ := info_parts info_mfile
            have HI0 := Lib.hid hi0
            have HZ0 := Lib.hid hz0
            have HZ1 := Lib.hid hz1
            have HZ2 := Lib.hid hz2
            clear hi0 hz0 hz1 hz2
            go_enter Try.func28, Try.ntmps28
            go_upto_region 8 with (first
              | (go_at_call 53; refine (misName_any a _ ha).mono ?_; rintro e w' ⟨rfl, rfl⟩; rw [hnm])
              | (go_at_call 52; refine (mfind_any HR.out a).mono ?_; rintro e w' ⟨rfl, rfl⟩; rw [hk]))
            go_quiet ((go_at_call 50; exact Calls.quiet_of (mused_any (H.out.drewN _) HI.out)))
            go_upto_region 12 with (go_at_call 54; refine (mfails_any (H.out.drewN nq)).mono ?_; rintro e w1 ⟨rfl, ht1⟩)
            obtain ⟨⟨fv, nv, dv, pv, p1⟩, hf1⟩ := ht1.undrew
            clear ht1
            obtain ⟨t0, hT0⟩ : ∃ t, s.tick.2 = t := ⟨_, rfl⟩
            rw [hT0] at p1 HX0 HTB hft
            clear hT0
            obtain ⟨af, capf, rfl, _⟩ := p1.hf.slice
            have hfl := p1.hf.2.1
            have PP := Lib.hid p1
            have HF1 := Lib.hid hf1
            obtain ⟨_, _, _, c3, _, _, _⟩ := p1.cells
            have z3 := p1.free 3
            have hlt := p1.lt
            rcases p1.hf.2.2 with ⟨hv, h0⟩ | ⟨g0, cap0, hv, _, _, _, _, _⟩
            · have hfe : t0.files = [] := List.length_eq_zero_iff.1 h0
              rw [hfe] at hv
              cases hv
              rw [hfe] at c3
              have HFE := Lib.hid hfe
              clear p1 hf1 hfe h0
              go_upto_region 14 with (first
                | (at_builtin; refine wpList_append_own_none rfl (.tmp 56) (.tmp 60) 52 rfl 0 92 i0 2 Try.underlying52 HI0.out (.slice (some ⟨w1.heap.size, 0, none⟩) 0 0) 0 [] (by rfl) (row_empty (heap_alloc_this w1 _)) (by rfl) ?_)
                | (at_builtin; go_must (refine wpList_append_own_at _ rfl (.tmp 61) (.tmp 63) 52 rfl 0 92 i0 (.agg #[.string ByteArray.empty, .int .i64 0]) 2 24 Try.underlying52 HI0.out HZ0.out HZ1.out HZ2.out rfl (by decide) (.slice (some ⟨w1.heap.size, 0, none⟩) 0 0) 0 [] (by rfl) (row_empty (heap_alloc_old' (heap_alloc_this w1 _))) ⟨w1.heap.size + 1, 0, none⟩ 1 1 [.string ⟨#[]⟩, .int .i64 0] rfl rfl (two_at (heap_alloc_second w1 _ _)) (oneCells_two rfl rfl) (by unfold maxLen; omega) (by omega) (Nat.zero_le _) ?_; intro v4 w4 hown4 hg4 _ hloc4; (have hf4 : Fr (fun _ => False) w1 w4 := (((Fr.refl (fun _ => False) w1).alloc _).alloc _).grown hg4 (fun k hk => .inr (by simp [Value.ownBlock] at hk; omega)); have h4l : ∀ b, v4.ownBlock = some b → w1.heap.size ≤ b := own_fresh (w0 := w1) (v := .slice (some ⟨w1.heap.size, 0, none⟩) 0 0) (fun b hb => by simp [Value.ownBlock] at hb; omega) (by first | omega | (simp; done) | (simp; omega)) hloc4; have p4 := PP.out.kept hf4 (fun _ _ _ e => e) (fun e => e); obtain ⟨_, _, _, d3, _, _, _⟩ := p4.cells; have y3 := p4.free 3; have hown5 := row_cast hown4 (n' := t0.files.length + 1) (ys' := filV (t0.files ++ [⟨⟨#[]⟩, 0⟩])) (by rw [HFE.out]; rfl) (by rw [HFE.out]; rfl); obtain ⟨a4, cap4, rfl, _⟩ := row_slice hown5))))
              have hfe := HFE.out
              have H5 := Lib.hid (ModelTo.trans ⟨⟨_, _, _, _, PP.out⟩, HF1.out⟩ (mfiles_close PP.out hf4 hown5 (by simp) (by omega) h4l))
              clear hown4 hg4 hloc4 hown5 hf4 h4l p4 hfe
              go_upto_region 15 with (go_at_call 55; refine (mapply_set0 H5.out.1 a ha0 HTB.out.1 HTB.out.2).mono ?_; rintro e WX ⟨rfl, ht6⟩)
              have hfe := HFE.out
              have HT := Lib.hid (H5.out.trans ht6)
              clear ht6 H5 d3 y3
              have hkt : 0 < (t0.files ++ [(⟨⟨#[]⟩, 0⟩ : Pd.PFile)]).length := by rw [List.length_append, List.length_singleton]; omega
              have hfa : Pd.fileAt (t0.files ++ [(⟨⟨#[]⟩, 0⟩ : Pd.PFile)]) 0 = ⟨⟨#[]⟩, 0⟩ := by simp [Pd.fileAt, hfe]
              have hzd : (Pd.fileAt (t0.files ++ [(⟨⟨#[]⟩, 0⟩ : Pd.PFile)]) 0).data.size ≤ 16777216 := by rw [hfa]; exact Nat.zero_le _
              have hX2 : XX = { ({ t0 with files := t0.files ++ [⟨⟨#[]⟩, 0⟩] } : Pd.PD).apply (.set a 0) with files := (t0.files ++ [(⟨⟨#[]⟩, 0⟩ : Pd.PFile)]).modify 0 fun f => { f with data := (Pd.fileAt (t0.files ++ [(⟨⟨#[]⟩, 0⟩ : Pd.PFile)]) 0).data ++ z } } := by
                rw [HX0.out, hfa, nil_append_ba, hfe]
                rfl
              have HX := Lib.hid hX2
              clear hX2 hfa hfe
              obtain ⟨t, hT, hTf⟩ : ∃ t : Pd.PD, ({ t0 with files := t0.files ++ [⟨⟨#[]⟩, 0⟩] } : Pd.PD).apply (.set a 0) = t ∧ t0.files ++ [⟨⟨#[]⟩, 0⟩] = t.files := ⟨_, rfl, rfl⟩
              rw [hT] at HT HX
              rw [hTf] at HX hkt hzd
              clear hT hTf
              obtain ⟨⟨fvB, nvB, dvB, pvB, pB⟩, hfB⟩ := HT.out
              obtain ⟨afB, capB, rfl, _⟩ := pB.hf.slice
              rcases pB.hf.2.2 with ⟨_, h0⟩ | ⟨g0, cap0, hv, _, _, _, _, _⟩
              · omega
              · cases hv
                have hfl := pB.hf.2.1
                have PB := Lib.hid pB
                have HFB := Lib.hid hfB
                obtain ⟨_, _, _, c3, _, _, _⟩ := pB.cells
                have z3 := pB.free 3
                have hlt := pB.lt
                have hE := rd_cells (pB.hf.kept ((Fr.refl (fun _ => False) WX).alloc (.cells #[] 92 (0, 0))) (fun _ _ _ e => e))
                have HE := Lib.hid hE
                clear pB hfB hE
                go_upto_region 16 with (at_builtin; go_must (refine wpList_append_own_at _ rfl (.tmp 73) (.tmp 77) 52 rfl 0 92 i0 (.agg #[.string ByteArray.empty, .int .i64 0]) 2 24 Try.underlying52 HI0.out HZ0.out HZ1.out HZ2.out rfl (by decide) (.slice (some ⟨WX.heap.size, 0, none⟩) 0 0) 0 [] (by rfl) (row_empty (heap_alloc_this WX _)) g0 t.files.length capB (filV t.files) rfl (length_filV _) HE.out (filV_one _) (by unfold maxLen; omega) (by omega) (Nat.zero_le _) ?_; intro v3 w2 hown2 hg2 _ hloc2; have hf2 : Fr (fun _ => False) WX w2 := ((Fr.refl (fun _ => False) WX).alloc _).grown hg2 (fun k hk => .inr (by simp [Value.ownBlock] at hk; omega)); have h3l : ∀ b, v3.ownBlock = some b → WX.heap.size ≤ b := own_fresh (w0 := WX) (fun b hb => by simp [Value.ownBlock] at hb; omega) (by first | omega | (simp; done) | (simp; omega)) hloc2; obtain ⟨g, cap, rfl⟩ := row_some hown2 (by omega); have p2 := PB.out.kept hf2 (fun _ _ _ e => e) (fun e => e); obtain ⟨_, _, _, d3, _, _, _⟩ := p2.cells; have y3 := p2.free 3))
                have hgl : WX.heap.size ≤ g := h3l g rfl
                have hgm : g ≠ m := by omega
                have hrow2 : w2.ownsRow 0 92 2 (.slice (some ⟨g, 0, none⟩) t.files.length cap) t.files.length (filV t.files) := by simpa only [Nat.zero_add, List.nil_append] using hown2
                have hrow3 : (w2.setCell ⟨m, 3, none⟩ (.slice (some ⟨g, 0, none⟩) t.files.length cap)).ownsRow 0 92 2 (.slice (some ⟨g, 0, none⟩) t.files.length cap) t.files.length (filV t.files) := ownsRow_fr (S := fun i => i = m) hrow2 ((Fr.refl (fun i => i = m) w2).setCell ⟨m, 3, none⟩ _ (.inl rfl)) (fun b hb e => by cases hb; exact hgm e)
                have k3 : (w2.setCell ⟨m, 3, none⟩ (.slice (some ⟨g, 0, none⟩) t.files.length cap)).cell? ⟨m, 3, none⟩ = some (.slice (some ⟨g, 0, none⟩) t.files.length cap) := (cell_at (heap_set_same p2.cell) 3).trans rfl
                have e0 := row_cell (i := 0) hrow3 (by exact (filV_get (fileAt_get hkt)).1)
                have e2 := row_free hrow3 (0)
                have hki : (0 : Int) < (t.files.length : Int) := by omega
                have hclose := mfile_close (i := 0) PB.out hf2 hrow2 (by rw [List.length_modify]) hfl hgl (filV_set_data ((Pd.fileAt t.files 0).data ++ z) t.files 0)
                have HCL := Lib.hid hclose
                clear hown2 hg2 hloc2 hf2 h3l p2 d3 y3 c3 z3 hrow2 hrow3 hclose HI0 HZ0 HZ1 HZ2 HE
                generalize w2.setCell ⟨m, 3, none⟩ (.slice (some ⟨g, 0, none⟩) t.files.length cap) = w3 at k3 e0 e2 HCL ⊢
                generalize (Pd.fileAt t.files 0).data = zd at e0 HCL hzd HX
                go_region
                all_goals
                  go_wp2_with (go_at_call 56; refine (moutcome_any _ _).mono ?_; rintro e w' ⟨rfl, rfl⟩)
                  go_ret
                  refine ⟨rfl, ?_⟩
                  rw [HX.out]
                  exact (ModelTo.trans ⟨⟨_, _, _, _, PB.out⟩, HFB.out⟩ HCL.out).drew
            · cases hv
              have hE := rd_cells (p1.hf.kept ((Fr.refl (fun _ => False) w1).alloc (.cells #[] 92 (0, 0))) (fun _ _ _ e => e))
              have HE := Lib.hid hE
              clear p1 hf1 hE
              go_upto_region 14 with (first
                | (at_builtin; refine wpList_append_own_at _ rfl (.tmp 61) (.tmp 63) 52 rfl 0 92 i0 (.agg #[.string ByteArray.empty, .int .i64 0]) 2 24 Try.underlying52 HI0.out HZ0.out HZ1.out HZ2.out rfl (by decide) v2 (0 + t0.files.length) ([] ++ filV t0.files) (by rfl) (hown2.alloc _) ⟨w2.heap.size, 0, none⟩ 1 1 [.string ⟨#[]⟩, .int .i64 0] rfl rfl (cell_two_new _ _ _ _) (oneCells_two rfl rfl) (by unfold maxLen; omega) (by omega) (Nat.zero_le _) ?_; intro v4 w4 hown4 hg4 _ hloc4; (have hf4 : Fr (fun _ => False) w1 w4 := ((hf2.alloc _).grown hg4 (fun k hk => .inr (h2l k hk))); have h4l : ∀ b, v4.ownBlock = some b → w1.heap.size ≤ b := own_fresh (w0 := w1) h2l (by first | omega | (simp; done) | (simp; omega)) hloc4; have p4 := PP.out.kept hf4 (fun _ _ _ e => e) (fun e => e); obtain ⟨_, _, _, d3, _, _, _⟩ := p4.cells; have y3 := p4.free 3; have hown5 := row_cast hown4 (n' := t0.files.length + 1) (ys' := filV (t0.files ++ [⟨⟨#[]⟩, 0⟩])) (by omega) (by rw [filV_append]; rfl); obtain ⟨a4, cap4, rfl, _⟩ := row_slice hown5))
                | (at_builtin; refine wpList_append_own_at _ rfl (.tmp 56) (.tmp 60) 52 rfl 0 92 i0 (.agg #[.string ByteArray.empty, .int .i64 0]) 2 24 Try.underlying52 HI0.out HZ0.out HZ1.out HZ2.out rfl (by decide) (.slice (some ⟨w1.heap.size, 0, none⟩) 0 0) 0 [] (by rfl) (row_empty (heap_alloc_this w1 _)) g0 t0.files.length capf (filV t0.files) rfl (length_filV _) HE.out (filV_one _) (by unfold maxLen; omega) (by omega) (Nat.zero_le _) ?_; intro v2 w2 hown2 hg2 _ hloc2; have hf2 : Fr (fun _ => False) w1 w2 := ((Fr.refl (fun _ => False) w1).alloc _).grown hg2 (fun k hk => .inr (by simp [Value.ownBlock] at hk; omega)); have h2l : ∀ b, v2.ownBlock = some b → w1.heap.size ≤ b := own_fresh (w0 := w1) (fun b hb => by simp [Value.ownBlock] at hb; omega) (by first | omega | (simp; done) | (simp; omega)) hloc2; have hs2 := hf2.size))
              clear hown2 hg2 hloc2 hf2 h2l HE
              have H5 := Lib.hid (ModelTo.trans ⟨⟨_, _, _, _, PP.out⟩, HF1.out⟩ (mfiles_close PP.out hf4 hown5 (by simp) (by omega) h4l))
              clear hown4 hg4 hloc4 hown5 hf4 h4l p4
              go_upto_region 15 with (go_at_call 55; refine (mapply_set H5.out.1 a t0.files.length ha0 HTB.out.1 HTB.out.2).mono ?_; rintro e WX ⟨rfl, ht6⟩)
              have HT := Lib.hid (H5.out.trans ht6)
              clear ht6 H5 d3 y3
              have hkt : t0.files.length < (t0.files ++ [(⟨⟨#[]⟩, 0⟩ : Pd.PFile)]).length := by rw [List.length_append, List.length_singleton]; omega
              have hfa : Pd.fileAt (t0.files ++ [(⟨⟨#[]⟩, 0⟩ : Pd.PFile)]) t0.files.length = ⟨⟨#[]⟩, 0⟩ := by simp [Pd.fileAt]
              have hzd : (Pd.fileAt (t0.files ++ [(⟨⟨#[]⟩, 0⟩ : Pd.PFile)]) t0.files.length).data.size ≤ 16777216 := by rw [hfa]; exact Nat.zero_le _
              have hX2 : XX = { ({ t0 with files := t0.files ++ [⟨⟨#[]⟩, 0⟩] } : Pd.PD).apply (.set a t0.files.length) with files := (t0.files ++ [(⟨⟨#[]⟩, 0⟩ : Pd.PFile)]).modify t0.files.length fun f => { f with data := (Pd.fileAt (t0.files ++ [(⟨⟨#[]⟩, 0⟩ : Pd.PFile)]) t0.files.length).data ++ z } } := by
                rw [HX0.out, hfa, modify_last, nil_append_ba]
                rfl
              have HX := Lib.hid hX2
              clear hX2 hfa
              obtain ⟨t, hT, hTf⟩ : ∃ t : Pd.PD, ({ t0 with files := t0.files ++ [⟨⟨#[]⟩, 0⟩] } : Pd.PD).apply (.set a t0.files.length) = t ∧ t0.files ++ [⟨⟨#[]⟩, 0⟩] = t.files := ⟨_, rfl, rfl⟩
              rw [hT] at HT HX
              rw [hTf] at HX hkt hzd
              clear hT hTf
              obtain ⟨⟨fvB, nvB, dvB, pvB, pB⟩, hfB⟩ := HT.out
              obtain ⟨afB, capB, rfl, _⟩ := pB.hf.slice
              rcases pB.hf.2.2 with ⟨_, h0⟩ | ⟨g0, cap0, hv, _, _, _, _, _⟩
              · omega
              · cases hv
                have hfl := pB.hf.2.1
                have PB := Lib.hid pB
                have HFB := Lib.hid hfB
                obtain ⟨_, _, _, c3, _, _, _⟩ := pB.cells
                have z3 := pB.free 3
                have hlt := pB.lt
                have hE := rd_cells (pB.hf.kept ((Fr.refl (fun _ => False) WX).alloc (.cells #[] 92 (0, 0))) (fun _ _ _ e => e))
                have HE := Lib.hid hE
                clear pB hfB hE
                go_upto_region 16 with (at_builtin; go_must (refine wpList_append_own_at _ rfl (.tmp 73) (.tmp 77) 52 rfl 0 92 i0 (.agg #[.string ByteArray.empty, .int .i64 0]) 2 24 Try.underlying52 HI0.out HZ0.out HZ1.out HZ2.out rfl (by decide) (.slice (some ⟨WX.heap.size, 0, none⟩) 0 0) 0 [] (by rfl) (row_empty (heap_alloc_this WX _)) g0 t.files.length capB (filV t.files) rfl (length_filV _) HE.out (filV_one _) (by unfold maxLen; omega) (by omega) (Nat.zero_le _) ?_; intro v3 w2 hown2 hg2 _ hloc2; have hf2 : Fr (fun _ => False) WX w2 := ((Fr.refl (fun _ => False) WX).alloc _).grown hg2 (fun k hk => .inr (by simp [Value.ownBlock] at hk; omega)); have h3l : ∀ b, v3.ownBlock = some b → WX.heap.size ≤ b := own_fresh (w0 := WX) (fun b hb => by simp [Value.ownBlock] at hb; omega) (by first | omega | (simp; done) | (simp; omega)) hloc2; obtain ⟨g, cap, rfl⟩ := row_some hown2 (by omega); have p2 := PB.out.kept hf2 (fun _ _ _ e => e) (fun e => e); obtain ⟨_, _, _, d3, _, _, _⟩ := p2.cells; have y3 := p2.free 3))
                have hgl : WX.heap.size ≤ g := h3l g rfl
                have hgm : g ≠ m := by omega
                have hrow2 : w2.ownsRow 0 92 2 (.slice (some ⟨g, 0, none⟩) t.files.length cap) t.files.length (filV t.files) := by simpa only [Nat.zero_add, List.nil_append] using hown2
                have hrow3 : (w2.setCell ⟨m, 3, none⟩ (.slice (some ⟨g, 0, none⟩) t.files.length cap)).ownsRow 0 92 2 (.slice (some ⟨g, 0, none⟩) t.files.length cap) t.files.length (filV t.files) := ownsRow_fr (S := fun i => i = m) hrow2 ((Fr.refl (fun i => i = m) w2).setCell ⟨m, 3, none⟩ _ (.inl rfl)) (fun b hb e => by cases hb; exact hgm e)
                have k3 : (w2.setCell ⟨m, 3, none⟩ (.slice (some ⟨g, 0, none⟩) t.files.length cap)).cell? ⟨m, 3, none⟩ = some (.slice (some ⟨g, 0, none⟩) t.files.length cap) := (cell_at (heap_set_same p2.cell) 3).trans rfl
                have e0 := row_cell (i := t0.files.length * 2) hrow3 (by exact (filV_get (fileAt_get hkt)).1)
                have e2 := row_free hrow3 (t0.files.length * 2)
                have hki : (t0.files.length : Int) < (t.files.length : Int) := by omega
                have hclose := mfile_close (i := t0.files.length * 2) PB.out hf2 hrow2 (by rw [List.length_modify]) hfl hgl (filV_set_data ((Pd.fileAt t.files t0.files.length).data ++ z) t.files t0.files.length)
                have HCL := Lib.hid hclose
                clear hown2 hg2 hloc2 hf2 h3l p2 d3 y3 c3 z3 hrow2 hrow3 hclose HI0 HZ0 HZ1 HZ2 HE
                generalize w2.setCell ⟨m, 3, none⟩ (.slice (some ⟨g, 0, none⟩) t.files.length cap) = w3 at k3 e0 e2 HCL ⊢
                generalize (Pd.fileAt t.files t0.files.length).data = zd at e0 HCL hzd HX
                go_region
                all_goals
                  go_wp2_with (go_at_call 56; refine (moutcome_any _ _).mono ?_; rintro e w' ⟨rfl, rfl⟩)
                  go_ret
                  refine ⟨rfl, ?_⟩
                  rw [HX.out]
                  exact (ModelTo.trans ⟨⟨_, _, _, _, PB.out⟩, HFB.out⟩ HCL.out).drew
      · have hk := fnd_some hf
        have hkn : ¬ ((k : Int) < 0) := by omega
        by_cases hcap : s.cap < s.used + z.size
        · have e : s.append a z = (33, s) := by
            unfold Pd.PD.append
            rw [if_neg (by rw [hd]; decide), if_neg (by rw [hnm]; decide), hf]
            dsimp only
            rw [if_pos hcap]
          rw [e]
          have hcap' : (s.cap : Int) < (s.used : Int) + (z.size : Int) := by omega
          clear hd e hi hf
          go_enter Try.func28, Try.ntmps28
          go_upto_region 8 with (first
            | (go_at_call 53; refine (misName_any a _ ha).mono ?_; rintro e w' ⟨rfl, rfl⟩; rw [hnm])
            | (go_at_call 52; refine (mfind_any HR.out a).mono ?_; rintro e w' ⟨rfl, rfl⟩; rw [hk]))
          go_quiet ((go_at_call 50; exact Calls.quiet_of (mused_any (H.out.drewN _) HI.out)))
          go_wp2
          go_ret
          exact ⟨rfl, ModelTo.same H.out ((Fr.refl _ _).drewM nq)⟩
        · have hcap' : ¬ ((s.cap : Int) < (s.used : Int) + (z.size : Int)) := by omega
          have hkt : k < s.tick.2.files.length := by rw [(Pd.tick_same s).2.1]; exact (hi.nm _ (Pd.find_mem hf)).2
          have e : s.append a z = (Pd.outc s.tick.1, { s.tick.2 with files := s.tick.2.files.modify k fun f => { f with data := (Pd.fileAt s.tick.2.files k).data ++ z } }) := by
            unfold Pd.PD.append
            rw [if_neg (by rw [hd]; decide), if_neg (by rw [hnm]; decide), hf]
            dsimp only
            rw [if_neg hcap, (Pd.tick_same s).2.1, modify_at s.files k (fun f => { f with data := f.data ++ z }) (fun f => { f with data := (Pd.fileAt s.files k).data ++ z }) (fun _ => rfl)]
          have hzd : (Pd.fileAt s.tick.2.files k).data.size ≤ 16777216 := by rw [(Pd.tick_same s).2.1]; exact (Pd.fileAt_ok hi k).2
          obtain ⟨XX, hXX⟩ : ∃ X, s.append a z = (Pd.outc s.tick.1, X) := ⟨_, e⟩
          have HX := Lib.hid ((Prod.mk.inj (hXX.symm.trans e)).2)
          rw [hXX]
          clear hd e hi hf hXX
          obtain ⟨i0, hi0, hz0, hz1, hz2⟩ := info_parts info_mfile
          have HI0 := Lib.hid hi0
          have HZ0 := Lib.hid hz0
          have HZ1 := Lib.hid hz1
          have HZ2 := Lib.hid hz2
          clear hi0 hz0 hz1 hz2
          go_enter Try.func28, Try.ntmps28
          go_upto_region 8 with (first
            | (go_at_call 53; refine (misName_any a _ ha).mono ?_; rintro e w' ⟨rfl, rfl⟩; rw [hnm])
            | (go_at_call 52; refine (mfind_any HR.out a).mono ?_; rintro e w' ⟨rfl, rfl⟩; rw [hk]))
          go_quiet ((go_at_call 50; exact Calls.quiet_of (mused_any (H.out.drewN _) HI.out)))
          go_upto_region 15 with (go_at_call 54; refine (mfails_any (H.out.drewN nq)).mono ?_; rintro e WX ⟨rfl, ht1⟩)
          have HT := Lib.hid ht1.undrew
          clear ht1
          have hkn : ¬ ((k : Int) < 0) := by omega
          obtain ⟨t, hT⟩ : ∃ t, s.tick.2 = t := ⟨_, rfl⟩
          rw [hT] at HT HX hkt hzd
          clear hT
          obtain ⟨⟨fvB, nvB, dvB, pvB, pB⟩, hfB⟩ := HT.out
          obtain ⟨afB, capfB, rfl, _⟩ := pB.hf.slice
          rcases pB.hf.2.2 with ⟨_, h0⟩ | ⟨g0, cap0, hv, _, _, _, _, _⟩
          · omega
          · cases hv
            have hfl := pB.hf.2.1
            have PB := Lib.hid pB
            have HFB := Lib.hid hfB
            obtain ⟨_, _, _, c3, _, _, _⟩ := pB.cells
            have z3 := pB.free 3
            have hlt := pB.lt
            have hE := rd_cells (pB.hf.kept ((Fr.refl (fun _ => False) WX).alloc (.cells #[] 92 (0, 0))) (fun _ _ _ e => e))
            have HE := Lib.hid hE
            clear pB hfB hE
            go_upto_region 16 with (at_builtin; go_must (refine wpList_append_own_at _ rfl (.tmp 73) (.tmp 77) 52 rfl 0 92 i0 (.agg #[.string ByteArray.empty, .int .i64 0]) 2 24 Try.underlying52 HI0.out HZ0.out HZ1.out HZ2.out rfl (by decide) (.slice (some ⟨WX.heap.size, 0, none⟩) 0 0) 0 [] (by rfl) (row_empty (heap_alloc_this WX _)) g0 t.files.length capfB (filV t.files) rfl (length_filV _) HE.out (filV_one _) (by unfold maxLen; omega) (by omega) (Nat.zero_le _) ?_; intro v3 w2 hown2 hg2 _ hloc2; have hf2 : Fr (fun _ => False) WX w2 := ((Fr.refl (fun _ => False) WX).alloc _).grown hg2 (fun k hk => .inr (by simp [Value.ownBlock] at hk; omega)); have h3l : ∀ b, v3.ownBlock = some b → WX.heap.size ≤ b := own_fresh (w0 := WX) (fun b hb => by simp [Value.ownBlock] at hb; omega) (by first | omega | (simp; done) | (simp; omega)) hloc2; obtain ⟨g, cap, rfl⟩ := row_some hown2 (by omega); have p2 := PB.out.kept hf2 (fun _ _ _ e => e) (fun e => e); obtain ⟨_, _, _, d3, _, _, _⟩ := p2.cells; have y3 := p2.free 3))
            have hgl : WX.heap.size ≤ g := h3l g rfl
            have hgm : g ≠ m := by omega
            have hrow2 : w2.ownsRow 0 92 2 (.slice (some ⟨g, 0, none⟩) t.files.length cap) t.files.length (filV t.files) := by simpa only [Nat.zero_add, List.nil_append] using hown2
            have hrow3 : (w2.setCell ⟨m, 3, none⟩ (.slice (some ⟨g, 0, none⟩) t.files.length cap)).ownsRow 0 92 2 (.slice (some ⟨g, 0, none⟩) t.files.length cap) t.files.length (filV t.files) := ownsRow_fr (S := fun i => i = m) hrow2 ((Fr.refl (fun i => i = m) w2).setCell ⟨m, 3, none⟩ _ (.inl rfl)) (fun b hb e => by cases hb; exact hgm e)
            have k3 : (w2.setCell ⟨m, 3, none⟩ (.slice (some ⟨g, 0, none⟩) t.files.length cap)).cell? ⟨m, 3, none⟩ = some (.slice (some ⟨g, 0, none⟩) t.files.length cap) := (cell_at (heap_set_same p2.cell) 3).trans rfl
            have e0 := row_cell (i := k * 2) hrow3 (by exact (filV_get (fileAt_get hkt)).1)
            have e2 := row_free hrow3 (k * 2)
            have hki : (k : Int) < (t.files.length : Int) := by omega
            have hclose := mfile_close (i := k * 2) PB.out hf2 hrow2 (by rw [List.length_modify]) hfl hgl (filV_set_data ((Pd.fileAt t.files k).data ++ z) t.files k)
            have HCL := Lib.hid hclose
            clear hown2 hg2 hloc2 hf2 h3l p2 d3 y3 c3 z3 hrow2 hrow3 hclose HI0 HZ0 HZ1 HZ2 HE
            generalize w2.setCell ⟨m, 3, none⟩ (.slice (some ⟨g, 0, none⟩) t.files.length cap) = w3 at k3 e0 e2 HCL ⊢
            generalize (Pd.fileAt t.files k).data = zd at e0 HCL hzd HX
            go_region
            all_goals
              go_wp2_with (go_at_call 56; refine (moutcome_any _ _).mono ?_; rintro e w' ⟨rfl, rfl⟩)
              go_ret
              refine ⟨rfl, ?_⟩
              rw [HX.out]
              exact (ModelTo.trans ⟨⟨_, _, _, _, PB.out⟩, HFB.out⟩ HCL.out).drew
end Go.Proofs.Ytigcokgjikkohaa
