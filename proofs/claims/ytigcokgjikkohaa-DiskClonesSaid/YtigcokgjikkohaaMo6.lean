/- The model's apply. -/
import Derived.Test.YtigcokgjikkohaaMo5
import Derived.Deep.RegionWith
import Derived.Deep.AppendLies
import Derived.Deep.RegionHeld3
namespace Go.Proofs.Ytigcokgjikkohaa
open Go.RowKit Go.Maps Go.Sort
set_option linter.unusedVariables false
set_option linter.unusedSimpArgs false
theorem info_mch : (Try.prog.info? 98).map (fun i => (i.zero, i.size, i.bytes)) = some (some (.agg #[.string ByteArray.empty, .string ByteArray.empty, .int .i64 0]), 3, 40) := by kernel_rfl
theorem row_empty {w : World} {e sz g : Nat} (h : w.heap[g]? = some (.cells #[] e (0, 0))) : w.ownsRow 0 e sz (.slice (some ⟨g, 0, none⟩) 0 0) 0 [] :=
  ⟨by simp, .inr ⟨g, 0, #[], rfl, Nat.zero_le _, h, Nat.le_refl _, Nat.zero_le _, by simp, by simp⟩⟩
theorem three_new {w : World} {b : Nat} {x y z : Value} {t : TypeId} (h : w.heap[b]? = some (.cells #[x, y, z] t (0, 0))) : ∀ (j : Nat) u, [x, y, z][j]? = some u → w.cell? ((⟨b, 0, none⟩ : Addr).add j) = some u := by
  intro j u hj
  have ha : (⟨b, 0, none⟩ : Addr).add j = ⟨b, j, none⟩ := by
    unfold Addr.add
    split
    · rename_i e; rw [e]
    · rw [Nat.zero_add]
  rw [ha, cell_at h j]
  simpa using hj
theorem three_one {x y : ByteArray} {z : Int} : ∀ u ∈ [Value.string x, .string y, .int .i64 z], u.oneCell' = true := by
  intro u hu
  simp at hu
  rcases hu with rfl | rfl | rfl <;> rfl
theorem mapply_close {w w2 w4 : World} {M : Nat → Prop} {m : Nat} {fv v1 dv pv v4 : Value} {s : Pd.PD} {c : Pd.PChange} (hmw : m < w.heap.size) (T2 : ModelP w2 (grown w M) m fv v1 dv pv { s with names := c.on s.names }) (F2 : Fr (fun i => i = m) w w2) (hf4 : Fr (fun _ => False) w2 w4)
    (hown4 : w4.ownsRow 0 98 3 v4 (0 + s.pending.length + 1) ([] ++ chV s.pending ++ [.string (chTri c).1, .string (chTri c).2.1, .int .i64 (chTri c).2.2])) (h4l : ∀ b, v4.ownBlock = some b → w2.heap.size ≤ b) (hp : s.pending.length ≤ 1000000) :
    ModelTo w M m (s.apply c) (w4.setCell ⟨m, 6, none⟩ v4) := by
  have hfs : Fr (fun i => i = m) w4 (w4.setCell ⟨m, 6, none⟩ v4) := (Fr.refl (fun i => i = m) w4).setCell ⟨m, 6, none⟩ _ (.inl rfl)
  have p4 := T2.kept hf4 (fun _ _ _ e => e) (fun e => e)
  have hk : ∀ b, grown w M b → b < w4.heap.size → ¬ b = m := fun b hb _ e => T2.hm (e ▸ hb)
  have hrow : w4.ownsRow 0 98 3 v4 (s.pending ++ [c]).length (chV (s.pending ++ [c])) := row_cast hown4 (by simp) (by rw [chV_append]; rfl)
  have hs := F2.size
  refine ⟨⟨fv, v1, dv, v4, (heap_set_same p4.cell).trans rfl, T2.lim, p4.hf.kept hfs hk, p4.hn.kept hfs hk, p4.hd.kept hfs hk, ?_, T2.hm⟩, (F2.trans hf4 (fun i e => e.elim)).trans hfs (fun i e => .inl e)⟩
  refine ((RdIn.of_row (M := fun b => w2.heap.size ≤ b) hrow (by simp; omega) h4l).kept hfs (fun b hb _ e => by subst e; omega)).mono (fun b hb _ => .inr ?_)
  omega
theorem heap_alloc_second (w : World) (o o' : Obj) : ((w.alloc o).alloc o').heap[w.heap.size + 1]? = some o' := by
  have := heap_alloc_this (w.alloc o) o'
  rwa [World.size_alloc] at this
theorem step_append_none {P : Program} {ops : Array Oper} {o : Oper} {a : Act} {w : World} {K : Act → World → Prop} {Q : Exit → Act → World → Prop} {E : Prop}
    (hgd : o.guard = none) (s x : Operand) (t : TypeId) (ho : o.op = .call { callee := .builtin .append, args := #[s, x], argTypes := #[t, t] })
    (base : Nat) (e : TypeId) (i : TypeInfo) (size : Nat) (ht : P.underlying t = some (.slice e)) (hi : P.info? e = some i)
    (v : Value) (n : Nat) (xs : List Value) (hs : a.eval s = v) (hown : w.ownsRow base e size v n xs) (hx : a.eval x = .slice none 0 0) (hK : K (a.put o.dst v) w) :
    if Region.wanted o (yielded ops a.tmps) = true then Oper.wp P o a w K Q else E := by
  have hw : Region.wanted o (yielded ops a.tmps) = true := by simp [Region.wanted, hgd]
  rw [if_pos hw]
  have hrun := run_append_owned_none (P := P) (w := w) base t o.type e i size ht hi v n xs hown
  unfold Oper.wp
  simp [execOp, ho, resolve, invoke, builtin, hs, hx, hrun, Result.andThen]
  exact hK
theorem row_slice {w : World} {base e sz n : Nat} {v : Value} {ys : List Value} (h : w.ownsRow base e sz v n ys) : ∃ a cap, v = .slice a n cap ∧ n ≤ cap := by
  rcases h.2 with ⟨rfl, rfl⟩ | ⟨g, cap, cur, rfl, _, _, h2, _⟩
  · exact ⟨none, 0, rfl, Nat.le_refl _⟩
  · exact ⟨some ⟨g, 0, none⟩, cap, rfl, h2⟩
set_option maxRecDepth 100000 in
set_option maxHeartbeats 4000000 in
theorem mapply_any {w : World} {M : Nat → Prop} {m : Nat} {s : Pd.PD} (h : ModelAt w M m s) (c : Pd.PChange) (hc : chOk c) (hn : s.names.length ≤ 1000000) (hp : s.pending.length ≤ 1000000) :
    Calls Try.prog 55 #[.pointer (some ⟨m, 0, none⟩), .agg #[.string (chTri c).1, .string (chTri c).2.1, .int .i64 (chTri c).2.2]] w fun e w' => e = .returned (.tuple #[]) ∧ ModelTo w M m (s.apply c) w' := by
  obtain ⟨fv, nv, dv, pv, p⟩ := h
  obtain ⟨an, capn, rfl, _⟩ := p.hn.slice
  obtain ⟨ap, capp, rfl, _⟩ := p.hp.slice
  obtain ⟨i0, hi, hz0, hz1, hz2⟩ := info_parts info_mch
  have hb0 := heap_alloc_this w (.cells #[.string (chTri c).1, .string (chTri c).2.1, .int .i64 (chTri c).2.2] 98 (0, 0))
  have hfa : Fr (fun _ => False) w (w.alloc (.cells #[.string (chTri c).1, .string (chTri c).2.1, .int .i64 (chTri c).2.2] 98 (0, 0))) := (Fr.refl _ _).alloc _
  have hlt : m < w.heap.size := p.lt
  have p0 := p.kept hfa (fun _ _ _ e => e) (fun e => e)
  have P0 := Lib.hid p
  obtain ⟨x0, x1, x2⟩ := ch_cells hb0
  obtain ⟨c0, c1, c2, c3, c4, c5, c6⟩ := p0.cells
  have f4 := p0.free 4
  have f6 := p0.free 6
  have HC := Lib.hid hc
  have HB0 := Lib.hid hb0
  have PP := Lib.hid p0
  have HI := Lib.hid hi
  have HZ0 := Lib.hid hz0
  have HZ1 := Lib.hid hz1
  have HZ2 := Lib.hid hz2
  have HFA := Lib.hid hfa
  clear p p0 hb0 hc hi hz0 hz1 hz2 hfa c0 c1 c2 c3
  go_enter Try.func55, Try.ntmps55
  go_upto_region 1 with (fail)
  generalize (w.alloc (.cells #[.string (chTri c).1, .string (chTri c).2.1, .int .i64 (chTri c).2.2] 98 (0, 0))) = W0 at *
  have hlt0 : m < W0.heap.size := PP.out.lt
  have hcl : (c.on s.names).length ≤ 2000000 := by
    cases c with
    | set n f => have := Pd.length_put s.names n f; show (Pd.put s.names n f).length ≤ _; omega
    | rem n => have := Pd.length_del s.names n; show (Pd.del s.names n).length ≤ _; omega
    | ren a b f => have h1 := Pd.length_put (Pd.del s.names a) b f; have h2 := Pd.length_del s.names a; show (Pd.put (Pd.del s.names a) b f).length ≤ _; omega
  have HN := Lib.hid ((PP.out.hn.kept ((Fr.refl (fun _ => False) W0).drew) (fun _ _ _ e => e)))
  go_region_with (go_at_call 67; refine (changed_any (w := W0.drew) HN.out (by omega) c HC.out).mono ?_; rintro e w1 ⟨v1, rfl, hrow1, hown1, hf1⟩; have hf01 := ((Fr.refl (fun _ => False) W0).drew).trans hf1 (fun i e => e.elim); obtain ⟨a1, cap1, rfl, hac1⟩ := row_slice hrow1; have p1 := PP.out.kept hf01 (fun _ _ _ e => e) (fun e => e); obtain ⟨_, _, _, _, k4, k5, k6⟩ := p1.cells; have z4 := p1.free 4; have z6 := p1.free 6; have b1 := (hf01.block _ (lt_of_some HB0.out) (fun e => e)).trans HB0.out; obtain ⟨y0, y1, y2⟩ := ch_cells b1)
  all_goals
    have hfs : Fr (fun i => i = m) w1 (w1.setCell ⟨m, 4, none⟩ (.slice a1 (c.on s.names).length cap1)) := (Fr.refl (fun i => i = m) w1).setCell ⟨m, 4, none⟩ _ (.inl rfl)
    have hf2 : Fr (fun i => i = m) w (w1.setCell ⟨m, 4, none⟩ (.slice a1 (c.on s.names).length cap1)) := ((HFA.out.trans hf01 (fun i e => e.elim)).mono (fun i e => e.elim)).trans hfs (fun i e => .inl e)
    have hv1 := ((RdIn.of_row (M := fun b => w.heap.size ≤ b) hrow1 (by omega) (fun b hb => Nat.le_trans HFA.out.size (hown1 b hb))).kept hfs (fun b hb _ e => by subst e; omega)).mono (M' := grown w M) (fun b hb _ => .inr hb)
    have ht2 : ModelP (w1.setCell ⟨m, 4, none⟩ (.slice a1 (c.on s.names).length cap1)) (grown w M) m fv (.slice a1 (c.on s.names).length cap1) dv (.slice ap s.pending.length capp) { s with names := c.on s.names } := by
      have p := P0.out
      exact ⟨(heap_set_same p1.cell).trans rfl, p.lim, p.hf.past hf2 p.hm, hv1, p.hd.past hf2 p.hm, p.hp.past hf2 p.hm, fun e => e.elim p.hm (fun e => by omega)⟩
    have hb2 := (hfs.block _ (lt_of_some b1) (fun e => by omega)).trans b1
    have hw2 : w.heap.size < (w1.setCell ⟨m, 4, none⟩ (.slice a1 (c.on s.names).length cap1)).heap.size := lt_of_some hb2
    clear hrow1 hown1 hf1 hf01 p1 k4 k5 k6 z4 z6 b1 y0 y1 y2 hfs hv1 c4 c5 c6 f4 f6 x0 x1 x2
    generalize w1.setCell ⟨m, 4, none⟩ (.slice a1 (c.on s.names).length cap1) = w2 at *
    have T2 := Lib.hid ht2
    have F2 := Lib.hid hf2
    have HP := Lib.hid ht2.hp
    obtain ⟨_, _, _, _, k4, k5, k6⟩ := ht2.cells
    have z6 := ht2.free 6
    have hl2 := ht2.lt
    obtain ⟨y0, y1, y2⟩ := ch_cells hb2
    have HB2 := Lib.hid hb2
    clear ht2 hf2 hb2
    rcases HP.out.2.2 with ⟨hv, hn0⟩ | ⟨g, cap', hv, _, _, _, _, _⟩
    · obtain hpe : s.pending = [] := List.length_eq_zero_iff.1 hn0
      rw [hpe] at hv
      cases hv
      rw [hpe] at k6
      go_upto_region 2 with (fail)
      go_region_law (first
          | (refine step_append_own rfl (.tmp 19) (.tmp 21) 54 rfl 0 98 i0 (.agg #[.string ByteArray.empty, .string ByteArray.empty, .int .i64 0]) 3 40 Try.underlying54 HI.out HZ0.out HZ1.out HZ2.out rfl (by decide) (.slice (some ⟨w2.heap.size, 0, none⟩) 0 0) 0 [] (by rfl) (row_empty (heap_alloc_old' (heap_alloc_this w2.drew _))) ⟨w2.heap.size + 1, 0, none⟩ 1 1 [.string (chTri c).1, .string (chTri c).2.1, .int .i64 (chTri c).2.2] rfl rfl (three_new (heap_alloc_second w2.drew (.cells #[] 98 (0, 0)) (.cells #[.string (chTri c).1, .string (chTri c).2.1, .int .i64 (chTri c).2.2] 98 (0, 0)))) three_one (by unfold maxLen; omega) (by omega) (Nat.zero_le _) ?_; intro v4 w4 hown4 hg4 hloc4; have hf4 := (((Fr.refl (fun _ => False) w2).drew).alloc (.cells #[] 98 (0, 0)) |>.alloc (.cells #[.string (chTri c).1, .string (chTri c).2.1, .int .i64 (chTri c).2.2] 98 (0, 0))).grown hg4 (fun k hk => .inr (by simp [Value.ownBlock] at hk; omega)); have p4 := T2.out.kept hf4 (fun _ _ _ e => e) (fun e => e); obtain ⟨_, _, _, _, _, _, m6⟩ := p4.cells; have z4 := p4.free 6; have h4l : ∀ b, v4.ownBlock = some b → w2.heap.size ≤ b := own_fresh (w0 := w2) (fun b hb => by simp [Value.ownBlock] at hb; omega) (by first | omega | (simp; done) | (simp; omega)) hloc4; obtain ⟨a4, cap4, rfl, _⟩ := row_slice hown4)
          | (refine step_append_own rfl (.tmp 19) (.tmp 21) 54 rfl 0 98 i0 (.agg #[.string ByteArray.empty, .string ByteArray.empty, .int .i64 0]) 3 40 Try.underlying54 HI.out HZ0.out HZ1.out HZ2.out rfl (by decide) (.slice (some ⟨w2.heap.size + 1, 0, none⟩) 0 0) 0 [] (by rfl) (row_empty (heap_alloc_second w2.drew (.cells #[.string (chTri c).1, .string (chTri c).2.1, .int .i64 (chTri c).2.2] 98 (0, 0)) (.cells #[] 98 (0, 0)))) ⟨w2.heap.size, 0, none⟩ 1 1 [.string (chTri c).1, .string (chTri c).2.1, .int .i64 (chTri c).2.2] rfl rfl (three_new (heap_alloc_old' (heap_alloc_this w2.drew (.cells #[.string (chTri c).1, .string (chTri c).2.1, .int .i64 (chTri c).2.2] 98 (0, 0))))) three_one (by unfold maxLen; omega) (by omega) (Nat.zero_le _) ?_; intro v4 w4 hown4 hg4 hloc4; have hf4 := (((Fr.refl (fun _ => False) w2).drew).alloc (.cells #[.string (chTri c).1, .string (chTri c).2.1, .int .i64 (chTri c).2.2] 98 (0, 0)) |>.alloc (.cells #[] 98 (0, 0))).grown hg4 (fun k hk => .inr (by simp [Value.ownBlock] at hk; omega)); have p4 := T2.out.kept hf4 (fun _ _ _ e => e) (fun e => e); obtain ⟨_, _, _, _, _, _, m6⟩ := p4.cells; have z4 := p4.free 6; have h4l : ∀ b, v4.ownBlock = some b → w2.heap.size ≤ b := own_fresh (w0 := w2) (fun b hb => by simp [Value.ownBlock] at hb; omega) (by first | omega | (simp; done) | (simp; omega)) hloc4; obtain ⟨a4, cap4, rfl, _⟩ := row_slice hown4)
          | (refine step_append_none rfl (.tmp 14) (.tmp 18) 54 rfl 0 98 i0 3 Try.underlying54 HI.out (.slice (some ⟨w2.heap.size, 0, none⟩) 0 0) 0 [] (by rfl) (row_empty (heap_alloc_this w2.drew _)) (by rfl) ?_)
          | (refine step_append_none rfl (.tmp 14) (.tmp 18) 54 rfl 0 98 i0 3 Try.underlying54 HI.out (.slice (some ⟨w2.heap.size, 0, none⟩) 0 0) 0 [] (by rfl) (row_empty (heap_alloc_old' (heap_alloc_this w2.drew _))) (by rfl) ?_)
          | (refine step_append_none rfl (.tmp 14) (.tmp 18) 54 rfl 0 98 i0 3 Try.underlying54 HI.out (.slice (some ⟨w2.heap.size + 1, 0, none⟩) 0 0) 0 [] (by rfl) (row_empty (heap_alloc_second w2.drew (.cells #[.string (chTri c).1, .string (chTri c).2.1, .int .i64 (chTri c).2.2] 98 (0, 0)) (.cells #[] 98 (0, 0)))) (by rfl) ?_))
      all_goals
        go_end0
        exact ⟨rfl, by simpa only [Nat.zero_add] using mapply_close hlt T2.out F2.out hf4 (by rw [hpe]; exact hown4) h4l hp⟩
    · cases hv
      go_upto_region 2 with (fail)
      go_region_law (first
          | (refine step_append_own rfl (.tmp 19) (.tmp 21) 54 rfl 0 98 i0 (.agg #[.string ByteArray.empty, .string ByteArray.empty, .int .i64 0]) 3 40 Try.underlying54 HI.out HZ0.out HZ1.out HZ2.out rfl (by decide) v3 (0 + s.pending.length) ([] ++ chV s.pending) (by rfl) (hown3.alloc _) ⟨w3.heap.size, 0, none⟩ 1 1 [.string (chTri c).1, .string (chTri c).2.1, .int .i64 (chTri c).2.2] rfl rfl (three_new (heap_alloc_this w3 _)) three_one (by unfold maxLen; omega) (by omega) (Nat.zero_le _) ?_; intro v4 w4 hown4 hg4 hloc4; have hf4 := ((hf3.alloc _).grown hg4 (fun k hk => .inr (h3l k hk))); have p4 := T2.out.kept hf4 (fun _ _ _ e => e) (fun e => e); obtain ⟨_, _, _, _, _, _, m6⟩ := p4.cells; have z4 := p4.free 6; have hb4 := (hf4.block _ (lt_of_some HB2.out) (fun e => e)).trans HB2.out; obtain ⟨my0, my1, my2⟩ := ch_cells hb4; have h4l : ∀ b, v4.ownBlock = some b → w2.heap.size ≤ b := own_fresh (w0 := w2) h3l (by first | omega | (simp; done) | (simp; omega)) hloc4; obtain ⟨a4, cap4, rfl, _⟩ := row_slice hown4)
          | (refine step_append_own rfl (.tmp 19) (.tmp 21) 54 rfl 0 98 i0 (.agg #[.string ByteArray.empty, .string ByteArray.empty, .int .i64 0]) 3 40 Try.underlying54 HI.out HZ0.out HZ1.out HZ2.out rfl (by decide) v3 (0 + s.pending.length) ([] ++ chV s.pending) (by rfl) hown3 ⟨w2.heap.size + 1, 0, none⟩ 1 1 [.string (chTri c).1, .string (chTri c).2.1, .int .i64 (chTri c).2.2] rfl rfl (three_new hX) three_one (by unfold maxLen; omega) (by omega) (Nat.zero_le _) ?_; intro v4 w4 hown4 hg4 hloc4; have hf4 := (hf3.grown hg4 (fun k hk => .inr (h3l k hk))); have p4 := T2.out.kept hf4 (fun _ _ _ e => e) (fun e => e); obtain ⟨_, _, _, _, _, _, m6⟩ := p4.cells; have z4 := p4.free 6; have hb4 := (hf4.block _ (lt_of_some HB2.out) (fun e => e)).trans HB2.out; obtain ⟨my0, my1, my2⟩ := ch_cells hb4; have h4l : ∀ b, v4.ownBlock = some b → w2.heap.size ≤ b := own_fresh (w0 := w2) h3l (by first | omega | (simp; done) | (simp; omega)) hloc4; obtain ⟨a4, cap4, rfl, _⟩ := row_slice hown4)
          | (refine step_append_own rfl (.tmp 19) (.tmp 21) 54 rfl 0 98 i0 (.agg #[.string ByteArray.empty, .string ByteArray.empty, .int .i64 0]) 3 40 Try.underlying54 HI.out HZ0.out HZ1.out HZ2.out rfl (by decide) v3 (0 + s.pending.length) ([] ++ chV s.pending) (by rfl) hown3 ⟨w2.heap.size, 0, none⟩ 1 1 [.string (chTri c).1, .string (chTri c).2.1, .int .i64 (chTri c).2.2] rfl rfl (three_new hX) three_one (by unfold maxLen; omega) (by omega) (Nat.zero_le _) ?_; intro v4 w4 hown4 hg4 hloc4; have hf4 := (hf3.grown hg4 (fun k hk => .inr (h3l k hk))); have p4 := T2.out.kept hf4 (fun _ _ _ e => e) (fun e => e); obtain ⟨_, _, _, _, _, _, m6⟩ := p4.cells; have z4 := p4.free 6; have hb4 := (hf4.block _ (lt_of_some HB2.out) (fun e => e)).trans HB2.out; obtain ⟨my0, my1, my2⟩ := ch_cells hb4; have h4l : ∀ b, v4.ownBlock = some b → w2.heap.size ≤ b := own_fresh (w0 := w2) h3l (by first | omega | (simp; done) | (simp; omega)) hloc4; obtain ⟨a4, cap4, rfl, _⟩ := row_slice hown4)
          | (refine step_append_own rfl (.tmp 14) (.tmp 18) 54 rfl 0 98 i0 (.agg #[.string ByteArray.empty, .string ByteArray.empty, .int .i64 0]) 3 40 Try.underlying54 HI.out HZ0.out HZ1.out HZ2.out rfl (by decide) (.slice (some ⟨w2.heap.size, 0, none⟩) 0 0) 0 [] (by rfl) (row_empty (heap_alloc_this w2.drew _)) g s.pending.length capp (chV s.pending) rfl (by rw [length_chV]) (rd_cells (HP.out.kept (((Fr.refl (fun _ => False) w2).drew).alloc (.cells #[] 98 (0, 0))) (fun _ _ _ e => e))) (chV_one _) (by unfold maxLen; omega) (by omega) (Nat.zero_le _) ?_; intro v3 w3 hown3 hg3 hloc3; have hf3 := (((Fr.refl (fun _ => False) w2).drew).alloc (.cells #[] 98 (0, 0))).grown hg3 (fun k hk => .inr (by simp [Value.ownBlock] at hk; omega)); have p3 := T2.out.kept hf3 (fun _ _ _ e => e) (fun e => e); obtain ⟨_, _, _, _, _, _, n6⟩ := p3.cells; have z3 := p3.free 6; have hb3 := (hf3.block _ (lt_of_some HB2.out) (fun e => e)).trans HB2.out; obtain ⟨ny0, ny1, ny2⟩ := ch_cells hb3; have hs3 := hf3.size; have h3l : ∀ b, v3.ownBlock = some b → w2.heap.size ≤ b := own_fresh (w0 := w2) (fun b hb => by simp [Value.ownBlock] at hb; omega) (by first | omega | (simp; done) | (simp; omega)) hloc3)
          | (refine step_append_own rfl (.tmp 14) (.tmp 18) 54 rfl 0 98 i0 (.agg #[.string ByteArray.empty, .string ByteArray.empty, .int .i64 0]) 3 40 Try.underlying54 HI.out HZ0.out HZ1.out HZ2.out rfl (by decide) (.slice (some ⟨w2.heap.size, 0, none⟩) 0 0) 0 [] (by rfl) (row_empty (heap_alloc_old' (heap_alloc_this w2.drew _))) g s.pending.length capp (chV s.pending) rfl (by rw [length_chV]) (rd_cells (HP.out.kept ((((Fr.refl (fun _ => False) w2).drew).alloc (.cells #[] 98 (0, 0)) |>.alloc (.cells #[.string (chTri c).1, .string (chTri c).2.1, .int .i64 (chTri c).2.2] 98 (0, 0)))) (fun _ _ _ e => e))) (chV_one _) (by unfold maxLen; omega) (by omega) (Nat.zero_le _) ?_; intro v3 w3 hown3 hg3 hloc3; have hf3 := ((((Fr.refl (fun _ => False) w2).drew).alloc (.cells #[] 98 (0, 0)) |>.alloc (.cells #[.string (chTri c).1, .string (chTri c).2.1, .int .i64 (chTri c).2.2] 98 (0, 0)))).grown hg3 (fun k hk => .inr (by simp [Value.ownBlock] at hk; omega)); have p3 := T2.out.kept hf3 (fun _ _ _ e => e) (fun e => e); obtain ⟨_, _, _, _, _, _, n6⟩ := p3.cells; have z3 := p3.free 6; have hb3 := (hf3.block _ (lt_of_some HB2.out) (fun e => e)).trans HB2.out; obtain ⟨ny0, ny1, ny2⟩ := ch_cells hb3; have hs3 := hf3.size; have h3l : ∀ b, v3.ownBlock = some b → w2.heap.size ≤ b := own_fresh (w0 := w2) (fun b hb => by simp [Value.ownBlock] at hb; omega) (by first | omega | (simp; done) | (simp; omega)) hloc3; have hX := (hg3.block (w2.heap.size + 1) (by simp) (by simp [Value.ownBlock])).trans (heap_alloc_second w2.drew (.cells #[] 98 (0, 0)) (.cells #[.string (chTri c).1, .string (chTri c).2.1, .int .i64 (chTri c).2.2] 98 (0, 0))))
          | (refine step_append_own rfl (.tmp 14) (.tmp 18) 54 rfl 0 98 i0 (.agg #[.string ByteArray.empty, .string ByteArray.empty, .int .i64 0]) 3 40 Try.underlying54 HI.out HZ0.out HZ1.out HZ2.out rfl (by decide) (.slice (some ⟨w2.heap.size + 1, 0, none⟩) 0 0) 0 [] (by rfl) (row_empty (heap_alloc_second w2.drew (.cells #[.string (chTri c).1, .string (chTri c).2.1, .int .i64 (chTri c).2.2] 98 (0, 0)) (.cells #[] 98 (0, 0)))) g s.pending.length capp (chV s.pending) rfl (by rw [length_chV]) (rd_cells (HP.out.kept ((((Fr.refl (fun _ => False) w2).drew).alloc (.cells #[.string (chTri c).1, .string (chTri c).2.1, .int .i64 (chTri c).2.2] 98 (0, 0)) |>.alloc (.cells #[] 98 (0, 0)))) (fun _ _ _ e => e))) (chV_one _) (by unfold maxLen; omega) (by omega) (Nat.zero_le _) ?_; intro v3 w3 hown3 hg3 hloc3; have hf3 := ((((Fr.refl (fun _ => False) w2).drew).alloc (.cells #[.string (chTri c).1, .string (chTri c).2.1, .int .i64 (chTri c).2.2] 98 (0, 0)) |>.alloc (.cells #[] 98 (0, 0)))).grown hg3 (fun k hk => .inr (by simp [Value.ownBlock] at hk; omega)); have p3 := T2.out.kept hf3 (fun _ _ _ e => e) (fun e => e); obtain ⟨_, _, _, _, _, _, n6⟩ := p3.cells; have z3 := p3.free 6; have hb3 := (hf3.block _ (lt_of_some HB2.out) (fun e => e)).trans HB2.out; obtain ⟨ny0, ny1, ny2⟩ := ch_cells hb3; have hs3 := hf3.size; have h3l : ∀ b, v3.ownBlock = some b → w2.heap.size ≤ b := own_fresh (w0 := w2) (fun b hb => by simp [Value.ownBlock] at hb; omega) (by first | omega | (simp; done) | (simp; omega)) hloc3; have hX := (hg3.block w2.heap.size (by first | omega | (simp; done) | (simp; omega)) (by simp [Value.ownBlock])).trans (heap_alloc_old' (heap_alloc_this w2.drew (.cells #[.string (chTri c).1, .string (chTri c).2.1, .int .i64 (chTri c).2.2] 98 (0, 0))))))
      all_goals
        go_end0
        exact ⟨rfl, by simpa only [Nat.zero_add] using mapply_close hlt T2.out F2.out hf4 hown4 h4l hp⟩
end Go.Proofs.Ytigcokgjikkohaa
