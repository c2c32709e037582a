/- The model's start. -/
import Derived.Test.YtigcokgjikkohaaMo10
import Derived.Test.YtigcokgjikkohaaMo11
import Derived.Test.YtigcokgjikkohaaMo12a
import Derived.Deep.QuietTactic
import Derived.BigQuiet
import Derived.IntWalk
import Derived.StillTailTactics
import Derived.Test.YtigcokgjikkohaaPdMore
namespace Go.Proofs.Ytigcokgjikkohaa
open Go.RowKit Go.Maps Go.Sort
set_option linter.unusedVariables false
set_option linter.unusedSimpArgs false
section
variable {w w' : World} {M S : Nat → Prop} {m n : Nat} {s : Pd.PD}
theorem ModelTo.fresh (h : ModelAt w M m s) (hf : Fr S w w') (hS : ∀ i, S i → w.heap.size ≤ i) : ModelTo w M m s w' := by
  obtain ⟨fv, nv, dv, pv, p⟩ := h
  have hlt := p.lt
  refine ⟨⟨fv, nv, dv, pv, ?_⟩, hf.mono fun i e => .inr (hS i e)⟩
  have p2 := p.kept hf (fun b _ hl e => by have := hS b e; omega) (fun e => by have := hS m e; omega)
  exact ⟨p2.cell, p2.lim, p2.hf.mono (fun _ h _ => .inl h), p2.hn.mono (fun _ h _ => .inl h), p2.hd.mono (fun _ h _ => .inl h), p2.hp.mono (fun _ h _ => .inl h), fun e => e.elim p.hm (fun e => by omega)⟩
theorem ModelTo.then_fresh {w2 : World} (h : ModelTo w M m s w') (hf : Fr S w' w2) (hS : ∀ i, S i → w.heap.size ≤ i) (hM : ∀ b, grown w M b → b < w'.heap.size → ¬ S b) (hm : ¬ S m) : ModelTo w M m s w2 := by
  obtain ⟨⟨fv, nv, dv, pv, p⟩, hf1⟩ := h
  exact ⟨⟨fv, nv, dv, pv, p.kept hf hM hm⟩, hf1.trans hf (fun i e => .inr (hS i e))⟩
theorem RdIn.three {a : Option Addr} {cap : Nat} {ys : List Value} (h : RdIn w M 3 (.slice a n cap) n ys) {i : Nat} (hi : i < n) {x y z : Value} (hx : ys[i * 3]? = some x) (hy : ys[i * 3 + 1]? = some y) (hz : ys[i * 3 + 2]? = some z) :
    ∃ b c : Addr, a = some b ∧ b.add (i * 3) = c ∧ M c.block ∧ c.block < w.heap.size ∧ w.cell? c = some x ∧ w.cell? (c.add 1) = some y ∧ w.cell? (c.add 2) = some z := by
  rcases h.2.2 with ⟨_, rfl⟩ | ⟨b, cap', h1, _, _, h4, h5, h6⟩
  · cases hi
  · cases h1
    have h1 := h6 _ _ hy
    have h2 := h6 _ _ hz
    rw [← Addr.add_add] at h1 h2
    exact ⟨b, _, rfl, rfl, by rw [add_block]; exact h4, by rw [add_block]; exact h5, h6 _ _ hx, h1, h2⟩
end
theorem on_length (c : Pd.PChange) (l : Pd.Names) : (c.on l).length ≤ l.length + 1 := by
  cases c with
  | set n f => exact Pd.length_put l n f
  | rem n => have := Pd.length_del l n; show (Pd.del l n).length ≤ _; omega
  | ren a b f => have h1 := Pd.length_put (Pd.del l a) b f; have h2 := Pd.length_del l a; show (Pd.put (Pd.del l a) b f).length ≤ _; omega
theorem ScAt.of' {w0 w : World} {a : Option Addr} {cap : Nat} {sc : List Int} (h : IntsRd w0 (.slice a sc.length cap) sc) (hf : Fr (fun i => w0.heap.size ≤ i) w0 w) (hc : sc.length ≤ cap) :
    ScAt (w.alloc (.cells #[.slice a sc.length cap] 106 (0, 0))) w0.heap.size w.heap.size sc := by
  have hf2 : Fr (fun i => w0.heap.size ≤ i) w0 (w.alloc (.cells #[.slice a sc.length cap] 106 (0, 0))) := hf.alloc _
  refine ⟨hf.size, h.1, a, cap, heap_alloc_this _ _, hc, fun j x hx => ?_⟩
  rcases h.2 with ⟨_, rfl⟩ | ⟨b, c, h1, h2, h3⟩
  · simp at hx
  · cases h1
    have hu : (sc.map (Value.int .i64))[j]? = some (.int .i64 x) := by rw [List.getElem?_map, hx]; rfl
    have hb := h3 j _ hu
    exact ⟨b, rfl, hb, hf2.size, (hf2.cell (by rw [add_block]; exact hb) (by rw [add_block]; omega)).trans (h2 j _ hu)⟩
theorem mdur_close {wr w1 : World} {M : Nat → Prop} {m n : Nat} {fv nv dv pv v : Value} {t : Pd.PD} {l : Pd.Names} (p : ModelP wr M m fv nv dv pv t) (hf : Fr (fun _ => False) wr w1)
    (hown : w1.ownsRow 0 94 2 v n (entV l)) (hn : n = l.length) (hn2 : n ≤ 1000000000000) (hl : ∀ b, v.ownBlock = some b → wr.heap.size ≤ b) : ModelTo wr M m { t with durable := l } (w1.setCell ⟨m, 5, none⟩ v) := by
  have hlt := p.lt
  have hfs : Fr (fun i => i = m) w1 (w1.setCell ⟨m, 5, none⟩ v) := (Fr.refl (fun i => i = m) w1).setCell ⟨m, 5, none⟩ _ (.inl rfl)
  have hf4 : Fr (fun i => i = m) wr (w1.setCell ⟨m, 5, none⟩ v) := (hf.mono (fun i e => e.elim)).trans hfs (fun i e => .inl e)
  have p4 := p.kept hf (fun _ _ _ e => e) (fun e => e)
  refine p.turn hf4 ((heap_set_same p4.cell).trans rfl) p.lim (p.hf.past hf4 p.hm) (p.hn.past hf4 p.hm) ?_ (p.hp.past hf4 p.hm)
  show RdIn _ _ 2 _ l.length (entV l)
  rw [← hn]
  exact ((RdIn.of_row (M := fun b => wr.heap.size ≤ b) hown hn2 hl).kept hfs (fun b hb _ e => by subst e; omega)).mono (fun b hb _ => .inr hb)
set_option maxRecDepth 100000 in
set_option maxHeartbeats 2000000 in
theorem mstart_any {w0 w : World} {M : Nat → Prop} {m n : Nat} {s : Pd.PD} (h : ModelAt w M m s) (hi : Pd.Inv n s) (hn : n < 1000000) (hfn : s.files.length ≤ 1000000) {sa : Option Addr} {scap : Nat} {sc : List Int} (hI : IntsRd w0 (.slice sa sc.length scap) sc) (hf0 : Fr (fun i => w0.heap.size ≤ i) w0 w) (hm0 : w0.heap.size ≤ m) (hsc : sc.length ≤ scap) (hl : sc.length ≤ 1000000) :
    Calls Try.prog 51 #[.pointer (some ⟨m, 0, none⟩), .slice sa sc.length scap] w fun e w' => e = .returned (.tuple #[]) ∧ ModelTo w M m (s.start sc) w' := by
  obtain ⟨an, capn, c4, c2, hr⟩ := h.names
  have H := Lib.hid h
  by_cases hd : s.down = true
  · rw [hd] at c2
    have c6 : ∃ a c, w.cell? ⟨m, 6, none⟩ = some (.slice a s.pending.length c) := by
      obtain ⟨fv, nv, dv, pv, p⟩ := h
      obtain ⟨a, c, rfl, _⟩ := p.hp.slice
      exact ⟨a, c, p.cells.2.2.2.2.2.2⟩
    obtain ⟨ap, capp, c6⟩ := c6
    have hlt : m < w.heap.size := by obtain ⟨_, _, _, _, p⟩ := h; exact p.lt
    have hpen := hi.pen
    have HSC := Lib.hid (ScAt.of' hI hf0 hsc)
    have hcl := Pd.choice_le sc s.pending.length
    have hclen := Pd.choice_len sc s.pending.length
    clear h hr hI c4 hf0
    go_enter Try.func51, Try.ntmps51
    go_upto_region 3 with (go_at_call 66; refine (mchoice_any HSC.out s.pending.length (by omega) (by omega)).mono ?_; rintro e w2 ⟨rfl, hsc2, hf2⟩)
    have hf02 : Fr (fun i => i = w.heap.size) w w2 := (((Fr.refl (fun _ => False) w).alloc _).mono (fun i e => e.elim)).trans hf2 (fun i e => .inl e)
    have ht2 : ModelAt w2 (fun b => M b ∧ b < w.heap.size) m s := by
      obtain ⟨fv, nv, dv, pv, p⟩ := H.out
      have p2 := p.kept hf02 (fun b _ hl e => by omega) (fun e => by omega)
      exact ⟨fv, nv, dv, pv, p2.cell, p2.lim, (p.hf.mono (fun b hb hl => ⟨hb, hl⟩)).kept hf02 (fun b hb _ e => by have := hb.2; omega), (p.hn.mono (fun b hb hl => ⟨hb, hl⟩)).kept hf02 (fun b hb _ e => by have := hb.2; omega), (p.hd.mono (fun b hb hl => ⟨hb, hl⟩)).kept hf02 (fun b hb _ e => by have := hb.2; omega), (p.hp.mono (fun b hb hl => ⟨hb, hl⟩)).kept hf02 (fun b hb _ e => by have := hb.2; omega), fun e => p.hm e.1⟩
    have HMW := Lib.hid hlt
    have HMM := Lib.hid (show ¬ M m from by obtain ⟨_, _, _, _, p⟩ := H.out; exact p.hm)
    have HF02 := Lib.hid hf02
    have HSB := Lib.hid (show w.heap.size < w2.heap.size from lt_of_some hsc2.2.2.choose_spec.choose_spec.1)
    have HT := Lib.hid (ModelTo.same ht2 (Fr.refl _ _))
    clear ht2
    generalize hc : Pd.choice sc s.pending.length = cc at hcl hclen hsc2 ⊢
    obtain ⟨c1, sc1⟩ := cc
    have HC := Lib.hid hc
    have HS2 := Lib.hid hsc2
    have HREP := Lib.hid hi.rep
    have HIN := Lib.hid hi
    have HD := Lib.hid hd
    have HB := Lib.hid hf02.size
    dsimp only at hcl hclen
    clear hc hsc2 hf2 hf02 HSC c6 c2 hi
    go_upto_region 4 with (fail)
    go_loopw [6] (fun i wr => ∃ (j : Nat), i = .int .i64 j ∧ j ≤ c1 ∧ ModelTo w2 (fun b => M b ∧ b < w.heap.size) m { s with durable := (s.pending.take j).foldl Pd.PChange.on s.durable } wr ∧ ScAt wr w0.heap.size w.heap.size sc1) (fun i wr => c1 - (intOf i).toNat)
    case atStart => exact ⟨0, rfl, Nat.zero_le _, HT.out, HS2.out⟩
    case round =>
      obtain ⟨j, rfl, hj, hT, hS⟩ := hrel
      by_cases hlt : j < c1
      · have hpj : s.pending[j]? = some s.pending[j] := List.getElem?_eq_getElem (by omega)
        generalize s.pending[j] = ch at hpj
        obtain ⟨hok, hlen⟩ := Pd.Rep.at HREP.out hpj
        have hnext := Pd.foldl_take_succ (l := s.durable) hpj
        obtain ⟨⟨fv, nv, dv, pv, p⟩, hfT⟩ := hT
        generalize (s.pending.take j).foldl Pd.PChange.on s.durable = dl at p hok hlen hnext
        obtain ⟨ad, capd, rfl, _⟩ := p.hd.slice
        obtain ⟨ap', capp', rfl, _⟩ := p.hp.slice
        obtain ⟨g1, g2, g3⟩ := chV_get hpj
        obtain ⟨b, c, rfl, hcc, hMc, _, d0, d1, d2⟩ := p.hp.three (i := j) (by show j < s.pending.length; omega) g1 g2 g3
        obtain ⟨_, _, _, _, _, k5, k6⟩ := p.cells
        have z5 := p.free 5
        have hltr := p.lt
        have d1' : wr.cell? ⟨c.block, c.off + 1, none⟩ = some (.string (chTri ch).2.1) := d1
        have d2' : wr.cell? ⟨c.block, c.off + 2, none⟩ = some (.int .i64 (chTri ch).2.2) := d2
        have hji : (j : Int) < (s.pending.length : Int) := by omega
        have PP := Lib.hid p
        have HOK := Lib.hid (chOk_of hok)
        have HFT := Lib.hid hfT
        have HSR := Lib.hid hS
        have HN := Lib.hid (p.hd.kept ((Fr.refl (fun _ => False) wr).drew) (fun _ _ _ e => e))
        have HNX := Lib.hid hnext
        clear p hok hfT hS hnext g1 g2 g3
        go_upto_region 6 with (fail)
        go_region_with (go_at_call 67; refine (changed_any (w := wr.drew) HN.out (by omega) ch HOK.out).mono ?_; rintro e w1 ⟨v1, rfl, hrow1, hown1, hf1⟩; have hf01 := ((Fr.refl (fun _ => False) wr).drew).trans hf1 (fun i e => e.elim); obtain ⟨a1, cap1, rfl, hac1⟩ := row_slice hrow1; have p1 := PP.out.kept hf01 (fun _ _ _ e => e) (fun e => e); obtain ⟨_, _, _, _, _, y5, y6⟩ := p1.cells; have x5 := p1.free 5)
        all_goals
          have hfs : Fr (fun i => i = m) wr (w1.setCell ⟨m, 5, none⟩ (.slice a1 (ch.on dl).length cap1)) := (hf01.mono (fun i e => e.elim)).trans ((Fr.refl (fun i => i = m) w1).setCell ⟨m, 5, none⟩ _ (.inl rfl)) (fun i e => .inl e)
          have hcl2 : (ch.on dl).length ≤ 1000000 := by have := on_length ch dl; omega
          have hdc := mdur_close PP.out hf01 hrow1 rfl (by omega) hown1
          have HTJ := Lib.hid (ModelTo.trans ⟨⟨_, _, _, _, PP.out⟩, HFT.out⟩ hdc)
          have HSJ := Lib.hid (HSR.out.kept hfs (fun b hb e => by subst e; omega) (fun e => by have := HB.out; omega))
          clear hdc hfs hrow1 hown1 hf1 hf01 p1 y5 y6 x5
          go_wp2
          refine ⟨⟨j + 1, by go_num, by omega, ?_, HSJ.out⟩, by simp [intOf]; omega⟩
          rw [HNX.out]
          exact HTJ.out
      · obtain rfl : j = c1 := by omega
        obtain ⟨⟨fv, nv, dv, pv, p⟩, hfT⟩ := hT
        obtain ⟨l, hle⟩ : ∃ l, (s.pending.take j).foldl Pd.PChange.on s.durable = l := ⟨_, rfl⟩
        rw [hle] at p
        have HLE := Lib.hid hle
        obtain ⟨ad, capd, rfl, _⟩ := p.hd.slice
        obtain ⟨_, k1, k2, _, k4, k5, k6⟩ := p.cells
        have z1 := p.free 1
        have z2 := p.free 2
        have z4 := p.free 4
        have z6 := p.free 6
        have hltr := p.lt
        have PP := Lib.hid p
        have HFT := Lib.hid hfT
        have HSR := Lib.hid hS
        clear p hfT hS hle
        go_upto_region 8 with (fail)
        have hfs : Fr (fun i => i = m) wr ((((wr.setCell ⟨m, 4, none⟩ (.slice ad l.length capd)).setCell ⟨m, 6, none⟩ (.slice none 0 0)).setCell ⟨m, 2, none⟩ (.bool false)).setCell ⟨m, 1, none⟩ (.int .i64 (-1))) := ((((Fr.refl (fun i => i = m) wr).setCell ⟨m, 4, none⟩ _ (.inl rfl)).setCell ⟨m, 6, none⟩ _ (.inl rfl)).setCell ⟨m, 2, none⟩ _ (.inl rfl)).setCell ⟨m, 1, none⟩ _ (.inl rfl)
        have ht2 : ModelTo wr (grown w2 (fun b => M b ∧ b < w.heap.size)) m { s with names := l, durable := l, pending := [], limit := none, down := false } ((((wr.setCell ⟨m, 4, none⟩ (.slice ad l.length capd)).setCell ⟨m, 6, none⟩ (.slice none 0 0)).setCell ⟨m, 2, none⟩ (.bool false)).setCell ⟨m, 1, none⟩ (.int .i64 (-1))) := by
          have p := PP.out
          exact p.turn (dv' := .slice ad l.length capd) hfs ((heap_set_same (heap_set_same (heap_set_same (heap_set_same p.cell)))).trans rfl) (by show (-1 : Int) ≤ _; omega) (p.hf.past hfs p.hm) (p.hd.past hfs p.hm) (p.hd.past hfs p.hm) (RdIn.nil _ _ _)
        have HT2 := Lib.hid (ModelTo.trans ⟨⟨_, _, _, _, PP.out⟩, HFT.out⟩ ht2)
        have HS3 := Lib.hid (HSR.out.kept hfs (fun b hb e => by subst e; omega) (fun e => by have := HB.out; omega))
        clear ht2 hfs k1 k2 k4 k5 k6 z1 z2 z4 z6
        generalize (((wr.setCell ⟨m, 4, none⟩ (.slice ad l.length capd)).setCell ⟨m, 6, none⟩ (.slice none 0 0)).setCell ⟨m, 2, none⟩ (.bool false)).setCell ⟨m, 1, none⟩ (.int .i64 (-1)) = w4 at HT2 HS3 ⊢
        obtain ⟨i0, hi0, hz0, hz1, hz2⟩ := info_parts info_mfile
        have HI0 := Lib.hid hi0
        have HZ0 := Lib.hid hz0
        have HZ1 := Lib.hid hz1
        have HZ2 := Lib.hid hz2
        clear hi0 hz0 hz1 hz2
        have hlf : ∀ e ∈ l, e.2 < s.files.length := fun e he => (((HIN.out.rep.prefix j).names HIN.out.nd (fun m f hm => HIN.out.ps m f (List.mem_of_mem_take hm))) e (by rw [HLE.out]; exact he)).2
        have hst : s.start sc = { s with names := l, durable := l, pending := [], limit := none, down := false, files := (Pd.startLoop l s.files sc1).1 } := by
          unfold Pd.PD.start
          rw [if_neg (by rw [HD.out]; decide), HC.out]
          dsimp only
          rw [HLE.out]
        have HLF := Lib.hid hlf
        have HST := Lib.hid hst
        clear hlf hst
        obtain ⟨⟨fv4, nv4, dv4, pv4, p4⟩, hf4⟩ := HT2.out
        obtain ⟨af, capf, rfl, _⟩ := p4.hf.slice
        obtain ⟨an4, capn4, rfl, _⟩ := p4.hn.slice
        have hfl := p4.hf.2.1
        have hln := p4.hn.2.1
        have P4 := Lib.hid p4
        have HF4 := Lib.hid hf4
        have h24 := hf4.size
        obtain ⟨_, _, _, c3, _, _, _⟩ := p4.cells
        have z3 := p4.free 3
        have hlt4 := p4.lt
        rcases p4.hf.2.2 with ⟨hv, h0⟩ | ⟨g0, cap0, hv, _, _, _, _, _⟩
        · have hfe : s.files = [] := List.length_eq_zero_iff.1 h0
          have hl0 : l = [] := by
            cases l with
            | nil => rfl
            | cons e r => have := HLF.out e List.mem_cons_self; rw [hfe] at this; cases this
          have H0 := Lib.hid hfe
          rw [hfe] at hv
          cases hv
          rw [hfe] at c3
          clear p4 hf4 h0 hfe
          subst hl0
          go_upto_region 9 with (at_builtin; refine wpList_append_own_none rfl (.tmp 63) (.tmp 67) 52 rfl 0 92 i0 2 Try.underlying52 HI0.out (.slice (some ⟨w4.heap.size, 0, none⟩) 0 0) 0 [] (by rfl) (row_empty (heap_alloc_this w4 _)) (by rfl) ?_)
          have hcl := mfiles_close (fs' := []) (n := 0) P4.out ((Fr.refl (fun _ => False) w4).alloc (.cells #[] 92 (0, 0))) (row_empty (heap_alloc_this w4 _)) rfl (Nat.zero_le _) (fun b hb => by cases hb; exact Nat.le_refl _)
          rw [World.setCell_alloc_past _ _ _ _ hlt4] at hcl
          have HCL := Lib.hid hcl
          have c4 : w4.cell? ⟨m, 4, none⟩ = some (.slice an4 0 capn4) := P4.out.cells.2.2.2.2.1
          have e0 : s.start sc = { s with names := [], durable := [], pending := [], limit := none, down := false, files := [] } := by
            rw [HST.out]
            show ({ s with names := [], durable := [], pending := [], limit := none, down := false, files := s.files } : Pd.PD) = _
            rw [H0.out]
          have E0 := Lib.hid e0
          clear hcl e0 c3 z3
          go_upto_region 10 with (fail)
          go_loopw [7] (fun i wr => i = .int .i64 0 ∧ wr = (w4.setCell ⟨m, 3, none⟩ (.slice (some ⟨w4.heap.size, 0, none⟩) 0 0)).alloc (.cells #[] 92 (0, 0))) (fun i wr => 0)
          case atStart => exact ⟨rfl, rfl⟩
          case round =>
            obtain ⟨rfl, rfl⟩ := hrel
            go_wp2
            go_end0
            refine ⟨rfl, ?_⟩
            rw [E0.out]
            exact (HT2.out.trans HCL.out).back HF02.out (fun i e => by omega) HMM.out HMW.out
        · cases hv
          have hE := rd_cells (p4.hf.kept ((Fr.refl (fun _ => False) w4).alloc (.cells #[] 92 (0, 0))) (fun _ _ _ e => e))
          have HE := Lib.hid hE
          clear p4 hf4 hE
          go_upto_region 9 with (at_builtin; go_must (refine wpList_append_own_at _ rfl (.tmp 63) (.tmp 67) 52 rfl 0 92 i0 (.agg #[.string ByteArray.empty, .int .i64 0]) 2 24 Try.underlying52 HI0.out HZ0.out HZ1.out HZ2.out rfl (by decide) (.slice (some ⟨w4.heap.size, 0, none⟩) 0 0) 0 [] (by rfl) (row_empty (heap_alloc_this w4 _)) g0 s.files.length capf (filV s.files) rfl (length_filV _) HE.out (filV_one _) (by unfold maxLen; omega) (by omega) (Nat.zero_le _) ?_; intro v5 w5 hown5 hg5 _ hloc5; have hf5 : Fr (fun _ => False) w4 w5 := ((Fr.refl (fun _ => False) w4).alloc _).grown hg5 (fun k hk => .inr (by simp [Value.ownBlock] at hk; omega)); have h5l : ∀ b, v5.ownBlock = some b → w4.heap.size ≤ b := own_fresh (w0 := w4) (fun b hb => by simp [Value.ownBlock] at hb; omega) (by first | omega | (simp; done) | (simp; omega)) hloc5; obtain ⟨a5, cap5, rfl, _⟩ := row_slice hown5; have p5 := P4.out.kept hf5 (fun _ _ _ e => e) (fun e => e); obtain ⟨_, _, _, d3, _, _, _⟩ := p5.cells; have y3 := p5.free 3))
          have hcl := mfiles_close (fs' := s.files) P4.out hf5 (row_cast hown5 (by omega) (by simp)) rfl (by omega) h5l
          have HCL := Lib.hid hcl
          have HF5 := Lib.hid hf5
          have HR5 := Lib.hid (row_cast hown5 (n' := s.files.length) (ys' := filV s.files) (by omega) (by simp))
          have H5L := Lib.hid h5l
          clear hcl hf5 hown5 hg5 hloc5 h5l d3 y3 p5 HE
          have c4 : w5.cell? ⟨m, 4, none⟩ = some (.slice an4 l.length capn4) := (P4.out.kept HF5.out (fun _ _ _ e => e) (fun e => e)).cells.2.2.2.2.1
          by_cases hz : s.files.length = 0
          · have hl0 : l = [] := by
              cases l with
              | nil => rfl
              | cons e r => have := HLF.out e List.mem_cons_self; omega
            subst hl0
            have e0 : s.start sc = { s with names := [], durable := [], pending := [], limit := none, down := false, files := s.files } := HST.out
            have E0 := Lib.hid e0
            have HZF := Lib.hid hz
            have c4' : w5.cell? ⟨m, 4, none⟩ = some (.slice an4 0 capn4) := c4
            clear e0 c4 hz
            go_upto_region 10 with (fail)
            go_loopw [7] (fun i wr => i = .int .i64 0 ∧ wr = w5.setCell ⟨m, 3, none⟩ (.slice a5 s.files.length cap5)) (fun i wr => 0)
            case atStart => exact ⟨rfl, rfl⟩
            case round =>
              obtain ⟨rfl, rfl⟩ := hrel
              go_wp2
              go_end0
              refine ⟨rfl, ?_⟩
              rw [E0.out]
              have hcl := HCL.out
              rw [Nat.zero_add] at hcl
              exact (HT2.out.trans hcl).back HF02.out (fun i e => by omega) HMM.out HMW.out
          · obtain ⟨g, cap, hv⟩ := row_some HR5.out (by omega)
            simp only [Value.slice.injEq] at hv
            obtain ⟨rfl, -, rfl⟩ := hv
            have HZF := Lib.hid hz
            clear hz
            have hg4 : w4.heap.size ≤ g := H5L.out g rfl
            have hgm : g ≠ m := by omega
            have hmsb : m ≠ w.heap.size := by have := HMW.out; omega
            have hsb4 : w.heap.size < w4.heap.size := by have := HSB.out; omega
            have hgs : g ≠ w.heap.size := by omega
            have hst2 : St2 w4 (w5.setCell ⟨m, 3, none⟩ (.slice (some ⟨g, 0, none⟩) s.files.length cap5)) m w.heap.size g cap5 (.slice an4 l.length capn4) dv4 pv4 { s with names := l, durable := l, pending := [], limit := none, down := false } w0.heap.size s.files sc1 := by
              have hr := HR5.out
              rw [Nat.zero_add] at hr
              have hf1 : Fr (fun i => i = m) w5 (w5.setCell ⟨m, 3, none⟩ (.slice (some ⟨g, 0, none⟩) s.files.length cap5)) := (Fr.refl _ _).setCell _ _ (.inl rfl)
              have hf2 : Fr (fun i => i = m ∨ i = w.heap.size) w4 (w5.setCell ⟨m, 3, none⟩ (.slice (some ⟨g, 0, none⟩) s.files.length cap5)) := (HF5.out.mono (fun i e => e.elim)).trans hf1 (fun i e => .inl (.inl e))
              exact ⟨(heap_set_same (P4.out.kept HF5.out (fun _ _ _ e => e) (fun e => e)).cell).trans rfl, ownsRow_fr hr hf1 (fun b hb e => by cases hb; exact hgm e), rfl, hf2, HS3.out.kept ((HF5.out.mono (S' := fun i => i = m) (fun i e => e.elim)).trans hf1 (fun i e => .inl e)) (fun b hb e => by subst e; omega) (fun e => hmsb e.symm), HIN.out.fs, by omega⟩
            have ST := Lib.hid hst2
            have hk4 : ∀ b, grown w2 (fun b => M b ∧ b < w.heap.size) b → b < w4.heap.size → ¬ (b = m ∨ b = w.heap.size) := by
              have hsb := HSB.out
              have hmw := HMW.out
              intro b hb hlt e
              rcases e with rfl | rfl
              · rcases hb with hb | hb
                · exact HMM.out hb.1
                · omega
              · rcases hb with hb | hb
                · have := hb.2; omega
                · omega
            have HK4 := Lib.hid hk4
            clear hst2 hk4 c4
            go_upto_region 10 with (fail)
            generalize w5.setCell ⟨m, 3, none⟩ (.slice (some ⟨g, 0, none⟩) s.files.length cap5) = W8 at ST ⊢
            clear HCL HR5 H5L HF5
            go_loopw [7] (fun i wr => ∃ (j : Nat) (fs : List Pd.PFile) (sck : List Int), i = .int .i64 j ∧ j ≤ l.length ∧ St2 w4 wr m w.heap.size g cap5 (.slice an4 l.length capn4) dv4 pv4 { s with names := l, durable := l, pending := [], limit := none, down := false } w0.heap.size fs sck ∧ (Pd.startLoop (l.drop j) fs sck).1 = (Pd.startLoop l s.files sc1).1) (fun i wr => l.length - (intOf i).toNat)
            case atStart => exact ⟨0, s.files, sc1, rfl, Nat.zero_le _, ST.out, rfl⟩
            case round =>
              obtain ⟨i, fs, sck, rfl, hi, hS, hL⟩ := hrel
              by_cases hlt2 : i < l.length
              · have hx : l[i]? = some l[i] := List.getElem?_eq_getElem hlt2
                have hk := HLF.out _ (List.getElem_mem hlt2)
                have hdrop := List.drop_eq_getElem_cons hlt2
                generalize l[i] = e at hx hk hdrop
                rw [hdrop] at hL
                obtain ⟨e1, e2⟩ := entV_get hx
                obtain ⟨b, c, rfl, hc, _, _, d0, d1⟩ := (P4.out.hn.kept hS.fr HK4.out).two hlt2 e1 e2
                obtain ⟨q3, q4, q0, q1, x0, x1, hlm, hlg⟩ := hS.cells hk
                have hwf := fileAt_wf hS.wf e.2
                obtain ⟨⟨D, du⟩, hDu⟩ : ∃ f, Pd.fileAt fs e.2 = f := ⟨_, rfl⟩
                have hL2 : (Pd.startLoop (l.drop (i + 1)) (fs.modify e.2 fun _ => ⟨(Pd.startFile ⟨D, du⟩ sck).1, (Pd.startFile ⟨D, du⟩ sck).1.size⟩) (Pd.startFile ⟨D, du⟩ sck).2).1 = (Pd.startLoop l s.files sc1).1 := by rw [← hDu]; exact hL
                rw [hDu] at q0 q1 hwf
                dsimp only at q0 q1 hwf
                have hk' : (e.2 : Int) < (s.files.length : Int) := by omega
                have hi' : (i : Int) < (l.length : Int) := by omega
                have HS := Lib.hid hS
                have HL := Lib.hid hL2
                have HDU := Lib.hid hDu
                have HKF := Lib.hid hk
                clear hL hL2 hDu hS hx hdrop e1 e2
                go_upto_region 12 with (fail)
                refine wp_region_quiet_lit (by kernel_rfl) (by kernel_rfl) ?_
                iterate 14 (refine (wpQuiet_step (fun K hK => ?_) : _); go_simp; refine hK _ ?_; clear hK K)
                refine (wpQuiet_nil ?_ : _)
                intro _ hw'
                obtain ⟨nq, hw''⟩ := hw'
                subst hw''
                have HS1 := Lib.hid (HS.out.still ((Fr.refl (fun _ => False) wr).drewM nq))
                clear q3 q4 q0 q1 x0 x1 d0 d1 hlm hlg
                generalize wr.drewN nq = W1 at HS1 ⊢
                have HS2 := Lib.hid (HS1.out.still ((Fr.refl (fun _ => False) W1).drew))
                obtain ⟨q3, q4, q0, q1, x0, x1, hlm, hlg⟩ := HS1.out.cells HKF.out
                rw [HDU.out] at q0 q1
                dsimp only at q0 q1
                have hcs : ((D.size : Int) - (du : Int)) = ((D.size - du : Nat) : Int) := by omega
                have HCS := Lib.hid hcs
                have hwr1 : IntKind.i64.wrap ((D.size : Int) - (du : Int)) = (D.size : Int) - (du : Int) := IntWalk.i64_in _ (by omega)
                clear hcs
                go_upto_region 13 with (fail)
                go_still_tail 11, (by kernel_rfl)
                change wpList _ _ _ _ _ W1.drew
                clear hwr1
                go_upto_region 14 with (go_at_call 66; go_must (rw [HCS.out]; refine (mchoice_any (w := W1.drew) (sc := sck) HS2.out.scr (D.size - du) (by omega) HS2.out.sl).mono ?_; rintro e w6 ⟨rfl, hS6, hf6⟩))
                have hch6 : (Pd.choice sck (D.size - du)).1 ≤ D.size - du := Pd.choice_le _ _
                have hle6 : (Pd.choice sck (D.size - du)).2.length ≤ 1000000000000 := by have := Pd.choice_len sck (D.size - du); have := HS2.out.sl; omega
                obtain ⟨kp, hkp⟩ : ∃ kp, (Pd.choice sck (D.size - du)).1 = kp := ⟨_, rfl⟩
                obtain ⟨sc2, hsc2⟩ : ∃ sc2, (Pd.choice sck (D.size - du)).2 = sc2 := ⟨_, rfl⟩
                rw [hkp] at hch6 ⊢
                rw [hsc2] at hle6 hS6
                have HKP := Lib.hid hkp
                have HSC2 := Lib.hid hsc2
                have HS6 := Lib.hid (HS2.out.chosen hf6 hS6 hle6 hmsb hgs)
                clear hkp hsc2 hf6 hS6 q3 q4 q0 q1 x0 x1 hlm hlg
                obtain ⟨q3, q4, q0, q1, x0, x1, hlm, hlg⟩ := HS6.out.cells HKF.out
                rw [HDU.out] at q0 q1
                dsimp only at q0 q1
                have hwr2 : IntKind.i64.wrap ((du : Int) + (kp : Int)) = (du : Int) + (kp : Int) := IntWalk.i64_in _ (by omega)
                have hnn : (0 : Int) ≤ (du : Int) + (kp : Int) := by omega
                have hnt : ((du : Int) + (kp : Int)).toNat = du + kp := by omega
                have hleD : du + kp ≤ D.size := by omega
                have hleI : (du : Int) + (kp : Int) ≤ (D.size : Int) := by omega
                refine wp_region_quiet_lit (by kernel_rfl) (by kernel_rfl) ?_
                iterate 12 (refine (wpQuiet_step (fun K hK => ?_) : _); go_simp; refine hK _ ?_; clear hK K)
                refine (wpQuiet_nil ?_ : _)
                intro _ hw'
                obtain ⟨nq, hw''⟩ := hw'
                subst hw''
                have HS7 := Lib.hid (HS6.out.still ((Fr.refl (fun _ => False) w6).drewM nq))
                clear hwr2 hnn hnt q3 q4 q0 q1 x0 x1 hlm hlg
                generalize w6.drewN nq = W7 at HS7 ⊢
                by_cases hkz : 0 < kp
                · have hmost : ((1 : Nat) : Int) = 1 := rfl
                  obtain ⟨TT, hTT⟩ : ∃ T, D.extract 0 (du + kp) = T := ⟨_, rfl⟩
                  have hTs : TT.size = du + kp := by rw [← hTT, ByteArray.size_extract]; omega
                  rw [hTT]
                  have HTT := Lib.hid hTT
                  have HTS := Lib.hid hTs
                  have HWF := Lib.hid hwf
                  clear hTT hTs
                  go_wp2_with (go_at_call 66; go_must (refine (mchoice_any (w := W7) (sc := sc2) HS7.out.scr 1 (by omega) HS7.out.sl).mono ?_; rintro e0 w8 ⟨rfl, hS8, hf8⟩; have HS8 := Lib.hid (HS7.out.chosen hf8 hS8 (Nat.le_trans (Pd.choice_len _ _) hle6) hmsb hgs); obtain ⟨q3, q4, q0, q1, x0, x1, hlm, hlg⟩ := HS8.out.cells HKF.out; clear hS8 hf8))
                  · obtain ⟨m8, hm8⟩ : ∃ m8, TT.size = m8 + 1 := ⟨TT.size - 1, by rw [HTS.out]; omega⟩
                    have hw8 : IntKind.i64.wrap ((TT.size : Int) - 1) = (m8 : Int) := by rw [hm8]; exact (IntWalk.i64_in _ (by have := HTS.out; have := HWF.out; omega)).trans (by omega)
                    have hlt8 : m8 < TT.size := by omega
                    have hlt8' : (m8 : Int) < (TT.size : Int) := by omega
                    have hle8' : (m8 : Int) ≤ (TT.size : Int) := by omega
                    have hle8 : m8 ≤ TT.size := by omega
                    have hcv : ∀ x : Int, (convert 38 9 (.slice (some ⟨w8.heap.size, 0, none⟩) 1 1)).run Try.prog (w8.alloc (.cells #[.int .u8 x] 5)).drew = .ok (.string (strOfNums [x])) (w8.alloc (.cells #[.int .u8 x] 5)).drew := by
                      intro x
                      refine run_convert_bytes_arg _ _ 5 Try.underlying38 Try.underlying5 w8.heap.size 0 1 1 [x] rfl (fun i hi => ?_) 9 Try.underlying9
                      obtain rfl : i = 0 := by omega
                      show (w8.alloc _).cell? ⟨w8.heap.size, 0 + 0, none⟩ = _
                      rw [cell_at (heap_alloc_this _ _)]
                      rfl
                    have hst1 : ∀ x : Int, (strOfNums [x]).size = 1 := fun x => strOfNums_size [x]
                    have hm8b : m8 ≤ 16777216 := by have := HTS.out; have := HWF.out; omega
                    have HM8 := Lib.hid hm8
                    clear hm8
                    go_region
                    all_goals clear hcv
                    all_goals go_wp2
                    all_goals
                      have hfl : (Pd.choice sc2 1).1 = 1 := by have h := ‹(((Pd.choice sc2 1).1 : Int) == 1) = true›; have := eq_of_beq h; omega
                      have hsz : ∀ x : Int, (TT.extract 0 m8 ++ strOfNums [x]).size = m8 + 1 := fun x => by rw [ByteArray.size_append, hst1, ByteArray.size_extract]; omega
                      refine ⟨⟨i + 1, _, _, by go_num, by omega, HS8.out.wrote hg4 hlt4 hsb4 e.2 (TT.extract 0 m8 ++ strOfNums [(255 - (TT[m8].toNat : Int)) % 256]) (by rw [hsz]; have := HM8.out; have := HTS.out; have := HWF.out; omega) _ (by rw [hsz]; push_cast; rfl) (((Fr.refl _ _).alloc _).drew), ?_⟩, by simp [intOf]; omega⟩
                      have hsf := startFile_flip' HKP.out HSC2.out hkz hfl HTT.out HM8.out hlt8
                      have hL := HL.out
                      rw [hsf] at hL
                      exact hL
                  · have hfl : ¬ (Pd.choice sc2 1).1 = 1 := by have h := ‹(((Pd.choice sc2 1).1 : Int) == 1) = false›; intro e; rw [e] at h; revert h; decide
                    refine ⟨⟨i + 1, _, _, by go_num, by omega, HS8.out.wrote hg4 hlt4 hsb4 e.2 TT (by rw [HTS.out]; omega) _ (by first | rfl | (rw [HTS.out]; push_cast; rfl)) (Fr.refl _ _), ?_⟩, by simp [intOf]; omega⟩
                    have hsf := startFile_keep HKP.out HSC2.out hkz hfl
                    rw [HTT.out] at hsf
                    have hL := HL.out
                    rw [hsf] at hL
                    exact hL
                · have hkf : decide ((0 : Int) < (kp : Int)) = false := by simp; omega
                  obtain ⟨q3, q4, q0, q1, x0, x1, hlm, hlg⟩ := HS7.out.cells HKF.out
                  go_wp2
                  refine ⟨⟨i + 1, _, _, by go_num, by omega, HS7.out.wrote hg4 hlt4 hsb4 e.2 (D.extract 0 (du + kp)) (by rw [ByteArray.size_extract]; omega) _ (by rw [ByteArray.size_extract]; omega) (Fr.refl _ _), ?_⟩, by simp [intOf]; omega⟩
                  have hsf := startFile_none HKP.out HSC2.out hkz
                  have hL := HL.out
                  rw [hsf] at hL
                  exact hL
              · obtain rfl : i = l.length := by omega
                have k4 : wr.cell? ⟨m, 4, none⟩ = some (.slice an4 l.length capn4) := (cell_at hS.cell 4).trans rfl
                have hlm := lt_of_some hS.cell
                rw [List.drop_length] at hL
                have hL2 : fs = (Pd.startLoop l s.files sc1).1 := hL
                have HL2 := Lib.hid hL2
                have HS := Lib.hid hS
                clear hL hL2 hS
                go_wp2
                go_end0
                refine ⟨rfl, ?_⟩
                rw [HST.out, ← HL2.out]
                exact HS.out.done P4.out hg4 h24 HSB.out rfl (((HF02.out.mono (fun i e => .inr (by omega))).trans HF4.out (fun i e => .inl e))) HMM.out HMW.out
  · have hd : s.down = false := by simpa using hd
    have e : s.start sc = s := by unfold Pd.PD.start; rw [if_pos hd]
    rw [hd] at c2
    rw [e]
    clear hd e h hr hi
    go_enter Try.func51, Try.ntmps51
    go_wp2
    refine bodyPost_ret (results_none rfl _ _ _) rfl ?_
    exact ⟨rfl, ModelTo.same H.out (Fr.refl _ _)⟩
end Go.Proofs.Ytigcokgjikkohaa
