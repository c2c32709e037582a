/- Single stores and new blocks, and what they do to the relation. -/
import Derived.Test.YtigcokgjikkohaaW5
namespace Go.Proofs.Ytigcokgjikkohaa
open Go.RowKit Go.Maps
set_option linter.unusedVariables false
set_option linter.unusedSimpArgs false

section
variable {w w' : World} {F G : Nat → Prop} {d nb db : Nat} {pv : Value} {xs : List Value} {addr : Nat → Nat} {L : Nat → Prop} {left : Int} {s : Pd.PD}

/-- The disk's own cells have been written; names, pending changes and files are what they were. -/
theorem DiskP.own (h : DiskP w F G d nb db pv xs addr L left s) {s' : Pd.PD} {left' : Int} (hf : Fr (fun i => i = d) w w') (hcell : w'.heap[d]? = some (diskObj s' nb db pv left'))
    (h1 : s'.names = s.names) (h2 : s'.durable = s.durable) (h3 : s'.pending = s.pending) (h4 : s'.files = s.files) (hl : ∀ n, s'.limit = some n → left' = n) (hw : -9223372036854775808 ≤ left' ∧ left' ≤ 9223372036854775807) :
    DiskP w' F G d nb db pv xs addr L left' s' :=
  { cell := hcell
    left_ok := hl
    left_wf := hw
    hn := by rw [h1]; exact ownsMap_fr h.hn hf h.nb_d
    hd := by rw [h2]; exact ownsMap_fr h.hd hf h.db_d
    row := by rw [h3]; exact ownsRow_fr h.row hf (fun b hb e => h.ne_v (by rw [hb, e]))
    pen := by rw [h3]; exact penIs_kept h.pen hf (fun x hx e => h.FG d h.Fd (e ▸ hx))
    file := fun k hk => by rw [h4]; exact (hf.block _ (lt_of_some (h.file k hk)) (fun e => h.d_f hk e.symm)).trans (h.file k hk)
    inj := h.inj
    Ln := by rw [h1]; exact h.Ln
    Ld := by rw [h2]; exact h.Ld
    Lp := by rw [h3]; exact h.Lp
    Ls := by rw [h4]; exact h.Ls
    Fd := h.Fd
    Fn := h.Fn
    Fb := h.Fb
    Fv := h.Fv
    Ff := h.Ff
    Flt := fun b hb => Nat.lt_of_lt_of_le (h.Flt b hb) hf.size
    Glt := fun b hb => Nat.lt_of_lt_of_le (h.Glt b hb) hf.size
    FG := h.FG
    ne_nd := h.ne_nd
    ne_v := h.ne_v
    ne_vf := h.ne_vf }

theorem setD_fr (w : World) (d i : Nat) (v : Value) : Fr (fun j => j = d) w (w.setCell ⟨d, i, none⟩ v) := (Fr.refl _ _).setCell _ _ (.inl rfl)

/-- A new file, which no name leads to. -/
theorem DiskP.newfile (h : DiskP w F G d nb db pv xs addr L left s) (f : Pd.PFile) :
    DiskP (w.alloc (fileObj f)) (fun i => F i ∨ i = w.heap.size) G d nb db pv xs (fun k => if k = s.files.length then w.heap.size else addr k) (fun k => L k ∨ k = s.files.length) left { s with files := s.files ++ [f] } := by
  have hf : Fr (fun _ => False) w (w.alloc (fileObj f)) := (Fr.refl _ _).alloc _
  have hne : ∀ k, L k → k ≠ s.files.length := fun k hk e => by have := h.Ls k hk; omega
  have ha : ∀ k, L k → (if k = s.files.length then w.heap.size else addr k) = addr k := fun k hk => if_neg (hne k hk)
  have hp := h.kept hf (fun _ _ e => e) (fun _ _ e => e)
  exact {
    cell := hp.cell
    left_ok := h.left_ok
    left_wf := h.left_wf
    hn := by
      have := hp.hn
      rw [toD_congr (a' := fun k => if k = s.files.length then w.heap.size else addr k) (fun e he => (ha _ (h.Ln e he)).symm)] at this
      exact this
    hd := by
      have := hp.hd
      rw [toD_congr (a' := fun k => if k = s.files.length then w.heap.size else addr k) (fun e he => (ha _ (h.Ld e he)).symm)] at this
      exact this
    row := hp.row
    pen := penIs_addr hp.pen (fun n f' hm => (ha _ (h.Lp n f' hm)).symm)
    file := by
      rintro k (hk | rfl)
      · show (w.alloc (fileObj f)).heap[if k = s.files.length then w.heap.size else addr k]? = _
        rw [ha k hk, hp.file k hk]
        have := h.Ls k hk
        simp [Pd.fileAt, List.getD, List.getElem?_append_left this]
      · show (w.alloc (fileObj f)).heap[if s.files.length = s.files.length then w.heap.size else addr _]? = _
        rw [if_pos rfl, heap_alloc_this]
        simp [Pd.fileAt, List.getD]
    inj := by
      intro k k' hk hk' e
      have hl := fun k hk => lt_of_some (h.file k hk)
      rcases hk with hk | rfl <;> rcases hk' with hk' | rfl
      · simp only [ha k hk, ha k' hk'] at e; exact h.inj k k' hk hk' e
      · simp only [ha k hk, if_true] at e; have := hl k hk; omega
      · simp only [ha k' hk', if_true] at e; have := hl k' hk'; omega
      · rfl
    Ln := fun e he => .inl (h.Ln e he)
    Ld := fun e he => .inl (h.Ld e he)
    Lp := fun n f' hm => .inl (h.Lp n f' hm)
    Ls := by
      rintro k (hk | rfl)
      · have := h.Ls k hk; simp; omega
      · simp
    Fd := .inl h.Fd
    Fn := .inl h.Fn
    Fb := .inl h.Fb
    Fv := fun b hb => .inl (h.Fv b hb)
    Ff := by
      rintro k (hk | rfl)
      · show F (if k = s.files.length then w.heap.size else addr k) ∨ _
        rw [ha k hk]; exact .inl (h.Ff k hk)
      · exact .inr (if_pos rfl)
    Flt := by
      rintro b (hb | rfl)
      · exact Nat.lt_of_lt_of_le (h.Flt b hb) hf.size
      · simp
    Glt := hp.Glt
    FG := by
      rintro b (hb | rfl) hg
      · exact h.FG b hb hg
      · have := h.Glt _ hg; omega
    ne_nd := h.ne_nd
    ne_v := h.ne_v
    ne_vf := by
      rintro k (hk | rfl) e
      · rw [ha k hk] at e; exact h.ne_vf k hk e
      · simp only [if_true] at e; have := h.Flt _ (h.Fv _ e); omega }

/-- A file's cells have been written. -/
theorem DiskP.refile (h : DiskP w F G d nb db pv xs addr L left s) {k : Nat} (hk : L k) (g : Pd.PFile → Pd.PFile) (hf : Fr (fun i => i = addr k) w w') (hcell : w'.heap[addr k]? = some (fileObj (g (Pd.fileAt s.files k)))) :
    DiskP w' F G d nb db pv xs addr L left { s with files := s.files.modify k g } := by
  have hlen := h.Ls k hk
  exact {
    cell := (hf.block d (lt_of_some h.cell) (h.d_f hk)).trans h.cell
    left_ok := h.left_ok
    left_wf := h.left_wf
    hn := ownsMap_fr h.hn hf (h.nb_f hk)
    hd := ownsMap_fr h.hd hf (h.db_f hk)
    row := ownsRow_fr h.row hf (fun b hb e => h.ne_vf k hk (by rw [hb, e]))
    pen := penIs_kept h.pen hf (fun x hx e => h.FG _ (h.Ff k hk) (e ▸ hx))
    file := by
      intro k' hk'
      by_cases e : k' = k
      · subst e
        rw [hcell]
        simp [Pd.fileAt, List.getD, hlen]
      · rw [(hf.block _ (lt_of_some (h.file k' hk')) (fun e' => e (h.inj _ _ hk' hk e'))).trans (h.file k' hk')]
        have : (s.files.modify k g)[k']? = s.files[k']? := by rw [List.getElem?_modify]; simp [Ne.symm e]
        simp [Pd.fileAt, List.getD, this]
    inj := h.inj
    Ln := h.Ln
    Ld := h.Ld
    Lp := h.Lp
    Ls := fun k' hk' => by simpa using h.Ls k' hk'
    Fd := h.Fd
    Fn := h.Fn
    Fb := h.Fb
    Fv := h.Fv
    Ff := h.Ff
    Flt := fun b hb => Nat.lt_of_lt_of_le (h.Flt b hb) hf.size
    Glt := fun b hb => Nat.lt_of_lt_of_le (h.Glt b hb) hf.size
    FG := h.FG
    ne_nd := h.ne_nd
    ne_v := h.ne_v
    ne_vf := h.ne_vf }

/-- More blocks that are only read. -/
theorem DiskP.moreG (h : DiskP w F G d nb db pv xs addr L left s) {G' : Nat → Prop} (hg : ∀ i, G i → G' i) (hlt : ∀ i, G' i → i < w.heap.size) (hFG : ∀ i, F i → ¬ G' i) : DiskP w F G' d nb db pv xs addr L left s :=
  { h with pen := penIs_mono h.pen hg, Glt := hlt, FG := hFG }

/-- A change that has just been made, beside the disk. -/
theorem made_disk {c : Pd.PChange} {e : Ending} (h : DiskP w F G d nb db pv xs addr L left s) (hm : Made w addr c e w') :
    ∃ a b G', e = .returned (.agg #[a, b]) ∧ chIs w' G' addr c a b ∧ DiskP w' F G' d nb db pv xs addr L left s ∧ (∀ i, G' i → G i ∨ w.heap.size ≤ i) ∧ Fr (fun _ => False) w w' := by
  obtain ⟨a, b, he, hch, hfr⟩ := hm
  refine ⟨a, b, fun i => G i ∨ (w.heap.size ≤ i ∧ i < w'.heap.size), he, chIs_mono hch (fun i hi => .inr hi), ?_, ?_, hfr⟩
  · refine (h.kept hfr (fun _ _ e => e) (fun _ _ e => e)).moreG (fun i hi => .inl hi) ?_ ?_
    · rintro i (hi | hi)
      · exact Nat.lt_of_lt_of_le (h.Glt i hi) hfr.size
      · exact hi.2
    · rintro i hi (hg | hg)
      · exact h.FG i hi hg
      · have := h.Flt i hi; omega
  · rintro i (hi | hi)
    · exact .inl hi
    · exact .inr hi.1
end

set_option maxHeartbeats 400000 in
theorem fails_any {w : World} {F G : Nat → Prop} {d nb db : Nat} {pv : Value} {xs : List Value} {addr : Nat → Nat} {L : Nat → Prop} {left : Int} {s : Pd.PD} (h : DiskP w F G d nb db pv xs addr L left s) :
    Calls Try.prog 40 #[.pointer (some ⟨d, 0, none⟩)] w fun e w' => e = .returned (.bool s.tick.1) ∧ (∃ left', DiskP w' F G d nb db pv xs addr L left' s.tick.2) ∧ Fr (fun i => i = d) w w' ∧ w'.heap.size = w.heap.size := by
  obtain ⟨_, _, _, _, h4, h5, h6⟩ := h.c1
  cases hl : s.limit with
  | none =>
    rw [hl] at h4
    refine (fails_no (by simpa using h4)).mono ?_
    rintro e w' ⟨rfl, rfl⟩
    have ht : s.tick = (false, s) := by simp [Pd.PD.tick, hl]
    rw [ht]
    exact ⟨rfl, ⟨left, h⟩, Fr.refl _ _, rfl⟩
  | some n =>
    rw [hl] at h4
    have e1 := h.left_ok n hl
    cases n with
    | zero =>
      have e0 : left = 0 := by simpa using e1
      subst e0
      refine (fails_zero (by simpa using h4) h5 _ h6 (free_at h.cell 6)).mono ?_
      rintro e w' ⟨rfl, rfl⟩
      have ht : s.tick = (true, { s with down := true }) := by simp [Pd.PD.tick, hl]
      rw [ht]
      refine ⟨rfl, ⟨0, h.own (setD_fr _ _ _ _) ?_ rfl rfl rfl rfl h.left_ok h.left_wf⟩, setD_fr _ _ _ _, by simp⟩
      rw [heap_set_same h.cell]
      simp [diskObj]
    | succ n =>
      have hb : (1 : Int) ≤ left := by rw [e1]; omega
      refine (fails_more left hb h.left_wf.2 (by simpa using h4) h5 (free_at h.cell 5)).mono ?_
      rintro e w' ⟨rfl, rfl⟩
      have ht : s.tick = (false, { s with limit := some n }) := by simp [Pd.PD.tick, hl]
      rw [ht]
      refine ⟨rfl, ⟨left - 1, h.own (setD_fr _ _ _ _) ?_ rfl rfl rfl rfl ?_ ?_⟩, setD_fr _ _ _ _, by simp⟩
      · rw [heap_set_same h.cell]
        simp [diskObj, hl]
      · intro m hm
        have : n = m := by simpa using hm
        subst this; omega
      · have := h.left_wf; omega
end Go.Proofs.Ytigcokgjikkohaa
