/- A disk that is starting. -/
import Derived.Test.YtigcokgjikkohaaS1
namespace Go.Proofs.Ytigcokgjikkohaa
open Go.RowKit Go.Maps Go.Sort
set_option linter.unusedVariables false
set_option linter.unusedSimpArgs false

/-- A disk on the way through Start: the names are the durable names' map; fs: the files as they stand. -/
structure MidP (w : World) (F G : Nat → Prop) (d db : Nat) (addr : Nat → Nat) (L : Nat → Prop) (left : Int) (cap : Nat) (l : Pd.Names) (fs : List Pd.PFile) : Prop where
  cell : w.heap[d]? = some (.cells #[.int .i64 cap, .map (some db), .map (some db), .slice none 0 0, .bool false, .int .i64 left, .bool false] 72 (0, 0))
  left_wf : -9223372036854775808 ≤ left ∧ left ≤ 9223372036854775807
  hn : namesAt w db l.length addr l
  file : ∀ k, L k → w.heap[addr k]? = some (fileObj (Pd.fileAt fs k))
  inj : ∀ k k', L k → L k' → addr k = addr k' → k = k'
  Ll : ∀ e ∈ l, L e.2
  Ls : ∀ k, L k → k < fs.length
  Fd : F d
  Fb : F db
  Ff : ∀ k, L k → F (addr k)
  Flt : ∀ b, F b → b < w.heap.size
  Glt : ∀ b, G b → b < w.heap.size
  FG : ∀ b, F b → ¬ G b

section
variable {w w' : World} {F G S : Nat → Prop} {d nb db : Nat} {pv : Value} {xs : List Value} {addr : Nat → Nat} {L : Nat → Prop} {left : Int} {s : Pd.PD} {cap : Nat} {l : Pd.Names} {fs : List Pd.PFile}
theorem MidP.kept (h : MidP w F G d db addr L left cap l fs) (hf : Fr S w w') (hF : ∀ b, F b → ¬ S b) (hG : ∀ b, G b → ¬ S b) : MidP w' F G d db addr L left cap l fs :=
  { h with
    cell := (hf.block d (lt_of_some h.cell) (hF _ h.Fd)).trans h.cell
    hn := ownsMap_fr h.hn hf (hF _ h.Fb)
    file := fun k hk => (hf.block _ (lt_of_some (h.file k hk)) (hF _ (h.Ff k hk))).trans (h.file k hk)
    Flt := fun b hb => Nat.lt_of_lt_of_le (h.Flt b hb) hf.size
    Glt := fun b hb => Nat.lt_of_lt_of_le (h.Glt b hb) hf.size }
theorem MidP.d_f (h : MidP w F G d db addr L left cap l fs) {k : Nat} (hk : L k) : d ≠ addr k := by
  intro e
  have h1 := h.cell
  have h2 := h.file k hk
  rw [e, h2] at h1
  simp [fileObj] at h1
theorem MidP.db_f (h : MidP w F G d db addr L left cap l fs) {k : Nat} (hk : L k) : db ≠ addr k := by
  intro e
  obtain ⟨es, c, hb, _⟩ := h.hn
  have := h.file k hk
  rw [← e, hb] at this
  cases this
theorem MidP.db_d (h : MidP w F G d db addr L left cap l fs) : db ≠ d := by
  rintro rfl
  obtain ⟨es, c, hb, _⟩ := h.hn
  have := h.cell
  rw [hb] at this
  cases this
theorem MidP.refile (h : MidP w F G d db addr L left cap l fs) {k : Nat} (hk : L k) (g : Pd.PFile → Pd.PFile) (hf : Fr (fun i => i = addr k) w w') (hcell : w'.heap[addr k]? = some (fileObj (g (Pd.fileAt fs k)))) :
    MidP w' F G d db addr L left cap l (fs.modify k g) := by
  have hlen := h.Ls k hk
  exact {
    cell := (hf.block d (lt_of_some h.cell) (h.d_f hk)).trans h.cell
    left_wf := h.left_wf
    hn := ownsMap_fr h.hn hf (h.db_f hk)
    file := by
      intro k' hk'
      by_cases e : k' = k
      · subst e
        rw [hcell]
        simp [Pd.fileAt, List.getD, hlen]
      · rw [(hf.block _ (lt_of_some (h.file k' hk')) (fun e' => e (h.inj _ _ hk' hk e'))).trans (h.file k' hk')]
        have : (fs.modify k g)[k']? = fs[k']? := by rw [List.getElem?_modify]; simp [Ne.symm e]
        simp [Pd.fileAt, List.getD, this]
    inj := h.inj
    Ll := h.Ll
    Ls := fun k' hk' => by simpa using h.Ls k' hk'
    Fd := h.Fd
    Fb := h.Fb
    Ff := h.Ff
    Flt := fun b hb => Nat.lt_of_lt_of_le (h.Flt b hb) hf.size
    Glt := fun b hb => Nat.lt_of_lt_of_le (h.Glt b hb) hf.size
    FG := h.FG }
theorem MidP.fileCells (h : MidP w F G d db addr L left cap l fs) {k : Nat} (hk : L k) :
    w.cell? ⟨addr k, 0, none⟩ = some (.string (Pd.fileAt fs k).data) ∧ w.cell? ⟨addr k, 1, none⟩ = some (.int .i64 (Pd.fileAt fs k).dur) ∧ w.frozen? ⟨addr k, 0, none⟩ = false ∧ w.frozen? ⟨addr k, 1, none⟩ = false := by
  have hf := h.file k hk
  exact ⟨by rw [cell_at hf]; rfl, by rw [cell_at hf]; rfl, free_at hf 0, free_at hf 1⟩
/-- The durable names have been changed. -/
theorem DiskP.durables (h : DiskP w F G d nb db pv xs addr L left s) {l' : Pd.Names} (hm : namesAt w' db l'.length addr l') (hf : Fr (fun i => i = db) w w') (hL : ∀ e ∈ l', L e.2) : DiskP w' F G d nb db pv xs addr L left { s with durable := l' } :=
  { cell := (hf.block d (lt_of_some h.cell) (fun e => h.db_d e.symm)).trans h.cell
    left_ok := h.left_ok
    left_wf := h.left_wf
    hn := ownsMap_fr h.hn hf h.ne_nd
    hd := hm
    row := ownsRow_fr h.row hf (fun b hb e => h.db_v (by rw [hb, e]))
    pen := penIs_kept h.pen hf (fun x hx e => h.FG _ h.Fb (e ▸ hx))
    file := fun k hk => (hf.block _ (lt_of_some (h.file k hk)) (fun e => h.db_f hk e.symm)).trans (h.file k hk)
    inj := h.inj
    Ln := h.Ln
    Ld := hL
    Lp := h.Lp
    Ls := h.Ls
    Fd := h.Fd
    Fn := h.Fn
    Fb := h.Fb
    Fv := h.Fv
    Ff := h.Ff
    Flt := fun b hb => Nat.lt_of_lt_of_le (h.Flt b hb) hf.size
    Glt := fun b hb => Nat.lt_of_lt_of_le (h.Glt b hb) hf.size
    FG := h.FG
    ne_nd := h.ne_nd
    ne_v := h.ne_v
    ne_vf := h.ne_vf }
/-- The four stores behind the first loop. -/
theorem DiskP.mid (h : DiskP w F G d nb db pv xs addr L left s) :
    MidP ((((w.setCell ⟨d, 1, none⟩ (.map (some db))).setCell ⟨d, 3, none⟩ (.slice none 0 0)).setCell ⟨d, 4, none⟩ (.bool false)).setCell ⟨d, 6, none⟩ (.bool false)) F G d db addr L left s.cap s.durable s.files := by
  have hf : Fr (fun i => i = d) w ((((w.setCell ⟨d, 1, none⟩ (.map (some db))).setCell ⟨d, 3, none⟩ (.slice none 0 0)).setCell ⟨d, 4, none⟩ (.bool false)).setCell ⟨d, 6, none⟩ (.bool false)) :=
    ((((Fr.refl (fun i => i = d) w).setCell ⟨d, 1, none⟩ _ (.inl rfl)).setCell ⟨d, 3, none⟩ _ (.inl rfl)).setCell ⟨d, 4, none⟩ _ (.inl rfl)).setCell ⟨d, 6, none⟩ _ (.inl rfl)
  exact {
    cell := by
      rw [heap_set_same (heap_set_same (heap_set_same (heap_set_same h.cell)))]
      simp
    left_wf := h.left_wf
    hn := ownsMap_fr h.hd hf h.db_d
    file := fun k hk => (hf.block _ (lt_of_some (h.file k hk)) (fun e => h.d_f hk e.symm)).trans (h.file k hk)
    inj := h.inj
    Ll := h.Ld
    Ls := h.Ls
    Fd := h.Fd
    Fb := h.Fb
    Ff := h.Ff
    Flt := fun b hb => Nat.lt_of_lt_of_le (h.Flt b hb) hf.size
    Glt := fun b hb => Nat.lt_of_lt_of_le (h.Glt b hb) hf.size
    FG := h.FG }
/-- The last store: the durable names have a map of their own again. -/
theorem MidP.done (h : MidP w F G d db addr L left cap l fs) {nd : Nat} (hf : Fr (fun _ => False) w w') (hm : namesAt w' nd l.length addr l) (hnd : w.heap.size ≤ nd) (hlt : nd < w'.heap.size) :
    DiskP (w'.setCell ⟨d, 2, none⟩ (.map (some nd))) (fun i => F i ∨ i = nd) G d db nd (.slice none 0 0) [] addr L left { cap, files := fs, names := l, durable := l, pending := [], limit := none, down := false } := by
  have h1 := h.kept hf (fun _ _ e => e) (fun _ _ e => e)
  have hf2 := setD_fr w' d 2 (.map (some nd))
  have hFn : ∀ b, F b → b < nd := fun b hb => Nat.lt_of_lt_of_le (h.Flt b hb) hnd
  exact {
    cell := by
      rw [heap_set_same h1.cell]
      simp [diskObj]
    left_ok := by intro n hn; cases hn
    left_wf := h.left_wf
    hn := ownsMap_fr h1.hn hf2 h.db_d
    hd := ownsMap_fr hm hf2 (fun e => by have := hFn d h.Fd; omega)
    row := World.ownsRow_nil _ _ _ _
    pen := trivial
    file := fun k hk => (hf2.block _ (lt_of_some (h1.file k hk)) (fun e => h.d_f hk e.symm)).trans (h1.file k hk)
    inj := h.inj
    Ln := h.Ll
    Ld := h.Ll
    Lp := by intro n f hm; cases hm
    Ls := h.Ls
    Fd := .inl h.Fd
    Fn := .inl h.Fb
    Fb := .inr rfl
    Fv := by intro b hb; cases hb
    Ff := fun k hk => .inl (h.Ff k hk)
    Flt := by
      rintro b (hb | rfl)
      · exact Nat.lt_of_lt_of_le (h1.Flt b hb) hf2.size
      · simpa using hlt
    Glt := fun b hb => Nat.lt_of_lt_of_le (h1.Glt b hb) hf2.size
    FG := by
      rintro b (hb | rfl) hg
      · exact h.FG b hb hg
      · have := h.Glt _ hg; omega
    ne_nd := by have := hFn db h.Fb; omega
    ne_v := by intro e; cases e
    ne_vf := by intro k hk e; cases e }

end
end Go.Proofs.Ytigcokgjikkohaa
