/- What the second loop of the model's start keeps. -/
import Derived.Test.YtigcokgjikkohaaMo10
import Derived.Test.YtigcokgjikkohaaMo11
import Derived.Test.YtigcokgjikkohaaS3
namespace Go.Proofs.Ytigcokgjikkohaa
open Go.RowKit Go.Maps Go.Sort
set_option linter.unusedVariables false
set_option linter.unusedSimpArgs false
/-- The second loop of the model's start, on its way: its files lie in the new block g. -/
structure St2 (w4 wr : World) (m sb g cap : Nat) (nv dv pv : Value) (t : Pd.PD) (B : Nat) (fs : List Pd.PFile) (sc : List Int) : Prop where
  cell : wr.heap[m]? = some (modelObj t (.slice (some ⟨g, 0, none⟩) t.files.length cap) nv dv pv)
  row : wr.ownsRow 0 92 2 (.slice (some ⟨g, 0, none⟩) t.files.length cap) t.files.length (filV fs)
  len : fs.length = t.files.length
  fr : Fr (fun i => i = m ∨ i = sb) w4 wr
  scr : ScAt wr B sb sc
  wf : ∀ f ∈ fs, f.dur ≤ f.data.size ∧ f.data.size ≤ 16777216
  sl : sc.length ≤ 1000000000000
section
variable {w w2 w4 wr w' : World} {M M2 : Nat → Prop} {m sb g cap B : Nat} {fv nv dv pv : Value} {t : Pd.PD} {fs : List Pd.PFile} {sc sc2 : List Int}
theorem St2.still (h : St2 w4 wr m sb g cap nv dv pv t B fs sc) (hf : Fr (fun _ => False) wr w') : St2 w4 w' m sb g cap nv dv pv t B fs sc :=
  ⟨(hf.block m (lt_of_some h.cell) (fun e => e)).trans h.cell, ownsRow_fr h.row hf (fun _ _ e => e), h.len, h.fr.trans hf (fun _ e => e.elim), h.scr.kept hf (fun _ _ e => e) (fun e => e), h.wf, h.sl⟩
theorem St2.chosen (h : St2 w4 wr m sb g cap nv dv pv t B fs sc) (hf : Fr (fun i => i = sb) wr w') (hs : ScAt w' B sb sc2) (hl : sc2.length ≤ 1000000000000) (hm : m ≠ sb) (hg : g ≠ sb) : St2 w4 w' m sb g cap nv dv pv t B fs sc2 :=
  ⟨(hf.block m (lt_of_some h.cell) hm).trans h.cell, ownsRow_fr h.row hf (fun b hb e => by cases hb; exact hg e), h.len, h.fr.trans hf (fun _ e => .inl (.inr e)), hs, h.wf, hl⟩
theorem St2.wrote (h : St2 w4 wr m sb g cap nv dv pv t B fs sc) (hg : w4.heap.size ≤ g) (hm : m < w4.heap.size) (hs : sb < w4.heap.size) (k : Nat) (T : ByteArray) (hT : T.size ≤ 16777216) (z : Int) (hz : z = T.size)
    (hf : Fr (fun _ => False) ((wr.setCell ⟨g, k * 2, none⟩ (.string T)).setCell ⟨g, k * 2 + 1, none⟩ (.int .i64 z)) w') : St2 w4 w' m sb g cap nv dv pv t B (fs.modify k fun _ => ⟨T, T.size⟩) sc := by
  subst hz
  have h1 : Fr (fun i => i = g) wr ((wr.setCell ⟨g, k * 2, none⟩ (.string T)).setCell ⟨g, k * 2 + 1, none⟩ (.int .i64 T.size)) :=
    ((Fr.refl (fun i => i = g) wr).setCell ⟨g, k * 2, none⟩ _ (.inl rfl)).setCell ⟨g, k * 2 + 1, none⟩ _ (.inl rfl)
  have e : fs.modify k (fun _ => (⟨T, T.size⟩ : Pd.PFile)) = (fs.modify k fun f => { f with data := T }).modify k fun f => { f with dur := T.size } := by
    apply List.ext_getElem?
    intro i
    rw [List.getElem?_modify, List.getElem?_modify, List.getElem?_modify]
    by_cases e : k = i
    · subst e
      cases fs[k]? <;> simp
    · simp [e]
  have hr := row_set (row_set h.row (k * 2) (.string T)) (k * 2 + 1) (.int .i64 T.size)
  rw [filV_set_data T fs k, filV_set_dur T.size _ k, ← e] at hr
  have hsB := h.scr.1
  refine St2.still ⟨(h1.block m (lt_of_some h.cell) (fun e => by omega)).trans h.cell, hr, by rw [List.length_modify]; exact h.len, h.fr.trans h1 (fun i e => .inr (by omega)), h.scr.kept h1 (fun b hb e => by omega) (fun e => by omega), ?_, h.sl⟩ hf
  intro f hfm
  rcases Pd.mem_modify hfm with hm | ⟨rfl, _⟩
  · exact h.wf f hm
  · exact ⟨Nat.le_refl _, hT⟩
theorem St2.done (h : St2 w4 wr m sb g cap nv dv pv t B fs sc) (p4 : ModelP w4 (grown w2 (fun b => M b ∧ b < w.heap.size)) m fv nv dv pv t) (hg : w4.heap.size ≤ g) (h24 : w2.heap.size ≤ w4.heap.size) (hw2 : w.heap.size < w2.heap.size) (hsb : sb = w.heap.size) (hw4 : Fr (fun i => i = m) w w4) (hm : ¬ M m) (hmw : m < w.heap.size) :
    ModelTo w M m { t with files := fs } wr := by
  subst hsb
  have hk : ∀ b, grown w2 (fun b => M b ∧ b < w.heap.size) b → b < w4.heap.size → ¬ (b = m ∨ b = w.heap.size) := by
    intro b hb hlt e
    rcases e with rfl | rfl
    · rcases hb with hb | hb
      · exact hm hb.1
      · omega
    · rcases hb with hb | hb
      · omega
      · omega
  have hm2 : ∀ b, grown w2 (fun b => M b ∧ b < w.heap.size) b → b < wr.heap.size → grown w M b := by
    intro b hb _
    rcases hb with hb | hb
    · exact .inl hb.1
    · exact .inr (by omega)
  refine ⟨⟨_, nv, dv, pv, h.cell, p4.lim, ?_, (p4.hn.kept h.fr hk).mono hm2, (p4.hd.kept h.fr hk).mono hm2, (p4.hp.kept h.fr hk).mono hm2, fun e => e.elim hm (fun e => by omega)⟩, hw4.trans h.fr (fun i e => e.elim (fun e => .inl e) (fun e => .inr (by omega)))⟩
  have hl := h.len
  have hb := p4.hf.2.1
  show RdIn _ _ 2 _ fs.length (filV fs)
  rw [hl]
  exact RdIn.of_row h.row hb (fun b hb => by cases hb; exact .inr (by show w.heap.size ≤ g; have := hw4.size; omega))
theorem St2.cells (h : St2 w4 wr m sb g cap nv dv pv t B fs sc) {k : Nat} (hk : k < t.files.length) : wr.cell? ⟨m, 3, none⟩ = some (.slice (some ⟨g, 0, none⟩) t.files.length cap) ∧ wr.cell? ⟨m, 4, none⟩ = some nv ∧
    wr.cell? ⟨g, k * 2, none⟩ = some (.string (Pd.fileAt fs k).data) ∧ wr.cell? ⟨g, k * 2 + 1, none⟩ = some (.int .i64 (Pd.fileAt fs k).dur) ∧ wr.frozen? ⟨g, k * 2, none⟩ = false ∧ wr.frozen? ⟨g, k * 2 + 1, none⟩ = false ∧ m < wr.heap.size ∧ g < wr.heap.size := by
  have hg := filV_get (fileAt_get (fs := fs) (k := k) (by rw [h.len]; exact hk))
  obtain ⟨cur, h3, _⟩ := row_block h.row
  exact ⟨(cell_at h.cell 3).trans rfl, (cell_at h.cell 4).trans rfl, row_cell h.row hg.1, row_cell h.row hg.2, row_free h.row _, row_free h.row _, lt_of_some h.cell, lt_of_some h3⟩
theorem ModelTo.back {S : Nat → Prop} (h : ModelTo w2 (fun b => M b ∧ b < w.heap.size) m t w') (hf : Fr S w w2) (hS : ∀ i, S i → w.heap.size ≤ i) (hm : ¬ M m) (hmw : m < w.heap.size) : ModelTo w M m t w' := by
  obtain ⟨⟨fv, nv, dv, pv, p⟩, hf2⟩ := h
  have hs := hf.size
  have hm2 : ∀ b, grown w2 (fun b => M b ∧ b < w.heap.size) b → b < w'.heap.size → grown w M b := by
    intro b hb _
    rcases hb with hb | hb
    · exact .inl hb.1
    · exact .inr (by omega)
  exact ⟨⟨fv, nv, dv, pv, p.cell, p.lim, p.hf.mono hm2, p.hn.mono hm2, p.hd.mono hm2, p.hp.mono hm2, fun e => e.elim hm (fun e => by omega)⟩, (hf.mono (fun i e => .inr (hS i e))).trans hf2 (fun i e => .inl e)⟩
theorem flip_byte' : ∀ b : UInt8, strOfNums [IntKind.u8.wrap (255 - (b.toNat : Int))] = ⟨#[255 - b]⟩ := by
  intro b
  have : ∀ k : Fin 256, strOfNums [IntKind.u8.wrap (255 - ((k.val : Nat) : Int))] = ⟨#[255 - UInt8.ofNat k.val]⟩ := of_decide_eq_true (by kernel_rfl)
  have h := this ⟨b.toNat, b.toNat_lt⟩
  simpa using h
theorem flip_byte'' (b : UInt8) : strOfNums [(255 - (b.toNat : Int)) % 256] = ⟨#[255 - b]⟩ := by
  rw [← flip_byte']
  have e : IntKind.u8.wrap (255 - (b.toNat : Int)) = (255 - (b.toNat : Int)) % 256 := by
    simp [IntKind.wrap, IntKind.bits, IntKind.signed]
  rw [e]
theorem startFile_flip' {D T : ByteArray} {du kp m : Nat} {sc sc2 : List Int} (h1 : (Pd.choice sc (D.size - du)).1 = kp) (h2 : (Pd.choice sc (D.size - du)).2 = sc2) (hk : 0 < kp) (hf : (Pd.choice sc2 1).1 = 1) (hT : D.extract 0 (du + kp) = T) (hm : T.size = m + 1) (hlt : m < T.size) :
    Pd.startFile ⟨D, du⟩ sc = (T.extract 0 m ++ strOfNums [(255 - ((T[m]'hlt).toNat : Int)) % 256], (Pd.choice sc2 1).2) := by
  subst h1 h2 hT
  unfold Pd.startFile
  dsimp only
  rw [if_pos hk, if_pos hf, flip_byte'', flipLast_eq hm hlt]
end
end Go.Proofs.Ytigcokgjikkohaa
