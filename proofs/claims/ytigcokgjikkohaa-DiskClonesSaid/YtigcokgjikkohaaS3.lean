/- The walk of Start. -/
import Derived.Test.YtigcokgjikkohaaS2
import Derived.Test.YtigcokgjikkohaaPdMore
import Derived.Deep.DeepCutAuto
import Derived.Deep.QuietTactic
import Derived.BigQuiet
namespace Go.Proofs.Ytigcokgjikkohaa
open Go.RowKit Go.Maps Go.Sort
set_option linter.unusedVariables false
set_option linter.unusedSimpArgs false
theorem script_close {w : World} {B sb : Nat} {v : Value} {sc : List Int} {x : Value} (hb : w.heap[sb]? = some (.cells #[x] 23 (0, 0))) (h : IntsAt w v sc) (hv : v.ownBlock ≠ some sb) (hB : ∀ g, v.ownBlock = some g → B ≤ g) : ScriptAt (w.setCell ⟨sb, 0, none⟩ v) B sb sc :=
  ⟨v, one_setCell hb, h.kept (setD_fr w sb 0 v) (fun g hg e => hv (by rw [hg, e])), hv, hB⟩
theorem ScriptAt.kept {w w' : World} {S : Nat → Prop} {B sb : Nat} {sc : List Int} (h : ScriptAt w B sb sc) (hf : Fr S w w') (hs : ∀ b, S b → b < B ∨ w.heap.size ≤ b) (hsb : B ≤ sb) : ScriptAt w' B sb sc :=
  let ⟨sv, h1, h2, h3, h4⟩ := h
  ⟨sv, (hf.block sb (lt_of_some h1) (fun e => by rcases hs sb e with h | h; omega; have := lt_of_some h1; omega)).trans h1, h2.kept' hf (fun g hg e hlt => by rcases hs g e with h | h; have := h4 g hg; omega; omega), h3, h4⟩
theorem ints_shape {w : World} {v : Value} {sc : List Int} (h : IntsAt w v sc) : ∃ a n c, v = .slice a n c := by
  obtain ⟨h0, ⟨_, a, c, rfl, hn⟩ | ⟨g, off, cap, cs, fz, rfl, hc, hg, hcs⟩⟩ := h
  · exact ⟨_, _, _, rfl⟩
  · exact ⟨_, _, _, rfl⟩
theorem strs_shape {w : World} {B : Nat} {v : Value} {l : List ByteArray} (h : StrsAt w B v l) : ∃ a c, v = .slice a l.length c := by
  obtain ⟨⟨_, ⟨rfl, h0⟩ | ⟨g, cap, cur, rfl, _⟩⟩, _⟩ := h
  · rw [h0]; exact ⟨_, _, rfl⟩
  · exact ⟨_, _, rfl⟩
theorem Fr.of_drewN {S : Nat → Prop} {w w' : World} {n : Nat} (h : Fr S (w.drewN n) w') : Fr S w w' := ⟨h.os, h.tape, h.output, h.size, h.block⟩
section
variable {w w' : World} {F G S : Nat → Prop} {d nb db : Nat} {pv : Value} {xs : List Value} {addr : Nat → Nat} {L : Nat → Prop} {left : Int} {s : Pd.PD} {cap : Nat} {l : Pd.Names} {fs : List Pd.PFile}

set_option maxRecDepth 100000 in
set_option maxHeartbeats 400000 in
theorem start_nil (w : World) (a : Option Addr) (n c : Nat) : Calls Try.prog 17 #[.pointer none, .slice a n c] w fun e w' => e = .returned (.tuple #[]) ∧ Fr (fun _ => False) w w' := by
  go_enter Try.func17, Try.ntmps17
  go_wp2
  refine bodyPost_ret (results_none rfl _ _ _) rfl ?_
  exact ⟨rfl, (Fr.refl _ _).alloc _⟩
set_option maxRecDepth 100000 in
set_option maxHeartbeats 400000 in
theorem start_up (h : DiskP w F G d nb db pv xs addr L left s) (hd : s.down = false) (a : Option Addr) (n c : Nat) : Calls Try.prog 17 #[.pointer (some ⟨d, 0, none⟩), .slice a n c] w fun e w' => e = .returned (.tuple #[]) ∧ Fr (fun _ => False) w w' := by
  obtain ⟨h0, h1, h2, h3, h4, h5, h6⟩ := h.c1
  have hlt := lt_of_some h.cell
  rw [hd] at h6
  clear h hd h0 h1 h2 h3 h4 h5
  go_enter Try.func17, Try.ntmps17
  go_wp2
  refine bodyPost_ret (results_none rfl _ _ _) rfl ?_
  exact ⟨rfl, (Fr.refl _ _).alloc _⟩

/-- Start, its first choice made. -/
def startWith (s : Pd.PD) (n0 : Nat) (sc : List Int) : Pd.PD :=
  { s with names := (s.pending.take n0).foldl Pd.PChange.on s.durable, durable := (s.pending.take n0).foldl Pd.PChange.on s.durable, pending := [], limit := none, down := false, files := (Pd.startLoop ((s.pending.take n0).foldl Pd.PChange.on s.durable) s.files sc).1 }
def LoopInv (w wr : World) (F G : Nat → Prop) (d nb db : Nat) (pv : Value) (xs : List Value) (addr : Nat → Nat) (L : Nat → Prop) (left : Int) (s : Pd.PD) (sb : Nat) (sc : List Int) (k : Nat) : Prop :=
  DiskP wr F G d nb db pv xs addr L left { s with durable := (s.pending.take k).foldl Pd.PChange.on s.durable } ∧ Fr F w wr ∧ ScriptAt wr w.heap.size sb sc
theorem DiskP.penCells {g len pc k : Nat} {c : Pd.PChange} (h : DiskP w F G d nb db (.slice (some ⟨g, 0, none⟩) len pc) xs addr L left s) (hk : s.pending[k]? = some c) :
    ∃ a b, w.cell? ⟨g, k * 2, none⟩ = some a ∧ w.cell? ⟨g, k * 2 + 1, none⟩ = some b ∧ chIs w G addr c a b := by
  obtain ⟨a, b, h1, h2, h3⟩ := penIs_get h.pen hk
  have hc := h.row.cells (g := g) rfl
  have ha : ∀ j, ((⟨g, 0, none⟩ : Addr).add j) = ⟨g, j, none⟩ := fun j => by unfold Addr.add; split <;> simp_all
  refine ⟨a, b, ?_, ?_, h3⟩
  · have := hc _ _ h1
    rw [ha, Nat.mul_comm] at this
    exact this
  · have := hc _ _ h2
    rw [ha, Nat.mul_comm] at this
    exact this
theorem namesAt_d {wr W : World} {sb k : Nat} {sc : List Int} (h : LoopInv w wr F G d nb db pv xs addr L left s sb sc k) (hf : Fr (fun _ => False) wr W) : namesAt W db ((s.pending.take k).foldl Pd.PChange.on s.durable).length addr ((s.pending.take k).foldl Pd.PChange.on s.durable) :=
  ownsMap_fr h.1.hd hf (fun e => e)
theorem box_ne {wr : World} {sb k x : Nat} {sc : List Int} {n : ByteArray} (hx : strBox wr x n) (h : LoopInv w wr F G d nb db pv xs addr L left s sb sc k) : x ≠ db := by
  rintro rfl
  obtain ⟨es, c, hm, _⟩ := h.1.hd
  unfold strBox at hx
  rw [hm] at hx; cases hx
/-- The loop over the names in order, on its way. -/
def Loop2 (w wr : World) (F G : Nat → Prop) (d db : Nat) (addr : Nat → Nat) (L : Nat → Prop) (left : Int) (cap : Nat) (l : Pd.Names) (v : Value) (B sb : Nat) (fs0 : List Pd.PFile) (sc0 : List Int) (k : Nat) : Prop :=
  ∃ fs sc, MidP wr F G d db addr L left cap l fs ∧ ScriptAt wr w.heap.size sb sc ∧ Fr F w wr ∧ StrsAt wr B v (l.map (·.1)) ∧ (∀ f ∈ fs, f.dur ≤ f.data.size ∧ f.data.size ≤ 16777216) ∧ sc.length ≤ 1000000000000 ∧ (Pd.startLoop (l.drop k) fs sc).1 = (Pd.startLoop l fs0 sc0).1
theorem fileAt_wf {fs : List Pd.PFile} (h : ∀ f ∈ fs, f.dur ≤ f.data.size ∧ f.data.size ≤ 16777216) (k : Nat) : (Pd.fileAt fs k).dur ≤ (Pd.fileAt fs k).data.size ∧ (Pd.fileAt fs k).data.size ≤ 16777216 := by
  unfold Pd.fileAt
  rw [List.getD_eq_getElem?_getD]
  cases hk : fs[k]? with
  | none => exact ⟨Nat.le_refl _, Nat.zero_le _⟩
  | some f => exact h f (List.mem_of_getElem? hk)
theorem strs_cell {va : Option Addr} {n vc B k : Nat} {ls : List ByteArray} (h : StrsAt w B (.slice va n vc) ls) (hk : k < ls.length) : ∃ g, va = some ⟨g, 0, none⟩ ∧ w.cell? ⟨g, k, none⟩ = some (.string ls[k]) := by
  rcases h.1.2 with ⟨_, h0⟩ | ⟨g, cap, cur, e, _, hg, hn, hm, hs, ht⟩
  · omega
  · cases e
    refine ⟨g, rfl, ?_⟩
    have h1 : (cur.toList.take (ls.length * 1))[k]? = (ls.map Value.string)[k]? := by rw [ht]
    rw [List.getElem?_take_of_lt (by omega)] at h1
    rw [cell_at hg, ← Array.getElem?_toList, h1]
    simp [hk]
theorem Loop2.start {wz w5 : World} {v : Value} {B sb : Nat} {sc : List Int} (hm : MidP wz F G d db addr L left cap l fs) (hz : Fr F w wz) (hs : ScriptAt wz w.heap.size sb sc) (hsb : w.heap.size ≤ sb) (hf : Fr (fun _ => False) wz w5) (hv : StrsAt w5 B v (l.map (·.1))) (hfs : ∀ f ∈ fs, f.dur ≤ f.data.size ∧ f.data.size ≤ 16777216) (hl : sc.length ≤ 1000000000000) :
    Loop2 w w5 F G d db addr L left cap l v B sb fs sc 0 :=
  ⟨fs, sc, hm.kept hf (fun _ _ e => e) (fun _ _ e => e), hs.kept hf (fun _ e => e.elim) hsb, hz.trans hf (fun _ e => e.elim), hv, hfs, hl, rfl⟩
theorem Loop2.close {wr w6 w' : World} {v : Value} {B sb k id du : Nat} {fs0 : List Pd.PFile} {sc0 sc sc2 : List Int} {D t : ByteArray}
    (h : MidP wr F G d db addr L left cap l fs ∧ ScriptAt wr w.heap.size sb sc ∧ Fr F w wr ∧ StrsAt wr B v (l.map (·.1)) ∧ (∀ f ∈ fs, f.dur ≤ f.data.size ∧ f.data.size ≤ 16777216) ∧ sc.length ≤ 1000000000000 ∧ L id ∧ Pd.fileAt fs id = ⟨D, du⟩ ∧
        (let x := Pd.startFile ⟨D, du⟩ sc; (Pd.startLoop (l.drop (k + 1)) (fs.modify id fun _ => ⟨x.1, x.1.size⟩) x.2).1) = (Pd.startLoop l fs0 sc0).1)
    (h6 : MidP w6 F G d db addr L left cap l fs) (hf6 : Fr (fun i => i = sb) wr w6) (hs6 : ScriptAt w6 w.heap.size sb sc2) (hx : Pd.startFile ⟨D, du⟩ sc = (t, sc2)) (hlen : sc2.length ≤ 1000000000000) (hB : ∀ b, F b → b < B) (hsb : w.heap.size ≤ sb) (hsbB : sb < B)
    (hf : Fr (fun i => i = addr id) w6 w') (hcell : w'.heap[addr id]? = some (fileObj ⟨t, t.size⟩)) (htd : t.size ≤ D.size) (hFw : ∀ b, F b → b < w.heap.size) : Loop2 w w' F G d db addr L left cap l v B sb fs0 sc0 (k + 1) := by
  obtain ⟨_, h2, h3, h4, h5, h6', h7, h8, h9⟩ := h
  have hFi := h6.Ff _ h7
  refine ⟨fs.modify id fun _ => ⟨t, t.size⟩, sc2, h6.refile h7 _ hf hcell, hs6.kept hf (fun b e => .inl (by subst e; exact hFw _ hFi)) hsb, (h3.trans hf6 (fun i e => .inr (by omega))).trans hf (fun i e => .inl (e ▸ hFi)), ⟨?_, h4.2⟩, ?_, hlen, ?_⟩
  · refine ownsRow_fr (ownsRow_fr h4.1 hf6 ?_) hf ?_
    · intro b hb e
      have := (h4.1.lt b hb).1
      omega
    · intro b hb e
      have := (h4.1.lt b hb).1
      have := hB _ hFi
      omega
  · intro f hfm
    rcases Pd.mem_modify hfm with hm | ⟨rfl, _⟩
    · exact h5 f hm
    · have := fileAt_wf h5 id
      rw [h8] at this
      exact ⟨Nat.le_refl _, Nat.le_trans htd this.2⟩
  · rw [hx] at h9
    exact h9
theorem file_set {W : World} {b : Nat} {f : Pd.PFile} (t : ByteArray) (n : Nat) {k : Int} (hk : k = n) (h : W.heap[b]? = some (fileObj f)) : ((W.setCell ⟨b, 0, none⟩ (.string t)).setCell ⟨b, 1, none⟩ (.int .i64 k)).heap[b]? = some (fileObj ⟨t, n⟩) := by
  subst hk
  rw [heap_set_same (heap_set_same h)]
  simp [fileObj]
theorem set_fr (W : World) (b : Nat) (x y : Value) : Fr (fun i => i = b) W ((W.setCell ⟨b, 0, none⟩ x).setCell ⟨b, 1, none⟩ y) :=
  ((Fr.refl (fun i => i = b) W).setCell ⟨b, 0, none⟩ _ (.inl rfl)).setCell ⟨b, 1, none⟩ _ (.inl rfl)
theorem startFile_none {D : ByteArray} {du kp : Nat} {sc sc2 : List Int} (h1 : (Pd.choice sc (D.size - du)).1 = kp) (h2 : (Pd.choice sc (D.size - du)).2 = sc2) (hk : ¬ 0 < kp) : Pd.startFile ⟨D, du⟩ sc = (D.extract 0 (du + kp), sc2) := by
  subst h1 h2
  unfold Pd.startFile
  dsimp only
  rw [if_neg hk]
theorem startFile_keep {D : ByteArray} {du kp : Nat} {sc sc2 : List Int} (h1 : (Pd.choice sc (D.size - du)).1 = kp) (h2 : (Pd.choice sc (D.size - du)).2 = sc2) (hk : 0 < kp) (hf : ¬ (Pd.choice sc2 1).1 = 1) : Pd.startFile ⟨D, du⟩ sc = (D.extract 0 (du + kp), (Pd.choice sc2 1).2) := by
  subst h1 h2
  unfold Pd.startFile
  dsimp only
  rw [if_pos hk, if_neg hf]
theorem flip_byte : ∀ b : UInt8, strOfNums [bits BinOp.xor IntKind.u8 (if IntKind.u8.signed = true then -1 else IntKind.u8.max) b.toNat] = ⟨#[255 - b]⟩ := by
  intro b
  have : ∀ k : Fin 256, strOfNums [bits BinOp.xor IntKind.u8 (if IntKind.u8.signed = true then -1 else IntKind.u8.max) ((k.val : Nat) : Int)] = ⟨#[255 - UInt8.ofNat k.val]⟩ := of_decide_eq_true (by kernel_rfl)
  have h := this ⟨b.toNat, b.toNat_lt⟩
  simpa using h
theorem last_byte {T : ByteArray} {m : Nat} (hlt : m < T.size) : T.data.toList.getD m 0 = T[m]'hlt := by
  have h : m < T.data.toList.length := by rw [Array.length_toList]; exact hlt
  rw [List.getD_eq_getElem?_getD, List.getElem?_eq_getElem h, Option.getD_some, Array.getElem_toList]
  rfl
theorem flipLast_eq {T : ByteArray} {m : Nat} (hm : T.size = m + 1) (hlt : m < T.size) : Pd.flipLast T = T.extract 0 m ++ ⟨#[255 - T[m]'hlt]⟩ := by
  unfold Pd.flipLast
  rw [hm, Nat.add_sub_cancel, last_byte hlt]
theorem startFile_flip {D T : ByteArray} {du kp m : Nat} {sc sc2 : List Int} (h1 : (Pd.choice sc (D.size - du)).1 = kp) (h2 : (Pd.choice sc (D.size - du)).2 = sc2) (hk : 0 < kp) (hf : (Pd.choice sc2 1).1 = 1) (hT : D.extract 0 (du + kp) = T) (hm : T.size = m + 1) (hlt : m < T.size) :
    Pd.startFile ⟨D, du⟩ sc = (T.extract 0 m ++ strOfNums [bits BinOp.xor IntKind.u8 (if IntKind.u8.signed = true then -1 else IntKind.u8.max) (T[m]'hlt).toNat], (Pd.choice sc2 1).2) := by
  subst h1 h2 hT
  unfold Pd.startFile
  dsimp only
  rw [if_pos hk, if_pos hf, flip_byte, flipLast_eq hm hlt]
theorem start_finish {wr w3 : World} {v : Value} {B sb k : Nat} {sc sc1 : List Int} (h : Loop2 w wr F G d db addr L left s.cap l v B sb s.files sc1 l.length) (hl : (s.pending.take k).foldl Pd.PChange.on s.durable = l) (hst : s.start sc = startWith s k sc1)
    (hf : Fr (fun _ => False) wr w3) (hm : namesAt w3 wr.heap.size l.length addr l) (hlt : wr.heap.size < w3.heap.size) : DiskTo w F G d (s.start sc) (w3.setCell ⟨d, 2, none⟩ (.map (some wr.heap.size))) := by
  obtain ⟨fs, sck, h1, h2, h3, h4, h5, h6, h7⟩ := h
  rw [List.drop_length] at h7
  have hd := h1.done hf hm (Nat.le_refl _) hlt
  have he : s.start sc = { cap := s.cap, files := fs, names := l, durable := l, pending := [], limit := none, down := false } := by
    rw [hst]
    unfold startWith
    rw [hl, ← h7]
    rfl
  rw [he]
  refine ⟨_, G, ⟨_, _, _, _, _, _, _, hd⟩, ?_, fun b hb => .inl hb, (h3.trans hf (fun i e => e.elim)).setCell ⟨d, 2, none⟩ _ (.inl h1.Fd)⟩
  rintro b (hb | rfl)
  · exact .inl hb
  · exact .inr h3.size
theorem Loop2.round {wr : World} {va : Option Addr} {vc B sb k : Nat} {fs0 : List Pd.PFile} {sc0 : List Int} (h : Loop2 w wr F G d db addr L left cap l (.slice va l.length vc) B sb fs0 sc0 k) (hk : k < l.length) (hsz : ∀ e ∈ l, e.1.size ≤ 40) :
    ∃ nm id g2 D du fs sc, va = some ⟨g2, 0, none⟩ ∧ wr.cell? ⟨d, 1, none⟩ = some (.map (some db)) ∧ wr.cell? ⟨g2, k, none⟩ = some (.string nm) ∧
      (Instr.lookup 69 (.map (some db)) (.string nm) false).run Try.prog wr = .ok (.pointer (some ⟨addr id, 0, none⟩)) wr ∧ wr.cell? ⟨addr id, 0, none⟩ = some (.string D) ∧ wr.cell? ⟨addr id, 1, none⟩ = some (.int .i64 (du : Nat)) ∧
      wr.frozen? ⟨addr id, 0, none⟩ = false ∧ wr.frozen? ⟨addr id, 1, none⟩ = false ∧ du ≤ D.size ∧ D.size ≤ 16777216 ∧
      (MidP wr F G d db addr L left cap l fs ∧ ScriptAt wr w.heap.size sb sc ∧ Fr F w wr ∧ StrsAt wr B (.slice va l.length vc) (l.map (·.1)) ∧ (∀ f ∈ fs, f.dur ≤ f.data.size ∧ f.data.size ≤ 16777216) ∧ sc.length ≤ 1000000000000 ∧ L id ∧ Pd.fileAt fs id = ⟨D, du⟩ ∧
        (let x := Pd.startFile ⟨D, du⟩ sc; (Pd.startLoop (l.drop (k + 1)) (fs.modify id fun _ => ⟨x.1, x.1.size⟩) x.2).1) = (Pd.startLoop l fs0 sc0).1) := by
  obtain ⟨fs, sc, h1, h2, h3, h4, h5, h6, h7⟩ := h
  have hL := h1.Ll _ (List.getElem_mem hk)
  obtain ⟨c0, c1, c2, c3⟩ := h1.fileCells hL
  have hok := fileAt_wf h5 l[k].2
  have hlk := look_names1 h1.hn (k := l[k].1) (by have := hsz _ (List.getElem_mem hk); omega)
  rw [find_of_mem (names_nodup h1.hn) (List.getElem_mem hk)] at hlk
  obtain ⟨g2, rfl, hcell⟩ := strs_cell h4 (k := k) (by rw [List.length_map]; exact hk)
  refine ⟨l[k].1, l[k].2, g2, (Pd.fileAt fs l[k].2).data, (Pd.fileAt fs l[k].2).dur, fs, sc, rfl, ?_, ?_, ?_, c0, c1, c2, c3, hok.1, hok.2, h1, h2, h3, h4, h5, h6, hL, rfl, ?_⟩
  · rw [cell_at h1.cell]; rfl
  · rw [hcell]; simp
  · exact hlk
  · rw [← h7, List.drop_eq_getElem_cons hk]; rfl
theorem loop_step {wr W w2 : World} {sb k : Nat} {sc : List Int} {c : Pd.PChange} (h : LoopInv w wr F G d nb db pv xs addr L left s sb sc k) (hW : Fr (fun _ => False) wr W) (hc : s.pending[k]? = some c)
    (hm : namesAt w2 db (c.on ((s.pending.take k).foldl Pd.PChange.on s.durable)).length addr (c.on ((s.pending.take k).foldl Pd.PChange.on s.durable))) (hf : Fr (fun i => i = db) W w2) (hL : ∀ e ∈ c.on ((s.pending.take k).foldl Pd.PChange.on s.durable), L e.2) (hsb : w.heap.size ≤ sb) (hdb : db < w.heap.size) :
    LoopInv w w2 F G d nb db pv xs addr L left s sb sc (k + 1) := by
  obtain ⟨h1, h2, h3⟩ := h
  have hfa : Fr (fun i => i = db) wr w2 := (hW.mono (fun _ e => e.elim)).trans hf (fun _ e => .inl e)
  refine ⟨?_, h2.trans hfa (fun i e => .inl (e ▸ h1.Fb)), h3.kept hfa (fun b hb => .inl (by omega)) hsb⟩
  have := h1.durables hm hfa hL
  rw [Pd.foldl_take_succ hc]
  exact this
end
end Go.Proofs.Ytigcokgjikkohaa
