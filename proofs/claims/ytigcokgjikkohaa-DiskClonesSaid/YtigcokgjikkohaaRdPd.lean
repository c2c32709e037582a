/- A file that is durable to its last byte comes through a failure. -/
import Derived.Test.YtigcokgjikkohaaPdInv
import Derived.Test.YtigcokgjikkohaaLiPd
namespace Go.Proofs.Ytigcokgjikkohaa.Pd
set_option linter.unusedVariables false
set_option linter.unusedSimpArgs false

theorem choice_zero' (sc : List Int) : (choice sc 0).1 = 0 := by have := choice_le sc 0; omega
theorem startFile_full {f : PFile} (sc : List Int) (h : f.dur = f.data.size) : (startFile f sc).1 = f.data := by
  unfold startFile
  simp only [h, Nat.sub_self, choice_zero', Nat.add_zero, Nat.lt_irrefl, if_false]
  exact ByteArray.extract_zero_size
theorem fileAt_modify (fs : List PFile) (k i : Nat) (g : PFile → PFile) : fileAt (fs.modify k g) i = if k = i ∧ i < fs.length then g (fileAt fs i) else fileAt fs i := by
  unfold fileAt
  simp only [List.getD_eq_getElem?_getD, List.getElem?_modify]
  by_cases hi : i < fs.length
  · by_cases hk : k = i
    · simp [hk, hi]
    · simp [hk, hi]
  · simp [hi]
theorem fileAt_app {fs l : List PFile} {k : Nat} (h : k < fs.length) : fileAt (fs ++ l) k = fileAt fs k := by
  unfold fileAt
  rw [List.getD_eq_getElem?_getD, List.getD_eq_getElem?_getD, List.getElem?_append_left h]
theorem startLoop_full : ∀ (l : Names) (fs : List PFile) (sc : List Int) (i : Nat), (fileAt fs i).dur = (fileAt fs i).data.size → fileAt (startLoop l fs sc).1 i = fileAt fs i
  | [], _, _, _, _ => rfl
  | e :: r, fs, sc, i, h => by
    unfold startLoop
    simp only
    have h1 : fileAt (fs.modify e.2 fun _ => ⟨(startFile (fileAt fs e.2) sc).1, (startFile (fileAt fs e.2) sc).1.size⟩) i = fileAt fs i := by
      rw [fileAt_modify]
      split
      · rename_i hc
        rw [hc.1, startFile_full sc h, ← h]
      · rfl
    rw [startLoop_full r _ _ i (by rw [h1]; exact h), h1]

theorem find_ins_ne {x : ByteArray × Nat} {k : ByteArray} (h : x.1 ≠ k) : ∀ l : Names, find (ins x l) k = find l k
  | [] => by simp [ins, find, h]
  | y :: r => by
    unfold ins
    split
    · simp [find, List.find?_cons, h]
    · have ih := find_ins_ne h r
      unfold find at ih ⊢
      by_cases hy : y.1 = k
      · simp [List.find?_cons, hy]
      · simpa [List.find?_cons, hy] using ih
theorem find_del_ne {j k : ByteArray} (h : j ≠ k) : ∀ l : Names, find (del l j) k = find l k
  | [] => rfl
  | y :: r => by
    have ih := find_del_ne h r
    unfold find del at ih ⊢
    by_cases hy : y.1 = j
    · have hk : ¬ y.1 = k := fun e => h (hy.symm.trans e)
      simpa [List.filter_cons, List.find?_cons, hy, h] using ih
    · by_cases hk : y.1 = k
      · have hjk : ¬ k = j := fun e => h e.symm
        simp [List.filter_cons, List.find?_cons, hk, hjk]
      · simpa [List.filter_cons, List.find?_cons, hy, hk] using ih
theorem find_put_ne {j k : ByteArray} {i : Nat} (h : j ≠ k) (l : Names) : find (put l j i) k = find l k := by
  unfold put
  rw [find_ins_ne (x := (j, i)) h, find_del_ne h]

/-- What a start leaves of a name whose file is durable whole. -/
theorem read_start {s : PD} {nm : ByteArray} {i : Nat} (sc : List Int) (hd : s.down = true)
    (hf : find ((s.pending.take (choice sc s.pending.length).1).foldl PChange.on s.durable) nm = some i)
    (hu : (fileAt s.files i).dur = (fileAt s.files i).data.size) : (s.start sc).read nm = ((fileAt s.files i).data, 0) := by
  unfold PD.start
  rw [if_neg (by rw [hd]; decide)]
  simp only
  unfold PD.read
  simp only [Bool.false_eq_true, if_false, hf]
  rw [startLoop_full _ _ _ _ hu]

/-! ### the file that no act concerns -/
def cOff (nm : ByteArray) : PChange → Prop
  | .set n f => n ≠ nm ∧ f ≠ 0
  | .rem n => n ≠ nm
  | .ren s d f => s ≠ nm ∧ d ≠ nm ∧ f ≠ 0
/-- The file of that name is file 0 and durable whole; nobody else's name leads to it. -/
structure Keep (nm z : ByteArray) (s : PD) : Prop where
  pos : 0 < s.files.length
  file : fileAt s.files 0 = ⟨z, z.size⟩
  fn : find s.names nm = some 0
  un : ∀ k, find s.names k = some 0 → k = nm
  fd : find s.durable nm = some 0
  ud : ∀ k, find s.durable k = some 0 → k = nm
  off : ∀ c ∈ s.pending, cOff nm c

theorem find_ins_same (k : ByteArray) (i : Nat) : ∀ l : Names, find l k = none → find (ins (k, i) l) k = some i
  | [], _ => by simp [ins, find]
  | y :: r, h => by
    unfold ins
    split
    · simp [find]
    · have hy : ¬ y.1 = k := by
        intro e
        simp [find, List.find?_cons, e] at h
      have hr : find r k = none := by
        unfold find at h ⊢
        simpa [List.find?_cons, hy] using h
      have ih := find_ins_same k i r hr
      unfold find at ih ⊢
      simpa [List.find?_cons, hy] using ih
theorem find_del_same (k : ByteArray) : ∀ l : Names, find (del l k) k = none
  | [] => rfl
  | y :: r => by
    have ih := find_del_same k r
    unfold find del at ih ⊢
    by_cases hy : y.1 = k
    · simp [List.filter_cons, hy]
    · simp [List.filter_cons, List.find?_cons, hy]
theorem find_put_same (l : Names) (k : ByteArray) (i : Nat) : find (put l k i) k = some i := find_ins_same k i _ (find_del_same k l)
theorem find_put (l : Names) (j k : ByteArray) (i : Nat) : find (put l j i) k = if j = k then some i else find l k := by
  split
  · rename_i h; subst h; exact find_put_same l j i
  · rename_i h; exact find_put_ne h l
theorem find_del (l : Names) (j k : ByteArray) : find (del l j) k = if j = k then none else find l k := by
  split
  · rename_i h; subst h; exact find_del_same j l
  · rename_i h; exact find_del_ne h l

theorem on_off {nm : ByteArray} {c : PChange} {l : Names} (hc : cOff nm c) (h1 : find l nm = some 0) (h2 : ∀ k, find l k = some 0 → k = nm) :
    find (c.on l) nm = some 0 ∧ ∀ k, find (c.on l) k = some 0 → k = nm := by
  cases c with
  | set n f =>
    obtain ⟨h3, h4⟩ := hc
    refine ⟨by show find (put l n f) nm = _; rw [find_put_ne h3, h1], fun k hk => ?_⟩
    have hk : find (put l n f) k = some 0 := hk
    rw [find_put] at hk
    split at hk
    · exact absurd (Option.some.inj hk) h4
    · exact h2 k hk
  | rem n =>
    refine ⟨by show find (del l n) nm = _; rw [find_del_ne hc, h1], fun k hk => ?_⟩
    have hk : find (del l n) k = some 0 := hk
    rw [find_del] at hk
    split at hk
    · cases hk
    · exact h2 k hk
  | ren s d f =>
    obtain ⟨h3, h4, h5⟩ := hc
    refine ⟨by show find (put (del l s) d f) nm = _; rw [find_put_ne h4, find_del_ne h3, h1], fun k hk => ?_⟩
    have hk : find (put (del l s) d f) k = some 0 := hk
    rw [find_put] at hk
    split at hk
    · exact absurd (Option.some.inj hk) h5
    · rw [find_del] at hk
      split at hk
      · cases hk
      · exact h2 k hk
theorem fold_off {nm : ByteArray} : ∀ {p : List PChange} {l : Names}, (∀ c ∈ p, cOff nm c) → find l nm = some 0 → (∀ k, find l k = some 0 → k = nm) →
    find (p.foldl PChange.on l) nm = some 0 ∧ ∀ k, find (p.foldl PChange.on l) k = some 0 → k = nm
  | [], _, _, h1, h2 => ⟨h1, h2⟩
  | c :: r, l, hc, h1, h2 => by
    have := on_off (hc c List.mem_cons_self) h1 h2
    exact fold_off (p := r) (l := c.on l) (fun c hm => hc c (List.mem_cons_of_mem _ hm)) this.1 this.2

section
variable {nm z : ByteArray} {s : PD}
theorem Keep.tick (h : Keep nm z s) : Keep nm z s.tick.2 := by
  obtain ⟨t1, t2, t3, t4, t5⟩ := tick_same s
  exact ⟨by rw [t2]; exact h.pos, by rw [t2]; exact h.file, by rw [t3]; exact h.fn, by rw [t3]; exact h.un, by rw [t4]; exact h.fd, by rw [t4]; exact h.ud, by rw [t5]; exact h.off⟩
theorem Keep.apply (h : Keep nm z s) {c : PChange} (hc : cOff nm c) : Keep nm z (s.apply c) := by
  have := on_off hc h.fn h.un
  refine ⟨h.pos, h.file, this.1, this.2, h.fd, h.ud, fun c' hm => ?_⟩
  rcases List.mem_append.1 (show c' ∈ s.pending ++ [c] from hm) with h1 | h1
  · exact h.off c' h1
  · rw [List.mem_singleton.1 h1]; exact hc
theorem Keep.files (h : Keep nm z s) {fs : List PFile} (hl : 0 < fs.length) (hf : fileAt fs 0 = fileAt s.files 0) : Keep nm z { s with files := fs } :=
  ⟨hl, hf.trans h.file, h.fn, h.un, h.fd, h.ud, h.off⟩
theorem Keep.append (h : Keep nm z s) {a b : ByteArray} (ha : a ≠ nm) : Keep nm z (s.append a b).2 := by
  unfold PD.append
  split
  · exact h
  · split
    · exact h
    · obtain ⟨t1, t2, t3, t4, t5⟩ := tick_same s
      split
      · split
        · exact h
        · split
          · exact h
          · have h1 := (h.tick.apply (c := .set a s.files.length) ⟨ha, by have := h.pos; omega⟩)
            refine h1.files (by simp) ?_
            show fileAt (s.files ++ [⟨b, 0⟩]) 0 = fileAt s.tick.2.files 0
            rw [t2, fileAt_app h.pos]
      · rename_i k hk
        split
        · exact h
        · refine h.tick.files (by simp; exact h.pos) ?_
          rw [t2, fileAt_modify, if_neg]
          rintro ⟨rfl, _⟩
          exact ha (h.un _ hk)
theorem Keep.sync (h : Keep nm z s) (a : ByteArray) : Keep nm z (s.sync a).2 := by
  unfold PD.sync
  split
  · exact h
  · split
    · exact h
    · rename_i k hk
      split
      · exact h.tick
      · obtain ⟨t1, t2, t3, t4, t5⟩ := tick_same s
        refine h.tick.files (by simp; exact h.pos) ?_
        rw [t2, fileAt_modify]
        split
        · rw [h.file]
        · rfl
theorem Keep.rename (h : Keep nm z s) {a b : ByteArray} (ha : a ≠ nm) (hb : b ≠ nm) : Keep nm z (s.rename a b).2 := by
  unfold PD.rename
  split
  · exact h
  · split
    · exact h
    · rename_i k hk
      split
      · exact h
      · exact h.tick.apply ⟨ha, hb, fun e => ha (h.un _ (by rw [← e]; exact hk))⟩
theorem Keep.remove (h : Keep nm z s) {a : ByteArray} (ha : a ≠ nm) : Keep nm z (s.remove a).2 := by
  unfold PD.remove
  split
  · exact h
  · split
    · exact h
    · exact h.tick.apply ha
theorem Keep.publish (h : Keep nm z s) : Keep nm z s.publish.2 := by
  obtain ⟨t1, t2, t3, t4, t5⟩ := tick_same s
  unfold PD.publish
  split
  · exact h
  · split
    · exact h.tick
    · exact ⟨by show 0 < s.tick.2.files.length; rw [t2]; exact h.pos, by show fileAt s.tick.2.files 0 = _; rw [t2]; exact h.file, by show find s.tick.2.names _ = _; rw [t3]; exact h.fn, by show ∀ k, find s.tick.2.names k = _ → _; rw [t3]; exact h.un, h.fn, h.un, by simp⟩
theorem Keep.setLimit (h : Keep nm z s) (k : Int) : Keep nm z (s.setLimit k).2 := by
  unfold PD.setLimit
  split
  · exact h
  · exact ⟨h.pos, h.file, h.fn, h.un, h.fd, h.ud, h.off⟩
theorem Keep.crash (h : Keep nm z s) : Keep nm z s.crash := ⟨h.pos, h.file, h.fn, h.un, h.fd, h.ud, h.off⟩
theorem length_startLoop : ∀ (l : Names) (fs : List PFile) (sc : List Int), (startLoop l fs sc).1.length = fs.length
  | [], _, _ => rfl
  | e :: r, fs, sc => by
    unfold startLoop
    simp only
    rw [length_startLoop r]
    simp
theorem Keep.start (h : Keep nm z s) (sc : List Int) : Keep nm z (s.start sc) := by
  unfold PD.start
  split
  · exact h
  · have := fold_off (p := s.pending.take (choice sc s.pending.length).1) (fun c hm => h.off c (List.mem_of_mem_take hm)) h.fd h.ud
    have hu : (fileAt s.files 0).dur = (fileAt s.files 0).data.size := by rw [h.file]
    exact ⟨by simp only; rw [length_startLoop]; exact h.pos, by simp only; rw [startLoop_full _ _ _ _ hu]; exact h.file, this.1, this.2, this.1, this.2, by simp⟩
theorem Keep.read (h : Keep nm z s) (hd : s.down = false) : s.read nm = (z, 0) := by
  unfold PD.read
  simp [hd, h.fn, h.file]
end
theorem keep_new {z : ByteArray} (hz : z.size ≤ 50) : ((PD.new 1000).append ⟨#[107, 101, 112, 116]⟩ z).1 = 0 ∧ (((PD.new 1000).append ⟨#[107, 101, 112, 116]⟩ z).2.sync ⟨#[107, 101, 112, 116]⟩).1 = 0
    ∧ (((PD.new 1000).append ⟨#[107, 101, 112, 116]⟩ z).2.sync ⟨#[107, 101, 112, 116]⟩).2.publish.1 = 0 ∧ Keep ⟨#[107, 101, 112, 116]⟩ z (((PD.new 1000).append ⟨#[107, 101, 112, 116]⟩ z).2.sync ⟨#[107, 101, 112, 116]⟩).2.publish.2 := by
  have h1 : (PD.new 1000).append ⟨#[107, 101, 112, 116]⟩ z = (0, ⟨1000, [⟨z, 0⟩], [(⟨#[107, 101, 112, 116]⟩, 0)], [], [.set ⟨#[107, 101, 112, 116]⟩ 0], none, false⟩) := by
    unfold PD.append
    rw [if_neg (by decide), if_neg (by decide)]
    show (if 64 ≤ (PD.new 1000).names.length then _ else if (PD.new 1000).cap < (PD.new 1000).used + z.size then _ else _) = _
    rw [if_neg (by decide), if_neg (by show ¬ 1000 < 0 + z.size; omega)]
    rfl
  have h2 : (⟨1000, [⟨z, 0⟩], [(⟨#[107, 101, 112, 116]⟩, 0)], [], [.set ⟨#[107, 101, 112, 116]⟩ 0], none, false⟩ : PD).sync ⟨#[107, 101, 112, 116]⟩ = (0, ⟨1000, [⟨z, z.size⟩], [(⟨#[107, 101, 112, 116]⟩, 0)], [], [.set ⟨#[107, 101, 112, 116]⟩ 0], none, false⟩) := rfl
  have h3 : (⟨1000, [⟨z, z.size⟩], [(⟨#[107, 101, 112, 116]⟩, 0)], [], [.set ⟨#[107, 101, 112, 116]⟩ 0], none, false⟩ : PD).publish = (0, ⟨1000, [⟨z, z.size⟩], [(⟨#[107, 101, 112, 116]⟩, 0)], [(⟨#[107, 101, 112, 116]⟩, 0)], [], none, false⟩) := rfl
  rw [h1]; dsimp only; rw [h2]; dsimp only; rw [h3]
  have hu : ∀ k, find [((⟨#[107, 101, 112, 116]⟩ : ByteArray), 0)] k = some 0 → k = ⟨#[107, 101, 112, 116]⟩ := by
    intro k hk
    have := find_mem hk
    rw [List.mem_singleton] at this
    exact (Prod.mk.inj this).1
  exact ⟨rfl, rfl, rfl, Nat.zero_lt_one, rfl, rfl, hu, rfl, hu, by simp⟩
end Go.Proofs.Ytigcokgjikkohaa.Pd
