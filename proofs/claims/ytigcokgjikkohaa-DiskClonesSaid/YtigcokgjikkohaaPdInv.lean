/- What holds of every state that a disk comes to. -/
import Derived.Test.YtigcokgjikkohaaPd
namespace Go.Proofs.Ytigcokgjikkohaa.Pd

def okOn (l : Names) : PChange → Prop
  | .set n _ => isName n = true
  | .rem n => isName n = true
  | .ren s t f => isName s = true ∧ isName t = true ∧ find l s = some f
/-- The changes p lead from l to l', each of them possible. -/
def Rep : Names → List PChange → Names → Prop
  | l, [], l' => l.length ≤ 64 ∧ l = l'
  | l, c :: r, l' => l.length ≤ 64 ∧ okOn l c ∧ Rep (c.on l) r l'

structure Inv (n : Nat) (s : PD) : Prop where
  cap : s.cap ≤ 16777216
  fs : ∀ f ∈ s.files, f.dur ≤ f.data.size ∧ f.data.size ≤ 16777216
  nm : ∀ e ∈ s.names, isName e.1 = true ∧ e.2 < s.files.length
  nd : ∀ e ∈ s.durable, isName e.1 = true ∧ e.2 < s.files.length
  ps : ∀ m f, PChange.set m f ∈ s.pending → f < s.files.length
  pen : s.pending.length ≤ n
  rep : Rep s.durable s.pending s.names

theorem isName_size {s : ByteArray} (h : isName s = true) : 0 < s.size ∧ s.size ≤ 40 := by
  unfold isName at h
  simp only [Bool.and_eq_true, decide_eq_true_eq] at h
  exact ⟨h.1.2, h.2⟩
theorem length_ins (x : ByteArray × Nat) (l : Names) : (ins x l).length = l.length + 1 := by
  induction l with
  | nil => rfl
  | cons y r ih => unfold ins; split <;> simp [ih]
theorem mem_ins {x e : ByteArray × Nat} {l : Names} : e ∈ ins x l ↔ e = x ∨ e ∈ l := by
  induction l with
  | nil => simp [ins]
  | cons y r ih =>
    unfold ins
    split
    · simp
    · simp only [List.mem_cons, ih]
      constructor
      · rintro (h | h | h)
        · exact .inr (.inl h)
        · exact .inl h
        · exact .inr (.inr h)
      · rintro (h | h | h)
        · exact .inr (.inl h)
        · exact .inl h
        · exact .inr (.inr h)
theorem length_del (l : Names) (k : ByteArray) : (del l k).length ≤ l.length := List.length_filter_le _ _
theorem length_put (l : Names) (k : ByteArray) (i : Nat) : (put l k i).length ≤ l.length + 1 := by
  unfold put; rw [length_ins]; have := length_del l k; omega
theorem mem_del {e : ByteArray × Nat} {l : Names} {k : ByteArray} (h : e ∈ del l k) : e ∈ l := (List.mem_filter.1 h).1
theorem mem_put {e : ByteArray × Nat} {l : Names} {k : ByteArray} {i : Nat} (h : e ∈ put l k i) : e = (k, i) ∨ e ∈ l := (mem_ins.1 h).imp id mem_del
theorem find_mem {l : Names} {k : ByteArray} {i : Nat} (h : find l k = some i) : (k, i) ∈ l := by
  unfold find at h
  rw [Option.map_eq_some_iff] at h
  obtain ⟨e, he, rfl⟩ := h
  have h1 := List.mem_of_find?_eq_some he
  have h2 : e.1 = k := by simpa using List.find?_some he
  rw [← h2]; exact h1
theorem length_del_found {l : Names} {k : ByteArray} {i : Nat} (h : find l k = some i) : (del l k).length + 1 ≤ l.length := by
  have hm := find_mem h
  unfold del
  induction l with
  | nil => cases hm
  | cons e r ih =>
    simp only [List.filter_cons]
    by_cases he : e.1 = k
    · simp [he]; exact List.length_filter_le _ _
    · simp only [he, decide_false, Bool.not_false, if_true, List.length_cons]
      have hm' : (k, i) ∈ r := by
        rcases List.mem_cons.1 hm with h1 | h1
        · exact absurd (by rw [← h1]) he
        · exact h1
      have hf : find r k = some i := by
        unfold find at h ⊢
        simpa [List.find?_cons, he] using h
      have := ih hf hm'
      omega

theorem Rep.len {l l' : Names} : ∀ {p : List PChange}, Rep l p l' → l.length ≤ 64
  | [], h => h.1
  | _ :: _, h => h.1
theorem Rep.len' : ∀ {p : List PChange} {l l' : Names}, Rep l p l' → l'.length ≤ 64
  | [], _, _, h => h.2 ▸ h.1
  | _ :: _, _, _, h => Rep.len' h.2.2
theorem Rep.snoc {c : PChange} : ∀ {p : List PChange} {l l' : Names}, Rep l p l' → okOn l' c → (c.on l').length ≤ 64 → Rep l (p ++ [c]) (c.on l')
  | [], l, l', h, hc, hl => by obtain ⟨h1, rfl⟩ := h; exact ⟨h1, hc, hl, rfl⟩
  | _ :: _, _, _, h, hc, hl => ⟨h.1, h.2.1, Rep.snoc h.2.2 hc hl⟩
theorem Rep.prefix : ∀ {p : List PChange} {l l' : Names} (k : Nat), Rep l p l' → Rep l (p.take k) ((p.take k).foldl PChange.on l)
  | [], _, _, k, h => by simp only [List.take_nil]; exact ⟨h.1, rfl⟩
  | c :: r, _, _, 0, h => ⟨h.1, rfl⟩
  | c :: r, _, _, k + 1, h => ⟨h.1, h.2.1, Rep.prefix k h.2.2⟩

theorem on_all {l : Names} {c : PChange} {N : Nat} (hl : ∀ e ∈ l, isName e.1 = true ∧ e.2 < N) (hc : okOn l c) (hs : ∀ m f, c = .set m f → f < N) : ∀ e ∈ c.on l, isName e.1 = true ∧ e.2 < N := by
  cases c with
  | set m f =>
    intro e he
    rcases mem_put he with rfl | h
    · exact ⟨hc, hs m f rfl⟩
    · exact hl e h
  | rem m => intro e he; exact hl e (mem_del he)
  | ren s t f =>
    intro e he
    rcases mem_put he with rfl | h
    · exact ⟨hc.2.1, (hl _ (find_mem hc.2.2)).2⟩
    · exact hl e (mem_del h)
theorem Rep.names {N : Nat} : ∀ {p : List PChange} {l l' : Names}, Rep l p l' → (∀ e ∈ l, isName e.1 = true ∧ e.2 < N) → (∀ m f, PChange.set m f ∈ p → f < N) → ∀ e ∈ l', isName e.1 = true ∧ e.2 < N
  | [], _, _, h, hl, _ => h.2 ▸ hl
  | c :: r, _, _, h, hl, hs => Rep.names h.2.2 (on_all hl h.2.1 (fun m f e => hs m f (by rw [e]; exact List.mem_cons_self))) (fun m f hm => hs m f (List.mem_cons_of_mem _ hm))

theorem Inv.new {cap : Nat} (h : cap ≤ 16777216) : Inv 0 (PD.new cap) :=
  ⟨h, by simp [PD.new], by simp [PD.new], by simp [PD.new], by simp [PD.new], by simp [PD.new], by simp [PD.new, Rep]⟩
theorem Inv.mono {n m : Nat} {s : PD} (h : Inv n s) (hm : n ≤ m) : Inv m s := { h with pen := Nat.le_trans h.pen hm }
theorem fileAt_ok {n : Nat} {s : PD} (h : Inv n s) (k : Nat) : (fileAt s.files k).dur ≤ (fileAt s.files k).data.size ∧ (fileAt s.files k).data.size ≤ 16777216 := by
  unfold fileAt
  by_cases hk : k < s.files.length
  · have e : s.files.getD k ⟨ByteArray.empty, 0⟩ = s.files[k] := by simp [List.getD, hk]
    rw [e]; exact h.fs _ (List.getElem_mem hk)
  · have e : s.files.getD k ⟨ByteArray.empty, 0⟩ = ⟨ByteArray.empty, 0⟩ := by simp [List.getD, hk]
    rw [e]; simp
theorem usedBy_le {fs : List PFile} (hf : ∀ k, (fileAt fs k).data.size ≤ 16777216) (l : Names) : usedBy fs l ≤ l.length * 16777216 := by
  unfold usedBy
  induction l with
  | nil => simp
  | cons e r ih => simp only [List.map_cons, List.sum_cons, List.length_cons]; have := hf e.2; omega
theorem Inv.used_le {n : Nat} {s : PD} (h : Inv n s) : s.used ≤ 1073741824 := by
  have h1 := usedBy_le (fun k => (fileAt_ok h k).2) s.names
  have h2 := h.rep.len'
  unfold PD.used; omega
theorem used_ge {fs : List PFile} {l : Names} {k : ByteArray} {i : Nat} (h : find l k = some i) : (fileAt fs i).data.size ≤ usedBy fs l := by
  have hm := find_mem h
  unfold usedBy
  induction l with
  | nil => cases hm
  | cons e r ih =>
    simp only [List.map_cons, List.sum_cons]
    rcases List.mem_cons.1 hm with rfl | h1
    · exact Nat.le_add_right _ _
    · by_cases he : e.1 = k
      · have : e.2 = i := by simpa [find, List.find?_cons, he] using h
        rw [this]; omega
      · have := ih (by simpa [find, List.find?_cons, he] using h) h1
        omega

theorem tick_same (s : PD) : s.tick.2.cap = s.cap ∧ s.tick.2.files = s.files ∧ s.tick.2.names = s.names ∧ s.tick.2.durable = s.durable ∧ s.tick.2.pending = s.pending := by
  unfold PD.tick
  split <;> exact ⟨rfl, rfl, rfl, rfl, rfl⟩
theorem Inv.tick {n : Nat} {s : PD} (h : Inv n s) : Inv n s.tick.2 := by
  obtain ⟨h1, h2, h3, h4, h5⟩ := tick_same s
  exact ⟨by rw [h1]; exact h.cap, by rw [h2]; exact h.fs, by rw [h3, h2]; exact h.nm, by rw [h4, h2]; exact h.nd, by rw [h5, h2]; exact h.ps, by rw [h5]; exact h.pen, by rw [h3, h4, h5]; exact h.rep⟩
theorem Inv.apply {n : Nat} {s : PD} (h : Inv n s) {c : PChange} (hc : okOn s.names c) (hl : (c.on s.names).length ≤ 64) (hs : ∀ m f, c = .set m f → f < s.files.length) : Inv (n + 1) (s.apply c) :=
  { cap := h.cap
    fs := h.fs
    nm := on_all h.nm hc hs
    nd := h.nd
    ps := by
      intro m f hm
      rcases List.mem_append.1 (show PChange.set m f ∈ s.pending ++ [c] from hm) with h1 | h1
      · exact h.ps m f h1
      · exact hs m f (List.mem_singleton.1 h1).symm
    pen := by have := h.pen; simp [PD.apply]; omega
    rep := h.rep.snoc hc hl }
theorem Inv.files {n : Nat} {s : PD} (h : Inv n s) {fs : List PFile} (hf : ∀ f ∈ fs, f.dur ≤ f.data.size ∧ f.data.size ≤ 16777216) (hl : s.files.length ≤ fs.length) : Inv n { s with files := fs } :=
  { h with fs := hf, nm := fun e he => ⟨(h.nm e he).1, Nat.lt_of_lt_of_le (h.nm e he).2 hl⟩, nd := fun e he => ⟨(h.nd e he).1, Nat.lt_of_lt_of_le (h.nd e he).2 hl⟩, ps := fun m f hm => Nat.lt_of_lt_of_le (h.ps m f hm) hl }
theorem mem_modify {fs : List PFile} {k : Nat} {g : PFile → PFile} {f : PFile} (h : f ∈ fs.modify k g) : f ∈ fs ∨ (f = g (fileAt fs k) ∧ k < fs.length) := by
  obtain ⟨i, hi, rfl⟩ := List.mem_iff_getElem.1 h
  rw [List.getElem_modify]
  have hi' : i < fs.length := by simpa using hi
  split
  · rename_i e
    subst e
    exact .inr ⟨by simp [fileAt, List.getD, hi'], hi'⟩
  · exact .inl (List.getElem_mem hi')

theorem Inv.append {n : Nat} {s : PD} (h : Inv n s) (name data : ByteArray) : Inv (n + 1) (s.append name data).2 := by
  have hm := h.mono (Nat.le_succ n)
  unfold PD.append
  split
  · exact hm
  · split
    · exact hm
    · rename_i hnm
      have hnm : isName name = true := by simpa using hnm
      split
      · rename_i hf
        split
        · exact hm
        · rename_i hlen
          split
          · exact hm
          · rename_i hcap
            obtain ⟨t1, t2, t3, t4, t5⟩ := tick_same s
            have hcp := h.cap
            have h1 : Inv n { s.tick.2 with files := s.files ++ [⟨data, 0⟩] } := by
              refine h.tick.files ?_ (by rw [t2]; simp)
              intro f hm
              rcases List.mem_append.1 hm with hm | hm
              · exact h.fs f hm
              · rw [List.mem_singleton.1 hm]; exact ⟨Nat.zero_le _, by show data.size ≤ _; omega⟩
            have h2 := h1.apply (c := .set name s.files.length) hnm (by
              show (put s.tick.2.names name _).length ≤ 64
              rw [t3]
              have := length_put s.names name s.files.length
              omega) (by rintro m f ⟨⟩; simp)
            exact h2
      · rename_i k hf
        split
        · exact hm
        · rename_i hcap
          obtain ⟨t1, t2, t3, t4, t5⟩ := tick_same s
          have hcp := h.cap
          have := h.tick.files (fs := s.files.modify k fun f => { f with data := f.data ++ data }) ?_ (by rw [t2]; simp)
          · exact this.mono (Nat.le_succ n)
          · intro f hm
            rcases mem_modify hm with hm | ⟨rfl, hk⟩
            · exact h.fs f hm
            · have h1 := used_ge (fs := s.files) hf
              have h2 := (fileAt_ok h k).1
              have h3 : s.used + data.size ≤ s.cap := by omega
              unfold PD.used at h3
              simp only [ByteArray.size_append]
              omega
theorem Inv.sync {n : Nat} {s : PD} (h : Inv n s) (name : ByteArray) : Inv n (s.sync name).2 := by
  unfold PD.sync
  split
  · exact h
  · split
    · exact h
    · rename_i k hf
      split
      · exact h.tick
      · obtain ⟨t1, t2, t3, t4, t5⟩ := tick_same s
        refine h.tick.files ?_ (by rw [t2]; simp)
        intro f hm
        rcases mem_modify hm with hm | ⟨rfl, hk⟩
        · exact h.fs f hm
        · exact ⟨Nat.le_refl _, (fileAt_ok h k).2⟩
theorem Inv.rename {n : Nat} {s : PD} (h : Inv n s) (src dst : ByteArray) : Inv (n + 1) (s.rename src dst).2 := by
  have hm := h.mono (Nat.le_succ n)
  obtain ⟨t1, t2, t3, t4, t5⟩ := tick_same s
  unfold PD.rename
  split
  · exact hm
  · split
    · exact hm
    · rename_i k hf
      split
      · exact hm
      · rename_i hd
        refine h.tick.apply ⟨(h.nm _ (find_mem hf)).1, by simpa using hd, by rw [t3]; exact hf⟩ ?_ (by rintro m f ⟨⟩)
        rw [t3]
        show (put (del s.names src) dst k).length ≤ 64
        have h1 := length_put (del s.names src) dst k
        have h2 := length_del_found hf
        have h3 := h.rep.len'
        omega
theorem Inv.remove {n : Nat} {s : PD} (h : Inv n s) (name : ByteArray) : Inv (n + 1) (s.remove name).2 := by
  have hm := h.mono (Nat.le_succ n)
  obtain ⟨t1, t2, t3, t4, t5⟩ := tick_same s
  unfold PD.remove
  split
  · exact hm
  · split
    · exact hm
    · rename_i k hf
      refine h.tick.apply (h.nm _ (find_mem hf)).1 ?_ (by rintro m f ⟨⟩)
      rw [t3]
      show (del s.names name).length ≤ 64
      have h1 := length_del s.names name
      have h3 := h.rep.len'
      omega
theorem Inv.publish {n : Nat} {s : PD} (h : Inv n s) : Inv n s.publish.2 := by
  obtain ⟨t1, t2, t3, t4, t5⟩ := tick_same s
  unfold PD.publish
  split
  · exact h
  · split
    · exact h.tick
    · have ht := h.tick
      exact { cap := ht.cap, fs := ht.fs, nm := ht.nm, nd := by rw [← t3]; exact ht.nm, ps := by simp, pen := by simp, rep := ⟨by have := h.rep.len'; exact this, t3.symm⟩ }
theorem Inv.setLimit {n : Nat} {s : PD} (h : Inv n s) (k : Int) : Inv n (s.setLimit k).2 := by
  unfold PD.setLimit
  split
  · exact h
  · exact ⟨h.cap, h.fs, h.nm, h.nd, h.ps, h.pen, h.rep⟩
theorem Inv.crash {n : Nat} {s : PD} (h : Inv n s) : Inv n s.crash := ⟨h.cap, h.fs, h.nm, h.nd, h.ps, h.pen, h.rep⟩

theorem size_flipLast {t : ByteArray} (h : 0 < t.size) : (flipLast t).size = t.size := by
  unfold flipLast
  rw [ByteArray.size_append, ByteArray.size_extract]
  have : (⟨#[255 - t.data.toList.getD (t.size - 1) 0]⟩ : ByteArray).size = 1 := rfl
  omega
theorem choice_le (sc : List Int) (m : Nat) : (choice sc m).1 ≤ m := by
  unfold choice
  split
  · exact Nat.zero_le _
  · split
    · exact Nat.zero_le _
    · have := Nat.mod_lt (by assumption : Int).toNat (show 0 < m + 1 by omega); omega
theorem startFile_size (f : PFile) (sc : List Int) (h : f.dur ≤ f.data.size) : f.dur ≤ (startFile f sc).1.size ∧ (startFile f sc).1.size ≤ f.data.size := by
  have hc := choice_le sc (f.data.size - f.dur)
  have ht : (f.data.extract 0 (f.dur + (choice sc (f.data.size - f.dur)).1)).size = f.dur + (choice sc (f.data.size - f.dur)).1 := by
    rw [ByteArray.size_extract]; omega
  unfold startFile
  simp only
  split
  · rename_i h0
    dsimp only
    split
    · rw [size_flipLast (by rw [ht]; omega), ht]; omega
    · rw [ht]; omega
  · dsimp only; rw [ht]; omega
theorem startLoop_ok : ∀ (l : Names) (fs : List PFile) (sc : List Int), (∀ f ∈ fs, f.dur ≤ f.data.size ∧ f.data.size ≤ 16777216) →
    (startLoop l fs sc).1.length = fs.length ∧ ∀ f ∈ (startLoop l fs sc).1, f.dur ≤ f.data.size ∧ f.data.size ≤ 16777216
  | [], fs, sc, h => ⟨rfl, h⟩
  | e :: r, fs, sc, h => by
    have h' : ∀ f ∈ fs.modify e.2 (fun _ => (⟨(startFile (fileAt fs e.2) sc).1, (startFile (fileAt fs e.2) sc).1.size⟩ : PFile)), f.dur ≤ f.data.size ∧ f.data.size ≤ 16777216 := by
      intro f hm
      rcases mem_modify hm with hm | ⟨rfl, hk⟩
      · exact h f hm
      · have hm2 : fileAt fs e.2 ∈ fs := by
          have : fileAt fs e.2 = fs[e.2] := by simp [fileAt, List.getD, hk]
          rw [this]; exact List.getElem_mem hk
        have h1 := h _ hm2
        have h2 := startFile_size (fileAt fs e.2) sc h1.1
        exact ⟨Nat.le_refl _, by show (startFile (fileAt fs e.2) sc).1.size ≤ _; omega⟩
    have := startLoop_ok r _ (startFile (fileAt fs e.2) sc).2 h'
    refine ⟨?_, this.2⟩
    have h1 := this.1
    simp only [List.length_modify] at h1
    exact h1
theorem Inv.start {n : Nat} {s : PD} (h : Inv n s) (sc : List Int) : Inv n (s.start sc) := by
  unfold PD.start
  split
  · exact h
  · obtain ⟨h1, h2⟩ := startLoop_ok ((s.pending.take (choice sc s.pending.length).1).foldl PChange.on s.durable) s.files (choice sc s.pending.length).2 h.fs
    have hr := h.rep.prefix (choice sc s.pending.length).1
    have hn := hr.names h.nd (fun m f hm => h.ps m f (List.mem_of_mem_take hm))
    exact { cap := h.cap, fs := h2, nm := by rw [h1]; exact hn, nd := by rw [h1]; exact hn, ps := by simp, pen := by simp, rep := ⟨hr.len', rfl⟩ }
end Go.Proofs.Ytigcokgjikkohaa.Pd
