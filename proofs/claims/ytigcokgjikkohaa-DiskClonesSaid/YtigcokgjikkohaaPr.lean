/- A disk and its model, side by side: what an operation of the one leaves of the other. -/
import Derived.Test.YtigcokgjikkohaaAg
import Derived.Test.YtigcokgjikkohaaAc3
namespace Go.Proofs.Ytigcokgjikkohaa
open Go.RowKit Go.Maps Go.Sort
set_option linter.unusedVariables false
set_option linter.unusedSimpArgs false
/-- The disk at d in state s, the model at m in state t, on blocks of their own that are not older than block B. -/
def PairAt (B : Nat) (w : World) (d n m : Nat) (s t : Pd.PD) : Prop :=
  ∃ D M : Nat → Prop, (Pd.Inv n s ∧ ∃ F G, DiskAt w F G d s ∧ (∀ b, F b → D b) ∧ ∀ b, G b → D b) ∧ ModelAt w M m t ∧ (∀ b, D b → B ≤ b ∧ b < w.heap.size) ∧ (∀ b, M b → B ≤ b ∧ b < w.heap.size) ∧ B ≤ m ∧ m < w.heap.size ∧ (∀ b, D b → ¬ M b) ∧ ¬ D m
section
variable {w w' : World} {B d n m : Nat} {s t : Pd.PD}
theorem PairAt.disk (h : PairAt B w d n m s t) : DiskIn B w d n s :=
  let ⟨D, M, ⟨h1, F, G, h2, h3, h4⟩, _, h5, _⟩ := h
  ⟨h1, F, G, h2, fun b hb => (h5 b (h3 b hb)).1, fun b hb => (h5 b (h4 b hb)).1⟩
theorem PairAt.model (h : PairAt B w d n m s t) : ∃ M, ModelAt w M m t := let ⟨_, M, _, h, _⟩ := h; ⟨M, h⟩
theorem PairAt.kept (h : PairAt B w d n m s t) (hf : Fr (fun _ => False) w w') : PairAt B w' d n m s t :=
  let ⟨D, M, ⟨h1, F, G, h2, h3, h4⟩, k1, k2, k3, k4, k5, k6, k7⟩ := h
  ⟨D, M, ⟨h1, F, G, h2.kept hf (fun _ _ e => e) (fun _ _ e => e), h3, h4⟩, k1.kept hf (fun _ _ _ e => e) (fun e => e), fun b hb => ⟨(k2 b hb).1, Nat.lt_of_lt_of_le (k2 b hb).2 hf.size⟩, fun b hb => ⟨(k3 b hb).1, Nat.lt_of_lt_of_le (k3 b hb).2 hf.size⟩, k4, Nat.lt_of_lt_of_le k5 hf.size, k6, k7⟩
theorem PairAt.mono {n' : Nat} (h : PairAt B w d n m s t) (hn : n ≤ n') : PairAt B w d n' m s t :=
  let ⟨D, M, ⟨h1, h2⟩, k⟩ := h
  ⟨D, M, ⟨h1.mono hn, h2⟩, k⟩
end
/-- A disk and its model, their blocks told. -/
def PairOf (B : Nat) (w : World) (d n m : Nat) (s t : Pd.PD) (D M F G : Nat → Prop) : Prop :=
  (Pd.Inv n s ∧ DiskAt w F G d s ∧ (∀ b, F b → D b) ∧ ∀ b, G b → D b) ∧ ModelAt w M m t ∧ (∀ b, D b → B ≤ b ∧ b < w.heap.size) ∧ (∀ b, M b → B ≤ b ∧ b < w.heap.size) ∧ B ≤ m ∧ m < w.heap.size ∧ (∀ b, D b → ¬ M b) ∧ ¬ D m
theorem PairAt.of {B : Nat} {w : World} {d n m : Nat} {s t : Pd.PD} (h : PairAt B w d n m s t) : ∃ D M F G, PairOf B w d n m s t D M F G :=
  let ⟨D, M, ⟨h1, F, G, h2⟩, k⟩ := h; ⟨D, M, F, G, ⟨h1, h2⟩, k⟩
theorem pair_disk_to {w w' : World} {B d n n' m : Nat} {s s' t : Pd.PD} {D M F G : Nat → Prop} (h : PairOf B w d n m s t D M F G) (hi : Pd.Inv n' s') (ht : DiskTo w F G d s' w') : PairAt B w' d n' m s' t ∧ Fr (fun i => B ≤ i) w w' := by
  obtain ⟨⟨h1, h2, h3, h4⟩, k1, k2, k3, k4, k5, k6, k7⟩ := h
  obtain ⟨F', G', a1, a2, a3, a4⟩ := ht
  have hBw : B ≤ w.heap.size := Nat.le_of_lt (Nat.lt_of_le_of_lt k4 k5)
  have hn : ∀ b, F' b ∨ G' b → D b ∨ w.heap.size ≤ b := fun b hb => hb.elim (fun h => (a2 b h).imp (h3 b) id) (fun h => (a3 b h).imp (h4 b) id)
  refine ⟨⟨fun b => F' b ∨ G' b, M, ⟨hi, F', G', a1, fun b hb => .inl hb, fun b hb => .inr hb⟩, k1.kept a4 (fun b hb _ e => k6 b (h3 b e) hb) (fun e => k7 (h3 m e)), ?_, fun b hb => ⟨(k3 b hb).1, Nat.lt_of_lt_of_le (k3 b hb).2 a4.size⟩, k4, Nat.lt_of_lt_of_le k5 a4.size, ?_, ?_⟩, a4.mono fun i e => .inl (k2 i (h3 i e)).1⟩
  · intro b hb
    refine ⟨?_, hb.elim (a1.lt.1 b) (a1.lt.2 b)⟩
    rcases hn b hb with h | h
    · exact (k2 b h).1
    · omega
  · intro b hb e
    rcases hn b hb with h | h
    · exact k6 b h e
    · have := (k3 b e).2; omega
  · intro e
    rcases hn m e with h | h
    · exact k7 h
    · omega
theorem pair_model_to {w w' : World} {B d n m : Nat} {s t t' : Pd.PD} {D M F G : Nat → Prop} (h : PairOf B w d n m s t D M F G) (ht : ModelTo w M m t' w') : PairAt B w' d n m s t' ∧ Fr (fun i => B ≤ i) w w' := by
  obtain ⟨⟨h1, h2, h3, h4⟩, k1, k2, k3, k4, k5, k6, k7⟩ := h
  obtain ⟨⟨fv, nv, dv, pv, p⟩, hf⟩ := ht
  have hBw : B ≤ w.heap.size := Nat.le_of_lt (Nat.lt_of_le_of_lt k4 k5)
  have hm : ∀ b, D b → ¬ b = m := fun b hb e => k7 (e ▸ hb)
  have hg : ∀ b, grown w M b → b < w'.heap.size → (grown w M b ∧ b < w'.heap.size) := fun b hb hl => ⟨hb, hl⟩
  refine ⟨⟨D, fun b => grown w M b ∧ b < w'.heap.size, ⟨h1, F, G, h2.kept hf (fun b hb => hm b (h3 b hb)) (fun b hb => hm b (h4 b hb)), h3, h4⟩,
    ⟨fv, nv, dv, pv, p.cell, p.lim, p.hf.mono hg, p.hn.mono hg, p.hd.mono hg, p.hp.mono hg, fun e => p.hm e.1⟩,
    fun b hb => ⟨(k2 b hb).1, Nat.lt_of_lt_of_le (k2 b hb).2 hf.size⟩, fun b hb => ⟨?_, hb.2⟩, k4, Nat.lt_of_lt_of_le k5 hf.size, fun b hb e => ?_, k7⟩, hf.mono fun i e => .inl (by subst e; exact k4)⟩
  · rcases hb.1 with h | h
    · exact (k3 b h).1
    · omega
  · rcases e.1 with h | h
    · exact k6 b hb h
    · have := (k2 b hb).2; omega
def PRet (B : Nat) (w : World) (d n m : Nat) (r : Int) (s t : Pd.PD) (e : Ending) (w' : World) : Prop := e = .returned (.int .i64 r) ∧ PairAt B w' d n m s t ∧ Fr (fun i => B ≤ i) w w'
theorem pair_disk {w : World} {B d n n' m k : Nat} {s t : Pd.PD} {args : Array Value} {r : Int × Pd.PD} (h : PairAt B w d n m s t) (hi : Pd.Inv n' r.2) (hc : ∀ F G, DiskAt w F G d s → Calls Try.prog k args w (DRet w F G d r)) : Calls Try.prog k args w (PRet B w d n' m r.1 r.2 t) := by
  obtain ⟨D, M, F, G, hp⟩ := h.of
  refine (hc F G hp.1.2.1).mono ?_
  rintro e w' ⟨rfl, hto⟩
  exact ⟨rfl, pair_disk_to hp hi hto⟩
theorem pair_model {w : World} {B d n m k : Nat} {s t t' : Pd.PD} {args : Array Value} {r : Int} (h : PairAt B w d n m s t) (hc : ∀ M, ModelAt w M m t → Calls Try.prog k args w fun e w' => e = .returned (.int .i64 r) ∧ ModelTo w M m t' w') : Calls Try.prog k args w (PRet B w d n m r s t') := by
  obtain ⟨D, M, F, G, hp⟩ := h.of
  refine (hc M hp.2.1).mono ?_
  rintro e w' ⟨rfl, hto⟩
  exact ⟨rfl, pair_model_to hp hto⟩
section
variable {w w' : World} {B d n m : Nat} {s t : Pd.PD}
abbrev dPtr (d : Nat) : Value := .pointer (some ⟨d, 0, none⟩)
theorem pd_append (h : PairAt B w d n m s t) (hn : n < 1000000) (a b : ByteArray) (ha : a.size ≤ 9223372036854775807) (hb : b.size ≤ 4611686018427387904) : Calls Try.prog 13 #[.pointer (some ⟨d, 0, none⟩), .string a, .string b] w (PRet B w d (n + 1) m (s.append a b).1 (s.append a b).2 t) :=
  pair_disk h (h.disk.1.append a b) fun _ _ h1 => append_any h1 h.disk.1 hn a b ha hb
theorem pd_sync (h : PairAt B w d n m s t) (a : ByteArray) (ha : a.size ≤ 9223372036854775807) : Calls Try.prog 15 #[.pointer (some ⟨d, 0, none⟩), .string a] w (PRet B w d n m (s.sync a).1 (s.sync a).2 t) :=
  pair_disk h (h.disk.1.sync a) fun _ _ h1 => sync_any h1 a ha
theorem pd_remove (h : PairAt B w d n m s t) (hn : n < 1000000) (a : ByteArray) (ha : a.size ≤ 9223372036854775807) : Calls Try.prog 31 #[.pointer (some ⟨d, 0, none⟩), .string a] w (PRet B w d (n + 1) m (s.remove a).1 (s.remove a).2 t) :=
  pair_disk h (h.disk.1.remove a) fun _ _ h1 => remove_any' h1 h.disk.1 hn a ha
theorem pd_rename (h : PairAt B w d n m s t) (hn : n < 1000000) (a b : ByteArray) (ha : a.size ≤ 9223372036854775807) (hb : b.size ≤ 9223372036854775807) : Calls Try.prog 23 #[.pointer (some ⟨d, 0, none⟩), .string a, .string b] w (PRet B w d (n + 1) m (s.rename a b).1 (s.rename a b).2 t) :=
  pair_disk h (h.disk.1.rename a b) fun _ _ h1 => rename_any' h1 h.disk.1 hn a b ha hb
theorem pd_publish (h : PairAt B w d n m s t) : Calls Try.prog 14 #[.pointer (some ⟨d, 0, none⟩)] w (PRet B w d n m s.publish.1 s.publish.2 t) :=
  pair_disk h h.disk.1.publish fun _ _ h1 => publish_any h1
theorem pm_append (h : PairAt B w d n m s t) {k : Nat} (hi : Pd.Inv k t) (hk : k < 1000000) (hf : t.files.length ≤ 1000000) (a b : ByteArray) (ha : a.size ≤ 9223372036854775807) (hb : b.size ≤ 1000000) : Calls Try.prog 28 #[.pointer (some ⟨m, 0, none⟩), .string a, .string b] w (PRet B w d n m (t.append a b).1 s (t.append a b).2) :=
  pair_model h fun M hM => mappend_any hM hi hk hf a b ha hb
theorem pm_sync (h : PairAt B w d n m s t) {k : Nat} (hi : Pd.Inv k t) (a : ByteArray) : Calls Try.prog 30 #[.pointer (some ⟨m, 0, none⟩), .string a] w (PRet B w d n m (t.sync a).1 s (t.sync a).2) :=
  pair_model h fun M hM => msync_any hM hi a
theorem pm_remove (h : PairAt B w d n m s t) {k : Nat} (hi : Pd.Inv k t) (hk : k < 1000000) (a : ByteArray) : Calls Try.prog 32 #[.pointer (some ⟨m, 0, none⟩), .string a] w (PRet B w d n m (t.remove a).1 s (t.remove a).2) :=
  pair_model h fun M hM => mremove_any hM hi hk a
theorem pm_rename (h : PairAt B w d n m s t) {k : Nat} (hi : Pd.Inv k t) (hk : k < 1000000) (a b : ByteArray) (hb : b.size ≤ 9223372036854775807) : Calls Try.prog 29 #[.pointer (some ⟨m, 0, none⟩), .string a, .string b] w (PRet B w d n m (t.rename a b).1 s (t.rename a b).2) :=
  pair_model h fun M hM => mrename_any hM hi hk a b hb
theorem pm_publish (h : PairAt B w d n m s t) : Calls Try.prog 35 #[.pointer (some ⟨m, 0, none⟩)] w (PRet B w d n m t.publish.1 s t.publish.2) :=
  pair_model h fun M hM => mpublish_any hM
theorem pair_agrees (h : PairAt B w d n m s s) : Calls Try.prog 26 #[.pointer (some ⟨m, 0, none⟩), .pointer (some ⟨d, 0, none⟩)] w fun e w' => e = .returned (.bool true) ∧ PairAt B w' d n m s s ∧ Fr (fun i => B ≤ i) w w' := by
  obtain ⟨M, hM⟩ := h.model
  refine (agrees_any h.disk hM).mono ?_
  rintro e w' ⟨rfl, hf⟩
  exact ⟨rfl, h.kept hf, hf.mono (fun i e => e.elim)⟩
theorem pair_has (h : PairAt B w d n m s t) (k : ByteArray) : Calls Try.prog 34 #[.pointer (some ⟨m, 0, none⟩), .string k] w fun e w' => e = .returned (.bool (!t.down && (Pd.find t.names k).isSome)) ∧ w = w' := by
  obtain ⟨M, hM⟩ := h.model
  exact mhas_any hM k
theorem pair_new {cap : Nat} (h : DiskIn B w d n s) (hB : B ≤ w.heap.size) : PairAt B (w.alloc (modelObj (Pd.PD.new cap) (.slice none 0 0) (.slice none 0 0) (.slice none 0 0) (.slice none 0 0))) d n w.heap.size s (Pd.PD.new cap) := by
  have hf : Fr (fun _ => False) w (w.alloc (modelObj (Pd.PD.new cap) (.slice none 0 0) (.slice none 0 0) (.slice none 0 0) (.slice none 0 0))) := (Fr.refl _ _).alloc _
  obtain ⟨h1, F, G, h2, h3, h4⟩ := h
  have hlt := h2.lt
  refine ⟨fun b => F b ∨ G b, fun _ => False, ⟨h1, F, G, h2.kept hf (fun _ _ e => e) (fun _ _ e => e), fun b hb => .inl hb, fun b hb => .inr hb⟩,
    ⟨_, _, _, _, ⟨heap_alloc_this _ _, by show (-1 : Int) ≤ _; omega, RdIn.nil _ _ _, RdIn.nil _ _ _, RdIn.nil _ _ _, RdIn.nil _ _ _, fun e => e⟩⟩, fun b hb => ⟨hb.elim (h3 b) (h4 b), ?_⟩, fun b hb => hb.elim, hB, by simp, fun b _ e => e, ?_⟩
  · have := hb.elim (hlt.1 b) (hlt.2 b)
    simp
    omega
  · intro hb
    have := hb.elim (hlt.1 _) (hlt.2 _)
    omega
end
end Go.Proofs.Ytigcokgjikkohaa
