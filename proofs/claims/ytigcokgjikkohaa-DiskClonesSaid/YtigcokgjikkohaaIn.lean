/- The disk's methods, over a disk whose blocks are all new: what the laws walk with. -/
import Derived.Test.YtigcokgjikkohaaS5
namespace Go.Proofs.Ytigcokgjikkohaa
open Go.RowKit Go.Maps Go.Sort
set_option linter.unusedVariables false
set_option linter.unusedSimpArgs false

/-- A disk in state s, made since the heap had B blocks; n: how many changes it has seen at most. -/
def DiskIn (B : Nat) (w : World) (d n : Nat) (s : Pd.PD) : Prop := Pd.Inv n s ∧ ∃ F G, DiskAt w F G d s ∧ (∀ b, F b → B ≤ b) ∧ ∀ b, G b → B ≤ b
/-- What a call leaves of it. -/
def InTo (B : Nat) (w : World) (d n : Nat) (s : Pd.PD) (w' : World) : Prop := DiskIn B w' d n s ∧ Fr (fun i => B ≤ i) w w'
def IRet (B : Nat) (w : World) (d n : Nat) (r : Int × Pd.PD) (e : Ending) (w' : World) : Prop := e = .returned (.int .i64 r.1) ∧ InTo B w d n r.2 w'

section
variable {w w' : World} {B d n m : Nat} {s s' : Pd.PD}
theorem DiskAt.d_lt {F G : Nat → Prop} (h : DiskAt w F G d s) : d < w.heap.size ∧ F d :=
  let ⟨_, _, _, _, _, _, _, p⟩ := h; ⟨lt_of_some p.cell, p.Fd⟩
theorem DiskIn.B_le (h : DiskIn B w d n s) : B ≤ w.heap.size :=
  let ⟨_, F, G, h1, h2, _⟩ := h; Nat.le_of_lt (Nat.lt_of_le_of_lt (h2 d h1.d_lt.2) h1.d_lt.1)
theorem DiskIn.kept (h : DiskIn B w d n s) (hf : Fr (fun _ => False) w w') : DiskIn B w' d n s :=
  let ⟨h0, F, G, h1, h2, h3⟩ := h; ⟨h0, F, G, h1.kept hf (fun _ _ e => e) (fun _ _ e => e), h2, h3⟩
theorem DiskIn.below {S : Nat → Prop} (h : DiskIn B w d n s) (hf : Fr S w w') (hs : ∀ b, S b → b < B) : DiskIn B w' d n s :=
  let ⟨h0, F, G, h1, h2, h3⟩ := h; ⟨h0, F, G, h1.kept hf (fun b hb e => by have := hs b e; have := h2 b hb; omega) (fun b hb e => by have := hs b e; have := h3 b hb; omega), h2, h3⟩
theorem DiskIn.step (h : DiskIn B w d n s) (hi : Pd.Inv m s') (ht : ∀ F G, DiskAt w F G d s → DiskTo w F G d s' w') : InTo B w d m s' w' := by
  have hB := h.B_le
  obtain ⟨h0, F, G, h1, h2, h3⟩ := h
  obtain ⟨F', G', k1, k2, k3, k4⟩ := ht F G h1
  exact ⟨⟨hi, F', G', k1, fun b hb => (k2 b hb).elim (h2 b) (Nat.le_trans hB), fun b hb => (k3 b hb).elim (h3 b) (Nat.le_trans hB)⟩, k4.mono fun i e => .inl (h2 i e)⟩
end
theorem wp_in {w w' : World} {B d n m k : Nat} {s : Pd.PD} {args : Array Value} {R : Ending → World → Prop} (h : DiskIn B w d n s) (hc : ∀ F G, DiskAt w F G d s → Calls Try.prog k args w R) : Calls Try.prog k args w R :=
  let ⟨_, F, G, h1, _, _⟩ := h; hc F G h1
theorem calls_in {w : World} {B d n m k : Nat} {s : Pd.PD} {args : Array Value} {r : Int × Pd.PD} (h : DiskIn B w d n s) (hi : Pd.Inv m r.2) (hc : ∀ F G, DiskAt w F G d s → Calls Try.prog k args w (DRet w F G d r)) : Calls Try.prog k args w (IRet B w d m r) := by
  have hB := h.B_le
  obtain ⟨h0, F, G, h1, h2, h3⟩ := h
  refine (hc F G h1).mono ?_
  rintro e w' ⟨rfl, F', G', k1, k2, k3, k4⟩
  exact ⟨rfl, ⟨hi, F', G', k1, fun b hb => (k2 b hb).elim (h2 b) (Nat.le_trans hB), fun b hb => (k3 b hb).elim (h3 b) (Nat.le_trans hB)⟩, k4.mono fun i e => .inl (h2 i e)⟩
theorem calls_in0 {w : World} {B d n m k : Nat} {s s' : Pd.PD} {args : Array Value} (h : DiskIn B w d n s) (hi : Pd.Inv m s') (hc : ∀ F G, DiskAt w F G d s → Calls Try.prog k args w fun e w' => e = .returned (.tuple #[]) ∧ DiskTo w F G d s' w') : Calls Try.prog k args w fun e w' => e = .returned (.tuple #[]) ∧ InTo B w d m s' w' := by
  have hB := h.B_le
  obtain ⟨h0, F, G, h1, h2, h3⟩ := h
  refine (hc F G h1).mono ?_
  rintro e w' ⟨rfl, F', G', k1, k2, k3, k4⟩
  exact ⟨rfl, ⟨hi, F', G', k1, fun b hb => (k2 b hb).elim (h2 b) (Nat.le_trans hB), fun b hb => (k3 b hb).elim (h3 b) (Nat.le_trans hB)⟩, k4.mono fun i e => .inl (h2 i e)⟩
section
variable {w w' : World} {B d n m : Nat} {s s' : Pd.PD}
theorem append_in (h : DiskIn B w d n s) (hn : n < 1000000) (a b : ByteArray) (ha : a.size ≤ 9223372036854775807) (hb : b.size ≤ 4611686018427387904) :
    Calls Try.prog 13 #[.pointer (some ⟨d, 0, none⟩), .string a, .string b] w (IRet B w d (n + 1) (s.append a b)) :=
  calls_in h (h.1.append a b) fun _ _ h1 => append_any h1 h.1 hn a b ha hb
theorem sync_in (h : DiskIn B w d n s) (a : ByteArray) (ha : a.size ≤ 9223372036854775807) : Calls Try.prog 15 #[.pointer (some ⟨d, 0, none⟩), .string a] w (IRet B w d n (s.sync a)) :=
  calls_in h (h.1.sync a) fun _ _ h1 => sync_any h1 a ha
theorem remove_in (h : DiskIn B w d n s) (hn : n < 1000000) (a : ByteArray) (ha : a.size ≤ 9223372036854775807) : Calls Try.prog 31 #[.pointer (some ⟨d, 0, none⟩), .string a] w (IRet B w d (n + 1) (s.remove a)) :=
  calls_in h (h.1.remove a) fun _ _ h1 => remove_any' h1 h.1 hn a ha
theorem rename_in (h : DiskIn B w d n s) (hn : n < 1000000) (a b : ByteArray) (ha : a.size ≤ 9223372036854775807) (hb : b.size ≤ 9223372036854775807) :
    Calls Try.prog 23 #[.pointer (some ⟨d, 0, none⟩), .string a, .string b] w (IRet B w d (n + 1) (s.rename a b)) :=
  calls_in h (h.1.rename a b) fun _ _ h1 => rename_any' h1 h.1 hn a b ha hb
theorem publish_in (h : DiskIn B w d n s) : Calls Try.prog 14 #[.pointer (some ⟨d, 0, none⟩)] w (IRet B w d n s.publish) :=
  calls_in h h.1.publish fun _ _ h1 => publish_any h1
theorem limit_in (h : DiskIn B w d n s) (k : Int) (hk : -9223372036854775808 ≤ k ∧ k ≤ 9223372036854775807) : Calls Try.prog 22 #[.pointer (some ⟨d, 0, none⟩), .int .i64 k] w (IRet B w d n (s.setLimit k)) :=
  calls_in h (h.1.setLimit k) fun _ _ h1 => limit_any h1 k hk
theorem crash_in (h : DiskIn B w d n s) : Calls Try.prog 16 #[.pointer (some ⟨d, 0, none⟩)] w fun e w' => e = .returned (.tuple #[]) ∧ InTo B w d n s.crash w' :=
  calls_in0 h h.1.crash fun _ _ h1 => crash_any h1
theorem start_in (h : DiskIn B w d n s) (hn : n < 1000000) {v : Value} {sc : List Int} (hsc : IntsRd w v sc) (hlen : sc.length ≤ 1000000000000) : Calls Try.prog 17 #[.pointer (some ⟨d, 0, none⟩), v] w fun e w' => e = .returned (.tuple #[]) ∧ InTo B w d n (s.start sc) w' :=
  calls_in0 h (h.1.start sc) fun _ _ h1 => start_any h1 h.1 hn hsc hlen
theorem read_in (h : DiskIn B w d n s) (a : ByteArray) (ha : a.size ≤ 9223372036854775807) : Calls Try.prog 18 #[.pointer (some ⟨d, 0, none⟩), .string a] w fun e w' => e = .returned (.tuple #[.string (s.read a).1, .int .i64 (s.read a).2]) ∧ w = w' :=
  let ⟨_, _, _, h1, _⟩ := h; read_any h1 a ha
theorem size_in (h : DiskIn B w d n s) (a : ByteArray) (ha : a.size ≤ 9223372036854775807) : Calls Try.prog 33 #[.pointer (some ⟨d, 0, none⟩), .string a] w fun e w' => e = .returned (.tuple #[.int .i64 (s.read a).1.size, .int .i64 (s.read a).2]) ∧ w = w' :=
  let ⟨_, _, _, h1, _⟩ := h; size_any h1 a ha
theorem down_in (h : DiskIn B w d n s) : Calls Try.prog 21 #[.pointer (some ⟨d, 0, none⟩)] w fun e w' => e = .returned (.bool s.down) ∧ w = w' :=
  let ⟨_, _, _, h1, _⟩ := h; down_any h1
theorem free_in (h : DiskIn B w d n s) : Calls Try.prog 19 #[.pointer (some ⟨d, 0, none⟩)] w fun e w' => e = .returned (.int .i64 s.free) ∧ Fr (fun _ => False) w w' :=
  let ⟨h0, _, _, h1, _⟩ := h; free_any h1 h0
theorem names_in (h : DiskIn B w d n s) : Calls Try.prog 20 #[.pointer (some ⟨d, 0, none⟩)] w fun e w' => ∃ v, e = .returned v ∧ StrsAt w' w.heap.size v s.list ∧ Fr (fun _ => False) w w' :=
  let ⟨h0, _, _, h1, _⟩ := h; names_any h1 h0
theorem new_in (cap : Nat) (w : World) (h : cap ≤ 16777216) (hB : B ≤ w.heap.size) : Calls Try.prog 12 #[.int .i64 cap] w fun e w' => ∃ d, e = .returned (.tuple #[.pointer (some ⟨d, 0, none⟩), .int .i64 0]) ∧ w.heap.size ≤ d ∧ DiskIn B w' d 0 (Pd.PD.new cap) ∧ Fr (fun _ => False) w w' := by
  refine (new_any cap w h).mono ?_
  rintro e w' ⟨d, F, rfl, h1, h2, h3⟩
  exact ⟨d, rfl, h2 d h1.d_lt.2, ⟨Pd.Inv.new h, F, _, h1, fun b hb => Nat.le_trans hB (h2 b hb), fun b hb => hb.elim⟩, h3⟩
end
end Go.Proofs.Ytigcokgjikkohaa
