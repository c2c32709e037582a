/- What the walks over the disk share: frames of worlds, and how a map from names to files reads. -/
import Derived.Test.YtigcokgjikkohaaPd
import Derived.Test.YtigcokgjikkohaaChecked
import Derived.WalkKit
import Derived.WalkSpells
import Derived.WalkLawsBesides
import Derived.Maps.OwnSet
import Derived.Maps.RangeWalk
import Derived.Lib.Hide
namespace Go.Proofs.Ytigcokgjikkohaa
open Go.RowKit Go.Maps

/-- Off the blocks of S the world w' is as w was; no block has gone. -/
structure Fr (S : Nat → Prop) (w w' : World) : Prop where
  os : w'.os = w.os
  tape : w'.tape = w.tape
  output : w'.output = w.output
  size : w.heap.size ≤ w'.heap.size
  block : ∀ k, k < w.heap.size → ¬ S k → w'.heap[k]? = w.heap[k]?

theorem Fr.refl (S : Nat → Prop) (w : World) : Fr S w w := ⟨rfl, rfl, rfl, Nat.le_refl _, fun _ _ _ => rfl⟩
theorem Fr.trans {S S' : Nat → Prop} {a b c : World} (h : Fr S a b) (k : Fr S' b c) (hs : ∀ i, S' i → S i ∨ a.heap.size ≤ i) : Fr S a c :=
  ⟨k.os.trans h.os, k.tape.trans h.tape, k.output.trans h.output, Nat.le_trans h.size k.size, fun i hi hn =>
    (k.block i (Nat.lt_of_lt_of_le hi h.size) (fun e => by rcases hs i e with h1 | h1; exact hn h1; omega)).trans (h.block i hi hn)⟩
theorem Fr.mono {S S' : Nat → Prop} {w w' : World} (h : Fr S w w') (hs : ∀ i, S i → S' i ∨ w.heap.size ≤ i) : Fr S' w w' :=
  ⟨h.os, h.tape, h.output, h.size, fun i hi hn => h.block i hi (fun e => by rcases hs i e with h1 | h1; exact hn h1; omega)⟩
theorem Fr.drew {S : Nat → Prop} {a w : World} (h : Fr S a w) : Fr S a w.drew := ⟨h.os, h.tape, h.output, h.size, h.block⟩
theorem Fr.alloc {S : Nat → Prop} {a w : World} (h : Fr S a w) (o : Obj) : Fr S a (w.alloc o) :=
  ⟨h.os, h.tape, h.output, by have := h.size; simp; omega, fun i hi hn => by
    rw [Below.heap_alloc _ _ _ (by have := h.size; omega)]; exact h.block i hi hn⟩
theorem Fr.setCell {S : Nat → Prop} {a w : World} (h : Fr S a w) (p : Addr) (u : Value) (hp : S p.block ∨ a.heap.size ≤ p.block) : Fr S a (w.setCell p u) :=
  ⟨h.os, h.tape, h.output, by have := h.size; simp; omega, fun i hi hn => by
    rw [Below.heap_setCell _ _ _ _ (fun e => by subst e; rcases hp with h1 | h1; exact hn h1; omega)]; exact h.block i hi hn⟩
theorem Fr.grown {S : Nat → Prop} {a w w' : World} {row : Option Nat} (h : Fr S a w) (hg : w.grownBy w' row) (hr : ∀ k, row = some k → S k ∨ a.heap.size ≤ k) : Fr S a w' :=
  h.trans (S' := fun i => row = some i) ⟨hg.os, hg.tape, hg.output, hg.size, fun k hk hn => hg.block k hk (fun e => hn e.symm)⟩ hr
theorem Fr.cell {S : Nat → Prop} {w w' : World} (h : Fr S w w') {p : Addr} (hp : p.block < w.heap.size) (hn : ¬ S p.block) : w'.cell? p = w.cell? p :=
  World.cell?_of_block (h.block _ hp hn)
theorem Fr.below {S : Nat → Prop} {w w' : World} (h : Fr S w w') {B : Nat} (hB : B ≤ w.heap.size) (hs : ∀ i, S i → B ≤ i) : Below B w w' :=
  ⟨h.os, h.tape, h.output, h.size, fun k hk => h.block k (by omega) (fun e => by have := hs k e; omega)⟩
theorem Fr.none {w w' : World} (h : Fr (fun _ => False) w w') : Below w.heap.size w w' := h.below (Nat.le_refl _) (fun _ e => e.elim)

theorem lt_of_some {w : World} {b : Nat} {o : Obj} (h : w.heap[b]? = some o) : b < w.heap.size := (Array.getElem?_eq_some_iff.1 h).1
theorem heap_alloc_old' {w : World} {o : Obj} {k : Nat} {x : Obj} (h : w.heap[k]? = some x) : (w.alloc o).heap[k]? = some x :=
  (Below.heap_alloc _ _ _ (lt_of_some h)).trans h
theorem heap_alloc_this (w : World) (o : Obj) : (w.alloc o).heap[w.heap.size]? = some o := by
  show (w.heap.push o)[w.heap.size]? = _
  simp
theorem heap_set_same {w : World} {b i : Nat} {v : Value} {cs : Array Value} {t : TypeId} {fz : Nat × Nat} (h : w.heap[b]? = some (.cells cs t fz)) :
    (w.setCell ⟨b, i, none⟩ v).heap[b]? = some (.cells (cs.setIfInBounds i v) t fz) := by
  simp [World.setCell, Array.getElem?_modify, h]
theorem heap_set_other {w : World} {a : Addr} {v : Value} {k : Nat} {x : Obj} (h : w.heap[k]? = some x) (hn : k ≠ a.block) : (w.setCell a v).heap[k]? = some x :=
  (Below.heap_setCell _ _ _ _ hn).trans h
theorem cell_at {w : World} {b : Nat} {cs : Array Value} {t : TypeId} {fz : Nat × Nat} (h : w.heap[b]? = some (.cells cs t fz)) (i : Nat) : w.cell? ⟨b, i, none⟩ = cs[i]? := by
  simp [World.cell?, h]
theorem free_at {w : World} {b : Nat} {cs : Array Value} {t : TypeId} (h : w.heap[b]? = some (.cells cs t (0, 0))) (i : Nat) : w.frozen? ⟨b, i, none⟩ = false := by
  simp [World.frozen?, h]

/-! ### a map from names to files, as the kit reads it -/
abbrev DU := DataW Unit
/-- A pointer to a block, or nil. -/
def ptrEl : Value → Option (DU × List MemPlace)
  | .pointer (some ⟨b, 0, none⟩) => some (.lit (.int .i64 b), [])
  | .pointer none => some (.nil, [])
  | _ => none
theorem ptrEl_mk (b : Nat) : ptrEl (.pointer (some ⟨b, 0, none⟩)) = some (.lit (.int .i64 b), []) := rfl
theorem ptrEl_nil : ptrEl (.pointer none) = some (.nil, []) := rfl
abbrev ptrV (b : Nat) : Value := .pointer (some ⟨b, 0, none⟩)
def optPtr : Option Nat → Value | some b => .pointer (some ⟨b, 0, none⟩) | none => .pointer none
theorem ptrEl_inv {v : Value} {z : DU × List MemPlace} (h : ptrEl v = some z) : ∃ o, v = optPtr o := by
  unfold ptrEl at h
  split at h
  · rename_i b; exact ⟨some b, rfl⟩
  · exact ⟨none, rfl⟩
  · cases h
theorem ptrEl_int {v : Value} {b : Int} {ps : List MemPlace} (h : ptrEl v = some (.lit (.int .i64 b), ps)) : ∃ n : Nat, b = n ∧ v = ptrV n := by
  unfold ptrEl at h
  split at h
  · rename_i b'; simp at h; exact ⟨b', h.1.symm, rfl⟩
  · simp at h
  · cases h
theorem ptrEl_none {v : Value} {ps : List MemPlace} (h : ptrEl v = some (.nil, ps)) : v = .pointer none := by
  unfold ptrEl at h
  split at h
  · simp at h
  · rfl
  · cases h

def keyL (k : ByteArray) : Lit := .string k.data.toList
theorem keyL_inj {a b : ByteArray} (h : keyL a = keyL b) : a = b := by
  cases a; cases b; simpa [keyL] using h
theorem keyL_same (a b : ByteArray) : (keyL a).sameKey (keyL b) = decide (a = b) := by
  simp only [keyL, Lit.sameKey]
  rw [Bool.eq_iff_iff, beq_iff_eq, decide_eq_true_iff]
  constructor
  · intro h; exact keyL_inj (by simp [keyL, h])
  · rintro rfl; rfl
def entL (addr : Nat → Nat) (e : ByteArray × Nat) : Lit × DU := (keyL e.1, .lit (.int .i64 (addr e.2)))
def toD (addr : Nat → Nat) (l : Pd.Names) : DU := .map (l.map (entL addr))

theorem toD_congr {a a' : Nat → Nat} {l : Pd.Names} (h : ∀ e ∈ l, a e.2 = a' e.2) : toD a l = toD a' l := by
  unfold toD; congr 1; exact List.map_congr_left fun e he => by simp [entL, h e he]
theorem toD_has (addr : Nat → Nat) (l : Pd.Names) (k : ByteArray) : Maps.has (toD addr l) (keyL k) = (Pd.find l k).isSome := by
  unfold toD Pd.find
  rw [Maps.has_eq]
  induction l with
  | nil => rfl
  | cons e r ih =>
    simp only [List.map_cons, List.any_cons, List.find?_cons]
    have h1 : (entL addr e).1.sameKey (keyL k) = decide (e.1 = k) := keyL_same _ _
    rw [h1]
    by_cases h : e.1 = k
    · simp [h]
    · simp only [h, decide_false, Bool.false_or]
      exact ih
theorem toD_at (addr : Nat → Nat) (l : Pd.Names) (k : ByteArray) (z : DU) : (toD addr l).atKey (keyL k) z = match Pd.find l k with | some i => .lit (.int .i64 (addr i)) | none => z := by
  unfold toD Pd.find
  simp only [DataW.atKey]
  induction l with
  | nil => rfl
  | cons e r ih =>
    simp only [List.map_cons, List.find?_cons]
    have h1 : (entL addr e).1.sameKey (keyL k) = decide (e.1 = k) := keyL_same _ _
    rw [h1]
    by_cases h : e.1 = k
    · simp [h, entL]
    · simp only [h, decide_false]
      exact ih
theorem toD_del (addr : Nat → Nat) (l : Pd.Names) (k : ByteArray) : (toD addr l).del (keyL k) = toD addr (Pd.del l k) := by
  unfold toD Pd.del
  show DataW.map ((l.map (entL addr)).filter fun p => !p.1.sameKey (keyL k)) = _
  rw [List.filter_map]
  congr 2
  apply List.filter_congr
  intro e _
  have h1 : (entL addr e).1.sameKey (keyL k) = decide (e.1 = k) := keyL_same _ _
  simp [h1]
theorem ins_map (addr : Nat → Nat) (x : ByteArray × Nat) (l : Pd.Names) : DataW.insert (entL addr x) (l.map (entL addr)) = (Pd.ins x l).map (entL addr) := by
  induction l with
  | nil => rfl
  | cons e r ih =>
    simp only [List.map_cons, DataW.insert, Pd.ins]
    have : (entL addr x).1.before (entL addr e).1 = Pd.nbef x.1 e.1 := rfl
    rw [this]
    split
    · rfl
    · rw [ih]; rfl
theorem toD_put (addr : Nat → Nat) (l : Pd.Names) (k : ByteArray) (i : Nat) : (toD addr l).put (keyL k) (.lit (.int .i64 (addr i))) = toD addr (Pd.put l k i) := by
  have h := toD_del addr l k
  unfold DataW.del toD at h
  simp only [DataW.map.injEq] at h
  unfold DataW.put toD Pd.put
  simp only [DataW.map.injEq]
  rw [h]
  exact ins_map addr (k, i) _
theorem toD_size (addr : Nat → Nat) (l : Pd.Names) : Maps.size (toD addr l) = l.length := by simp [toD, Maps.size_eq]

end Go.Proofs.Ytigcokgjikkohaa
