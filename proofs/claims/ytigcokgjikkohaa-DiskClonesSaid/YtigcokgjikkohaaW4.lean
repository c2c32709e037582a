/- The walks of the makers of changes, and of the changes. -/
import Derived.Test.YtigcokgjikkohaaW3
import Derived.Laws.EntriesVeiled
namespace Go.Proofs.Ytigcokgjikkohaa
open Go.RowKit Go.Maps
set_option linter.unusedVariables false
set_option linter.unusedSimpArgs false

/-- A change that has just been made: its two cells, and what it holds. -/
def Made (w : World) (addr : Nat → Nat) (c : Pd.PChange) (e : Ending) (w' : World) : Prop :=
  ∃ a b, e = .returned (.agg #[a, b]) ∧ chIs w' (fun i => w.heap.size ≤ i ∧ i < w'.heap.size) addr c a b ∧ Fr (fun _ => False) w w'

set_option maxHeartbeats 400000 in
theorem set_any (addr : Nat → Nat) (n : ByteArray) (f : Nat) (w : World) : Calls Try.prog 42 #[.string n, .pointer (some ⟨addr f, 0, none⟩)] w (Made w addr (.set n f)) := by
  go_enter Try.func42, Try.ntmps42
  go_wp2
  refine bodyPost_ret (v := .agg #[.pointer (some ⟨addr f, 0, none⟩), .func (.func 60) #[] #[ptrV w.heap.size]]) (by simp [results, Try.results42, go_sem]) rfl ?_
  exact ⟨_, _, rfl, ⟨rfl, w.heap.size, rfl, heap_alloc_old' (heap_alloc_this _ _), by simp; omega⟩, ((Fr.refl _ _).alloc _).alloc _⟩
set_option maxHeartbeats 400000 in
theorem remove_any (addr : Nat → Nat) (n : ByteArray) (w : World) : Calls Try.prog 57 #[.string n] w (Made w addr (.rem n)) := by
  go_enter Try.func57, Try.ntmps57
  go_wp2
  refine bodyPost_ret (v := .agg #[.pointer none, .func (.func 68) #[] #[ptrV w.heap.size]]) (by simp [results, Try.results57, go_sem]) rfl ?_
  exact ⟨_, _, rfl, ⟨rfl, w.heap.size, rfl, heap_alloc_old' (heap_alloc_this _ _), by simp; omega⟩, ((Fr.refl _ _).alloc _).alloc _⟩
set_option maxHeartbeats 400000 in
theorem rename_any (addr : Nat → Nat) (s t : ByteArray) (f : Nat) (w : World) : Calls Try.prog 49 #[.string s, .string t] w (Made w addr (.ren s t f)) := by
  go_enter Try.func49, Try.ntmps49
  go_wp2
  refine bodyPost_ret (v := .agg #[.pointer none, .func (.func 65) #[] #[ptrV w.heap.size, ptrV (w.heap.size + 1)]]) (by simp [results, Try.results49, go_sem]) rfl ?_
  have h1 : strBox (((w.alloc (.cells #[.string s] 9)).alloc (.cells #[.string t] 9)).alloc (.cells #[.pointer none, .func (.func 65) #[] #[ptrV w.heap.size, ptrV (w.heap.size + 1)]] 80)) w.heap.size s := heap_alloc_old' (heap_alloc_old' (heap_alloc_this _ _))
  have h2 : strBox (((w.alloc (.cells #[.string s] 9)).alloc (.cells #[.string t] 9)).alloc (.cells #[.pointer none, .func (.func 65) #[] #[ptrV w.heap.size, ptrV (w.heap.size + 1)]] 80)) (w.heap.size + 1) t := heap_alloc_old' (by have := heap_alloc_this (w.alloc (.cells #[.string s] 9)) (.cells #[.string t] 9); rw [World.size_alloc] at this; exact this)
  exact ⟨_, _, rfl, ⟨rfl, w.heap.size, w.heap.size + 1, rfl, h1, h2, ⟨Nat.le_refl _, by simp only [World.size_alloc]; omega⟩, ⟨by omega, by simp only [World.size_alloc]; omega⟩⟩, (((Fr.refl _ _).alloc _).alloc _).alloc _⟩

section
variable {w : World} {b n : Nat} {addr : Nat → Nat} {l : Pd.Names}
/-- What a change does to a map of names. -/
def Turned (w : World) (b : Nat) (addr : Nat → Nat) (l : Pd.Names) (e : Ending) (w' : World) : Prop :=
  e = .returned (.tuple #[]) ∧ namesAt w' b l.length addr l ∧ Fr (fun i => i = b) w w'
set_option maxHeartbeats 400000 in
theorem setF_any (h : namesAt w b n addr l) {k : ByteArray} (hk : k.size ≤ 9223372036854775807) (i x : Nat) (hx : strBox w x k) (hn : l.length < 9223372036854775807) :
    Calls Try.prog 60 #[.map (some b), .pointer (some ⟨addr i, 0, none⟩), .pointer (some ⟨x, 0, none⟩)] w (Turned w b addr (Pd.put l k i)) := by
  obtain ⟨w', hrun, h1, h2, h3⟩ := store_names h hk i hn
  have hc : w.cell? ⟨x, 0, none⟩ = some (.string k) := cell_of_one hx
  go_enter Try.func60, Try.ntmps60
  go_wp2
  go_end0
  exact ⟨rfl, h1, h2⟩
set_option maxHeartbeats 400000 in
theorem removeF_any (h : namesAt w b n addr l) {k : ByteArray} (hk : k.size ≤ 9223372036854775807) (v : Value) (x : Nat) (hx : strBox w x k) :
    Calls Try.prog 68 #[.map (some b), v, .pointer (some ⟨x, 0, none⟩)] w (Turned w b addr (Pd.del l k)) := by
  have hrun := fun ty => drop_names h hk ty
  have hc : w.cell? ⟨x, 0, none⟩ = some (.string k) := cell_of_one hx
  go_enter Try.func68, Try.ntmps68
  go_wp2_with (at_delete; refine wpList_delete_own _ rfl _ _ 69 9 rfl 73 lawS Try.underlying69 _ b n _ rfl h _ _ rfl (keyS hk) ?_; intro w1 hown1 hturn1)
  go_end0
  rw [toD_del] at hown1
  exact ⟨rfl, names_len hown1, turned_fr hturn1⟩
set_option maxHeartbeats 400000 in
theorem renameF_any (h : namesAt w b n addr l) {s t : ByteArray} (hs : s.size ≤ 9223372036854775807) (ht : t.size ≤ 9223372036854775807) (v : Value) (x y i : Nat) (hx : strBox w x s) (hy : strBox w y t) (hxb : x ≠ b) (hyb : y ≠ b)
    (hn : l.length < 9223372036854775807) (hf : Pd.find l s = some i) :
    Calls Try.prog 65 #[.map (some b), v, .pointer (some ⟨x, 0, none⟩), .pointer (some ⟨y, 0, none⟩)] w (Turned w b addr (Pd.put (Pd.del l s) t i)) := by
  have hlk := look_names1 h hs
  rw [hf] at hlk
  have hlk' : (Instr.lookup 69 (.map (some b)) (.string s) false).run Try.prog w = .ok (.pointer (some ⟨addr i, 0, none⟩)) w := hlk
  clear hlk
  have hcx : w.cell? ⟨x, 0, none⟩ = some (.string s) := cell_of_one hx
  have hcy : w.cell? ⟨y, 0, none⟩ = some (.string t) := cell_of_one hy
  have hlen : (Pd.del l s).length ≤ l.length := List.length_filter_le _ _
  have HF := Lib.hid hf
  clear hf
  go_enter Try.func65, Try.ntmps65
  go_wp2_with (first
    | (at_delete; refine wpList_delete_own _ rfl _ _ 69 9 rfl 73 lawS Try.underlying69 _ b n _ rfl h _ _ rfl (keyS hs) ?_; intro w1 hown1 hturn1; rw [toD_del] at hown1; have hfr1 := turned_fr hturn1; have hcy1 : w1.cell? ⟨y, 0, none⟩ = some (.string t) := cell_of_one (strBox_kept hy hfr1 hyb); have hm1 := names_len hown1; obtain ⟨w2, hrun2, h2, hf2, hs2⟩ := store_names hm1 ht i (by omega); clear hturn1 hown1)
    | fail)
  go_end0
  exact ⟨rfl, h2, hfr1.trans hf2 (fun _ e => .inl e)⟩
end
end Go.Proofs.Ytigcokgjikkohaa
