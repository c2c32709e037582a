/- The acts of the laws: how they lie in memory; few. -/
import Derived.Test.YtigcokgjikkohaaArgOpen
import Derived.Test.YtigcokgjikkohaaKn2
namespace Go.Proofs.Ytigcokgjikkohaa
open Go.RowKit Go.Maps Go.Sort
set_option linter.unusedVariables false
set_option linter.unusedSimpArgs false
structure PAct where
  kind : Nat
  name : ByteArray
  dst : ByteArray
  num : Int
  script : List Int
  sa : Option Addr
  scap : Nat
def PAct.cells (x : PAct) : Array Value := #[.int .u8 x.kind, .string x.name, .string x.dst, .int .i8 x.num, .slice x.sa x.script.length x.scap]
def ActOk (w : World) (x : PAct) : Prop := (x.kind ≤ 255 ∧ x.script.length ≤ x.scap) ∧ x.name.size ≤ maxLen ∧ x.dst.size ≤ maxLen ∧ (-128 ≤ x.num ∧ x.num ≤ 127) ∧ IntsRd w (.slice x.sa x.script.length x.scap) x.script
def ActsRd (w : World) (v : Value) (l : List PAct) : Prop :=
  (∀ x ∈ l, ActOk w x) ∧ ((v = .slice none 0 0 ∧ l = []) ∨ ∃ (a : Addr) (cap : Nat), v = .slice (some a) l.length cap ∧ l.length ≤ 9223372036854775807 ∧
    ∀ (i : Nat) (x : PAct), l[i]? = some x → a.block < w.heap.size ∧ ∀ (j : Nat) c, x.cells[j]? = some c → w.cell? (a.add (i * 5 + j)) = some c)
def PAct.small (x : PAct) : Bool := decide (x.name.size ≤ 50) && decide (x.dst.size ≤ 50) && decide (x.script.length ≤ 12)
def fewB (l : List PAct) : Bool := l.all PAct.small && decide (l.length ≤ 40)
section
variable {w w' : World} {x : PAct} {l : List PAct} {v : Value}
theorem ActOk.kept {S : Nat → Prop} (h : ActOk w x) (hf : Fr S w w') (hS : ∀ b, S b → w.heap.size ≤ b) : ActOk w' x :=
  ⟨h.1, h.2.1, h.2.2.1, h.2.2.2.1, h.2.2.2.2.kept (hf.mono (fun i e => .inr (hS i e)))⟩
theorem ActsRd.kept {S : Nat → Prop} (h : ActsRd w v l) (hf : Fr S w w') (hS : ∀ b, S b → w.heap.size ≤ b) : ActsRd w' v l := by
  refine ⟨fun x hx => (h.1 x hx).kept hf hS, ?_⟩
  rcases h.2 with h | ⟨a, cap, h1, h2, h3⟩
  · exact .inl h
  · refine .inr ⟨a, cap, h1, h2, fun i x hi => ⟨Nat.lt_of_lt_of_le (h3 i x hi).1 hf.size, fun j c hj => ?_⟩⟩
    refine (hf.cell ?_ ?_).trans ((h3 i x hi).2 j c hj)
    · rw [add_block]; exact (h3 i x hi).1
    · rw [add_block]; intro e; have := hS _ e; have := (h3 i x hi).1; omega
/-- The five cells of an act. -/
def ActCells (w : World) (c : Addr) (x : PAct) : Prop :=
  w.cell? c = some (.int .u8 x.kind) ∧ w.cell? ⟨c.block, c.off + 1, none⟩ = some (.string x.name) ∧ w.cell? ⟨c.block, c.off + 2, none⟩ = some (.string x.dst) ∧ w.cell? ⟨c.block, c.off + 3, none⟩ = some (.int .i8 x.num) ∧ w.cell? ⟨c.block, c.off + 4, none⟩ = some (.slice x.sa x.script.length x.scap)
theorem ActCells.kept {S : Nat → Prop} {c : Addr} (h : ActCells w c x) (hf : Fr S w w') (hS : ¬ S c.block) : ActCells w' c x := by
  have hl := cell_lt h.1
  exact ⟨(hf.cell hl hS).trans h.1, (hf.cell (p := ⟨c.block, c.off + 1, none⟩) hl hS).trans h.2.1, (hf.cell (p := ⟨c.block, c.off + 2, none⟩) hl hS).trans h.2.2.1, (hf.cell (p := ⟨c.block, c.off + 3, none⟩) hl hS).trans h.2.2.2.1, (hf.cell (p := ⟨c.block, c.off + 4, none⟩) hl hS).trans h.2.2.2.2⟩
theorem ActsRd.len {a : Option Addr} {cap : Nat} (h : ActsRd w (.slice a l.length cap) l) : l.length ≤ 9223372036854775807 := by
  rcases h.2 with ⟨_, rfl⟩ | ⟨b, cap', _, h2, _⟩
  · exact Nat.zero_le _
  · exact h2
theorem ActsRd.at {a : Option Addr} {cap : Nat} (h : ActsRd w (.slice a l.length cap) l) {i : Nat} (hi : i < l.length) :
    ∃ (b c : Addr) (x : PAct), a = some b ∧ l[i]? = some x ∧ ActOk w x ∧ b.add (i * 5) = c ∧ ActCells w c x := by
  rcases h.2 with ⟨_, rfl⟩ | ⟨b, cap', h1, h2, h3⟩
  · cases hi
  · cases h1
    have hx : l[i]? = some l[i] := List.getElem?_eq_getElem hi
    have h4 := (h3 i _ hx).2
    have hadd : ∀ k, b.add (i * 5 + (k + 1)) = ⟨(b.add (i * 5)).block, (b.add (i * 5)).off + (k + 1), none⟩ := by
      intro k; rw [← Addr.add_add]; rfl
    have h1 := h4 1 _ rfl
    have h2 := h4 2 _ rfl
    have h3 := h4 3 _ rfl
    have h5 := h4 4 _ rfl
    rw [hadd 0] at h1
    rw [hadd 1] at h2
    rw [hadd 2] at h3
    rw [hadd 3] at h5
    exact ⟨b, _, l[i], rfl, hx, h.1 _ (List.getElem_mem hi), rfl, h4 0 _ rfl, h1, h2, h3, h5⟩
theorem fewB_not {i : Nat} (hx : l[i]? = some x) (h : x.small = false) : fewB l = false := by
  unfold fewB
  have : l.all PAct.small = false := by
    rw [Bool.eq_false_iff]
    intro e
    have := List.all_eq_true.1 e x (List.mem_of_getElem? hx)
    rw [h] at this
    cases this
  rw [this]
  rfl
end
set_option maxRecDepth 100000 in
set_option maxHeartbeats 2000000 in
theorem few_any (w : World) (a : Option Addr) (cap : Nat) (l : List PAct) (h : ActsRd w (.slice a l.length cap) l) : Calls Try.prog 24 #[.slice a l.length cap] w fun e w' => e = .returned (.bool (fewB l)) ∧ w = w' := by
  have hlen := h.len
  have H := Lib.hid h
  clear h
  go_enter Try.func24, Try.ntmps24
  go_upto_region 2 with (fail)
  go_loopw [3] (fun i wr => ∃ (j : Nat), i = .int .i64 j ∧ j ≤ l.length ∧ (∀ x ∈ l.take j, x.small = true) ∧ wr = w) (fun i wr => l.length - (intOf i).toNat)
  case atStart => exact ⟨0, rfl, Nat.zero_le _, by simp, rfl⟩
  case round =>
    obtain ⟨j, rfl, hj, hall, rfl⟩ := hrel
    have HALL := Lib.hid hall
    clear hall
    by_cases hlt : j < l.length
    · obtain ⟨b, c, x, rfl, hx, hok, hc, c0, c1, c2, c3, c4⟩ := H.out.at hlt
      clear hok
      by_cases h1 : x.name.size ≤ 50
      · have i1 : ¬ (50 < (x.name.size : Int)) := by omega
        by_cases h2 : x.dst.size ≤ 50
        · have i2 : ¬ (50 < (x.dst.size : Int)) := by omega
          by_cases h3 : x.script.length ≤ 12
          · have i3 : ¬ (12 < (x.script.length : Int)) := by omega
            go_wp2
            refine ⟨⟨j + 1, by go_num, by omega, ?_, by first | rfl | trivial⟩, by simp [intOf]; omega⟩
            have hs : x.small = true := by simp [PAct.small, h1, h2, h3]
            intro y hy
            rw [List.take_add_one, hx] at hy
            rcases List.mem_append.1 hy with hy | hy
            · exact HALL.out y hy
            · simp at hy; subst hy; exact hs
          · have i3 : 12 < (x.script.length : Int) := by omega
            have hs := fewB_not hx (by simp [PAct.small]; omega)
            go_wp2
            go_ret
            exact ⟨by first | rfl | (rw [hs]; rfl) | rw [hs], by first | rfl | trivial⟩
        · have i2 : 50 < (x.dst.size : Int) := by omega
          have hs := fewB_not hx (by simp [PAct.small]; omega)
          go_wp2
          go_ret
          exact ⟨by first | rfl | (rw [hs]; rfl) | rw [hs], by first | rfl | trivial⟩
      · have i1 : 50 < (x.name.size : Int) := by omega
        have hs := fewB_not hx (by simp [PAct.small]; omega)
        go_wp2
        go_ret
        exact ⟨by first | rfl | (rw [hs]; rfl) | rw [hs], by first | rfl | trivial⟩
    · obtain rfl : j = l.length := by omega
      have hs : fewB l = decide ((l.length : Int) ≤ 40) := by
        have hall := HALL.out
        rw [List.take_length] at hall
        unfold fewB
        rw [List.all_eq_true.2 hall, Bool.true_and]
        exact decide_eq_decide.2 (by omega)
      go_wp2
      go_ret
      exact ⟨by first | rfl | (rw [hs]; rfl) | rw [hs], rfl⟩
end Go.Proofs.Ytigcokgjikkohaa
