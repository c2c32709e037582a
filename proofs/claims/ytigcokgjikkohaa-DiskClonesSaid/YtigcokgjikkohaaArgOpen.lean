/- The rows' arguments, opened: slices of numbers and of strings, and the structs of the laws. -/
import Derived.Test.YtigcokgjikkohaaS1
import Derived.SliceStrings
import Derived.OpenShut
import Derived.ChangeOld
namespace Go.Proofs.Ytigcokgjikkohaa
open Go.RowKit Go.ChangeShapes Go.WideShapes
set_option linter.unusedVariables false
/-- A slice of strings that can be read. -/
def StrsRd (w : World) (v : Value) (l : List ByteArray) : Prop :=
  (v = .slice none 0 0 ∧ l = []) ∨ ∃ (a : Addr) (cap : Nat), v = .slice (some a) l.length cap ∧ l.length ≤ cap ∧ (∀ i, i < l.length → w.cell? (a.add i) = some (.string (l.getD i ByteArray.empty))) ∧ (∀ i, i < l.length → a.block < w.heap.size)
theorem cell_lt {w : World} {a : Addr} {v : Value} (h : w.cell? a = some v) : a.block < w.heap.size := by
  unfold World.cell? at h
  split at h
  · rename_i c t z e; exact lt_of_some e
  · cases h
theorem add_block' (a : Addr) (j : Nat) : (a.add j).block = a.block := add_block a j
section
variable {H : Type} {enc : TypeId × Value → H} {w : World} {base : Nat} {spare : Nat → Bool} {held : Bool}
theorem ints_of_trod' {fuel : Nat} {a : Option Addr} {len cap : Nat} {x : DataW H × List MemPlace} (h : DataW.trod enc Try.prog w base spare held fuel 23 [.slice a len cap] = some x) :
    ∃ sc : List Int, len = sc.length ∧ sc.length ≤ cap ∧ IntsRd w (.slice a sc.length cap) sc := by
  rcases open_ints Try.underlying23 Try.underlying3 (by kernel_rfl) h with ⟨hcs, _⟩ | ⟨x, l, c, zs, hcs, _, hl, hm, hz, _, hcell, hwz⟩
  · simp at hcs
    obtain ⟨rfl, rfl, rfl⟩ := hcs
    exact ⟨[], rfl, Nat.le_refl _, by simp, .inl ⟨rfl, rfl⟩⟩
  · simp at hcs
    obtain ⟨rfl, rfl, rfl⟩ := hcs
    have hle : len ≤ zs.length := by rw [hz]; split <;> omega
    have hc : ∀ (j : Nat) u, ((zs.take len).map (Value.int .i64))[j]? = some u → w.cell? (x.add j) = some u := by
      intro j u hj
      obtain ⟨hj1, rfl⟩ := List.getElem?_eq_some_iff.1 hj
      simp at hj1
      have := hcell j (by omega)
      rw [this]
      have h1 : j < zs.length := by omega
      simp [List.getD, h1]
    refine ⟨zs.take len, by simp; omega, by simp; omega, ?_, .inr ⟨x, cap, rfl, hc, fun j u hj => ?_⟩⟩
    · intro n hn
      have := hwz n (List.mem_of_mem_take hn)
      simpa [Lit.wf, IntKind.min, IntKind.max, IntKind.signed, IntKind.bits] using this
    · have := cell_lt (hc j u hj)
      rwa [add_block] at this
theorem ints_of_trod {fuel : Nat} {a : Option Addr} {len cap : Nat} {x : DataW H × List MemPlace} (h : DataW.trod enc Try.prog w base spare held fuel 23 [.slice a len cap] = some x) :
    ∃ sc : List Int, len = sc.length ∧ IntsRd w (.slice a sc.length cap) sc :=
  let ⟨sc, h1, _, h2⟩ := ints_of_trod' h; ⟨sc, h1, h2⟩
theorem strs_of_trod {fuel : Nat} {a : Option Addr} {len cap : Nat} {x : DataW H × List MemPlace} (h : DataW.trod enc Try.prog w base spare held fuel 22 [.slice a len cap] = some x) :
    ∃ l : List ByteArray, len = l.length ∧ StrsRd w (.slice a l.length cap) l := by
  rcases open_strings Try.underlying22 Try.underlying9 (by kernel_rfl) h with ⟨hcs, _⟩ | ⟨x, l, c, zs, hcs, _, hl, hm, hz, _, hcell, hwz⟩
  · simp at hcs
    obtain ⟨rfl, rfl, rfl⟩ := hcs
    exact ⟨[], rfl, .inl ⟨rfl, rfl⟩⟩
  · simp at hcs
    obtain ⟨rfl, rfl, rfl⟩ := hcs
    have hle : len ≤ zs.length := by rw [hz]; split <;> omega
    have hlen : (zs.take len).length = len := by simp; omega
    have hc : ∀ i, i < (zs.take len).length → w.cell? (x.add i) = some (.string ((zs.take len).getD i ByteArray.empty)) := by
      intro i hi
      rw [hlen] at hi
      rw [hcell i (by omega)]
      simp [List.getD, hi]
    refine ⟨zs.take len, hlen.symm, .inr ⟨x, cap, rfl, by omega, hc, fun i hi => ?_⟩⟩
    have := cell_lt (hc i hi)
    rwa [add_block] at this
set_option maxRecDepth 100000 in
theorem failure_of_trod {fuel : Nat} {cs : List Value} {x : DataW H × List MemPlace} (h : DataW.trod enc Try.prog w base spare held fuel 41 cs = some x) :
    ∃ (k : Nat) (sa : Option Addr) (scap : Nat) (sc : List Int), cs = [.int .u8 k, .slice sa sc.length scap] ∧ k ≤ 255 ∧ IntsRd w (.slice sa sc.length scap) sc := by
  obtain ⟨xs, n, rfl, rfl, hl, hlen, hf⟩ := DataW.trod_struct Try.underlying41 h
  have hl2 : cs.length = 2 := hl.trans (by kernel_rfl)
  match cs, hl2 with
  | [c0, c1], _ =>
    have hx : xs.length = 2 := hlen
    match xs, hx with
    | [x0, x1], _ =>
      have h0 := hf 0 _ rfl
      have h1 := hf 1 _ rfl
      have e0 : Try.prog.cellsOf 5 = 1 := by kernel_rfl
      have e1 : Try.prog.cellsOf 23 = 1 := by kernel_rfl
      simp [e0] at h0
      simp [e1] at h1
      obtain ⟨k, hk, _, hw⟩ := DataW.trod_int Try.underlying5 h0
      simp at hk
      subst hk
      have u1 : 0 ≤ k ∧ k ≤ 255 := by simpa [Lit.wf, IntKind.min, IntKind.max, IntKind.signed, IntKind.bits] using hw
      obtain ⟨a, len, cap, rfl⟩ : ∃ a len cap, c1 = .slice a len cap := by
        rcases open_ints Try.underlying23 Try.underlying3 (by kernel_rfl) h1 with ⟨hcs, _⟩ | ⟨x, l, c, zs, hcs, _⟩
        · simp at hcs; exact ⟨_, _, _, hcs⟩
        · simp at hcs; exact ⟨_, _, _, hcs⟩
      obtain ⟨sc, rfl, hsc⟩ := ints_of_trod h1
      refine ⟨k.toNat, a, cap, sc, ?_, by omega, hsc⟩
      rw [Int.toNat_of_nonneg u1.1]
end
end Go.Proofs.Ytigcokgjikkohaa
