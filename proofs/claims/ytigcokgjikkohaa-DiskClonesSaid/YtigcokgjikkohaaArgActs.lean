/- The rows' arguments, opened: acts. -/
import Derived.Test.YtigcokgjikkohaaAc
import Derived.DataReads
namespace Go.Proofs.Ytigcokgjikkohaa
open Go.RowKit Go.ChangeShapes Go.WideShapes
set_option linter.unusedVariables false
section
variable {H : Type} {enc : TypeId × Value → H} {w : World} {base : Nat} {spare : Nat → Bool} {held : Bool}
set_option maxRecDepth 100000 in
theorem act_of_trod {fuel : Nat} {cs : List Value} {y : DataW H × List MemPlace} (h : DataW.trod enc Try.prog w base spare held fuel 48 cs = some y) :
    ∃ x : PAct, cs = x.cells.toList ∧ ActOk w x := by
  obtain ⟨xs, n, rfl, rfl, hl, hlen, hf⟩ := DataW.trod_struct Try.underlying48 h
  have hl2 : cs.length = 5 := hl.trans (by kernel_rfl)
  match cs, hl2 with
  | [c0, c1, c2, c3, c4], _ =>
    have hx : xs.length = 5 := hlen
    match xs, hx with
    | [x0, x1, x2, x3, x4], _ =>
      have h0 := hf 0 _ rfl
      have h1 := hf 1 _ rfl
      have h2 := hf 2 _ rfl
      have h3 := hf 3 _ rfl
      have h4 := hf 4 _ rfl
      have e0 : Try.prog.cellsOf 5 = 1 := by kernel_rfl
      have e1 : Try.prog.cellsOf 9 = 1 := by kernel_rfl
      have e3 : Try.prog.cellsOf 46 = 1 := by kernel_rfl
      have e4 : Try.prog.cellsOf 23 = 1 := by kernel_rfl
      simp [e0] at h0
      simp [e1] at h1
      simp [e1] at h2
      simp [e3] at h3
      simp [e4] at h4
      obtain ⟨k, hk, _, hw⟩ := DataW.trod_int Try.underlying5 h0
      simp at hk
      subst hk
      have u1 : 0 ≤ k ∧ k ≤ 255 := by simpa [Lit.wf, IntKind.min, IntKind.max, IntKind.signed, IntKind.bits] using hw
      obtain ⟨s1, hs1, _, y1⟩ := DataW.trod_string Try.underlying9 h1
      simp at hs1
      subst hs1
      obtain ⟨s2, hs2, _, y2⟩ := DataW.trod_string Try.underlying9 h2
      simp at hs2
      subst hs2
      obtain ⟨z, hz, _, wz⟩ := DataW.trod_int Try.underlying46 h3
      simp at hz
      subst hz
      have uz : -128 ≤ z ∧ z ≤ 127 := by simpa [Lit.wf, IntKind.min, IntKind.max, IntKind.signed, IntKind.bits] using wz
      obtain ⟨a, len, cap, rfl⟩ : ∃ a len cap, c4 = .slice a len cap := by
        rcases open_ints Try.underlying23 Try.underlying3 (by kernel_rfl) h4 with ⟨hcs, _⟩ | ⟨x, l, c, zs, hcs, _⟩
        · simp at hcs; exact ⟨_, _, _, hcs⟩
        · simp at hcs; exact ⟨_, _, _, hcs⟩
      obtain ⟨sc, rfl, hcap, hsc⟩ := ints_of_trod' h4
      refine ⟨⟨k.toNat, s1, s2, z, sc, a, cap⟩, ?_, ⟨by show k.toNat ≤ 255; omega, hcap⟩, y1, y2, uz, hsc⟩
      show _ = [Value.int .u8 (k.toNat : Int), .string s1, .string s2, .int .i8 z, .slice a sc.length cap]
      rw [Int.toNat_of_nonneg u1.1]
theorem cells_each {a : Addr} {n : Nat} {cs : List Value} (h : w.cells? base a n = some cs) {j : Nat} {c : Value} (hj : cs[j]? = some c) : w.cell? (a.add j) = some c := by
  obtain ⟨h1, h2, h3⟩ := World.cells?_some h
  have hl : j < n := by
    have := (List.getElem?_eq_some_iff.1 hj).1
    omega
  rw [h3 j hl, hj]
theorem acts_of_trod {fuel : Nat} {a : Option Addr} {len cap : Nat} {y : DataW H × List MemPlace} (h : DataW.trod enc Try.prog w base spare held fuel 44 [.slice a len cap] = some y) :
    ∃ l : List PAct, len = l.length ∧ ActsRd w (.slice a l.length cap) l := by
  rcases DataW.trod_slice Try.underlying44 h with ⟨hcs, _⟩ | ⟨b, len', cap', elems, rest, n, _, hcs, rfl, hb, hl, hm, hlen, hel, _, _⟩
  · simp at hcs
    obtain ⟨rfl, rfl, rfl⟩ := hcs
    exact ⟨[], rfl, by simp, .inl ⟨rfl, rfl⟩⟩
  · simp at hcs
    obtain ⟨rfl, rfl, rfl⟩ := hcs
    have e5 : Try.prog.cellsOf 48 = 5 := by kernel_rfl
    have each : ∀ i, ∃ x : PAct, i < len → ActOk w x ∧ ∀ (j : Nat) c, x.cells[j]? = some c → w.cell? (b.add (i * 5 + j)) = some c := by
      intro i
      by_cases hi : i < len
      · have h1 := hel i hi
        rw [e5, List.getElem?_eq_getElem (by omega), Option.bind_eq_some_iff] at h1
        obtain ⟨cs, hcs, ht⟩ := h1
        obtain ⟨x, rfl, hok⟩ := act_of_trod ht
        refine ⟨x, fun _ => ⟨hok, fun j c hj => ?_⟩⟩
        rw [← Addr.add_add]
        exact cells_each hcs (by simpa using hj)
      · exact ⟨⟨0, ByteArray.empty, ByteArray.empty, 0, [], none, 0⟩, fun e => absurd e hi⟩
    obtain ⟨f, hf⟩ := Classical.axiomOfChoice each
    have hget : ∀ (i : Nat) x, ((List.range len).map f)[i]? = some x → i < len ∧ x = f i := by
      intro i x hx
      obtain ⟨hi, rfl⟩ := List.getElem?_eq_some_iff.1 hx
      simp at hi
      exact ⟨hi, by simp⟩
    refine ⟨(List.range len).map f, by simp, ?_, .inr ⟨b, cap, rfl, by simp; exact Nat.le_trans hl hm, ?_⟩⟩
    · intro x hx
      obtain ⟨i, hi, rfl⟩ := List.mem_map.1 hx
      exact (hf i (List.mem_range.1 hi)).1
    · intro i x hx
      obtain ⟨hi, rfl⟩ := hget i x hx
      have := (hf i hi).2
      refine ⟨?_, this⟩
      have h0 := cell_lt (this 0 _ rfl)
      rwa [add_block] at h0
end
end Go.Proofs.Ytigcokgjikkohaa
