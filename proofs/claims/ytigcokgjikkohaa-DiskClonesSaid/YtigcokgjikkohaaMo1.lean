/- The model's rows: slices that are only read, as flat lists of values; find. -/
import Derived.Test.YtigcokgjikkohaaAc2
namespace Go.Proofs.Ytigcokgjikkohaa
open Go.RowKit Go.Maps Go.Sort
set_option linter.unusedVariables false
set_option linter.unusedSimpArgs false
/-- v is a slice of n elements of sz cells each, whose values are ys, in blocks of M. -/
def RdIn (w : World) (M : Nat → Prop) (sz : Nat) (v : Value) (n : Nat) (ys : List Value) : Prop :=
  ys.length = n * sz ∧ n ≤ 1000000000000 ∧ ((v = .slice none 0 0 ∧ n = 0) ∨
    ∃ (a : Addr) (cap : Nat), v = .slice (some a) n cap ∧ n ≤ cap ∧ cap ≤ maxLen ∧ M a.block ∧ a.block < w.heap.size ∧ ∀ (j : Nat) u, ys[j]? = some u → w.cell? (a.add j) = some u)
def entV : Pd.Names → List Value
  | [] => []
  | e :: r => .string e.1 :: .int .i64 e.2 :: entV r
def filV : List Pd.PFile → List Value
  | [] => []
  | f :: r => .string f.data :: .int .i64 f.dur :: filV r
section
variable {w w' : World} {M S : Nat → Prop} {sz n : Nat} {v : Value} {ys : List Value}
theorem RdIn.kept (h : RdIn w M sz v n ys) (hf : Fr S w w') (hS : ∀ b, M b → b < w.heap.size → ¬ S b) : RdIn w' M sz v n ys := by
  refine ⟨h.1, h.2.1, ?_⟩
  rcases h.2.2 with h1 | ⟨a, cap, h1, h2, h3, h4, h5, h6⟩
  · exact .inl h1
  · exact .inr ⟨a, cap, h1, h2, h3, h4, Nat.lt_of_lt_of_le h5 hf.size, fun j u hj => (hf.cell (by rw [add_block]; exact h5) (by rw [add_block]; exact hS _ h4 h5)).trans (h6 j u hj)⟩
theorem RdIn.mono {M' : Nat → Prop} (h : RdIn w M sz v n ys) (hM : ∀ b, M b → b < w.heap.size → M' b) : RdIn w M' sz v n ys := by
  refine ⟨h.1, h.2.1, ?_⟩
  rcases h.2.2 with h1 | ⟨a, cap, h1, h2, h3, h4, h5, h6⟩
  · exact .inl h1
  · exact .inr ⟨a, cap, h1, h2, h3, hM _ h4 h5, h5, h6⟩
theorem RdIn.slice (h : RdIn w M sz v n ys) : ∃ a cap, v = .slice a n cap ∧ n ≤ cap := by
  rcases h.2.2 with ⟨rfl, rfl⟩ | ⟨a, cap, rfl, h2, _⟩
  · exact ⟨none, 0, rfl, Nat.le_refl _⟩
  · exact ⟨some a, cap, rfl, h2⟩
theorem RdIn.nil (w : World) (M : Nat → Prop) (sz : Nat) : RdIn w M sz (.slice none 0 0) 0 [] := ⟨by simp, Nat.zero_le _, .inl ⟨rfl, rfl⟩⟩
theorem RdIn.of_row {base : Nat} {e : TypeId} (h : w.ownsRow base e sz v n ys) (hn : n ≤ 1000000000000) (hM : ∀ b, v.ownBlock = some b → M b) : RdIn w M sz v n ys := by
  refine ⟨h.1, hn, ?_⟩
  rcases h.2 with h1 | ⟨g, cap, cur, rfl, hb, hg, hnc, hcm, h5, h6⟩
  · exact .inl h1
  · refine .inr ⟨⟨g, 0, none⟩, cap, rfl, hnc, hcm, hM g rfl, lt_of_some hg, fun j u hj => ?_⟩
    have ha : (⟨g, 0, none⟩ : Addr).add j = ⟨g, j, none⟩ := by
      unfold Addr.add
      split
      · rename_i e; rw [e]
      · rw [Nat.zero_add]
    rw [ha, cell_at hg j]
    subst h6
    obtain ⟨h7, h8⟩ := List.getElem?_eq_some_iff.1 hj
    rw [List.getElem_take] at h8
    have h9 : j < cur.size := by simp at h7; omega
    rw [Array.getElem?_eq_getElem h9]
    exact congrArg some h8
theorem length_entV : ∀ l : Pd.Names, (entV l).length = l.length * 2
  | [] => rfl
  | e :: r => by simp only [entV, List.length_cons, length_entV r]; omega
theorem entV_append : ∀ l r : Pd.Names, entV (l ++ r) = entV l ++ entV r
  | [], r => rfl
  | e :: l, r => by simp only [List.cons_append, entV, entV_append l r]
theorem entV_get : ∀ {l : Pd.Names} {i : Nat} {e : ByteArray × Nat}, l[i]? = some e → (entV l)[i * 2]? = some (.string e.1) ∧ (entV l)[i * 2 + 1]? = some (.int .i64 e.2)
  | [], _, _, h => by simp at h
  | x :: r, 0, e, h => by simp at h; subst h; exact ⟨rfl, rfl⟩
  | x :: r, i + 1, e, h => by
    have := entV_get (l := r) (i := i) (e := e) (by simpa using h)
    rw [show (i + 1) * 2 = i * 2 + 1 + 1 by omega]
    simpa [entV] using this
theorem length_filV : ∀ l : List Pd.PFile, (filV l).length = l.length * 2
  | [] => rfl
  | e :: r => by simp only [filV, List.length_cons, length_filV r]; omega
theorem filV_append : ∀ l r : List Pd.PFile, filV (l ++ r) = filV l ++ filV r
  | [], r => rfl
  | e :: l, r => by simp only [List.cons_append, filV, filV_append l r]
theorem filV_get : ∀ {l : List Pd.PFile} {i : Nat} {e : Pd.PFile}, l[i]? = some e → (filV l)[i * 2]? = some (.string e.data) ∧ (filV l)[i * 2 + 1]? = some (.int .i64 e.dur)
  | [], _, _, h => by simp at h
  | x :: r, 0, e, h => by simp at h; subst h; exact ⟨rfl, rfl⟩
  | x :: r, i + 1, e, h => by
    have := filV_get (l := r) (i := i) (e := e) (by simpa using h)
    rw [show (i + 1) * 2 = i * 2 + 1 + 1 by omega]
    simpa [filV] using this
/-- The i-th element of a row of pairs. -/
theorem RdIn.two {a : Option Addr} {cap : Nat} (h : RdIn w M 2 (.slice a n cap) n ys) {i : Nat} (hi : i < n) {x y : Value} (hx : ys[i * 2]? = some x) (hy : ys[i * 2 + 1]? = some y) :
    ∃ b c : Addr, a = some b ∧ b.add (i * 2) = c ∧ M c.block ∧ c.block < w.heap.size ∧ w.cell? c = some x ∧ w.cell? ⟨c.block, c.off + 1, none⟩ = some y := by
  rcases h.2.2 with ⟨_, rfl⟩ | ⟨b, cap', h1, _, _, h4, h5, h6⟩
  · cases hi
  · cases h1
    have h1 := h6 _ _ hy
    rw [← Addr.add_add] at h1
    exact ⟨b, _, rfl, rfl, by rw [add_block]; exact h4, by rw [add_block]; exact h5, h6 _ _ hx, h1⟩
theorem toList_inj {a b : ByteArray} : a.toList = b.toList ↔ a = b := by
  rw [ByteArray.toList_eq, ByteArray.toList_eq]
  constructor
  · intro h; cases a; cases b; simpa using h
  · rintro rfl; rfl
def fnd (l : Pd.Names) (k : ByteArray) : Int := match Pd.find l k with | some i => (i : Int) | none => -1
theorem find_at {l : Pd.Names} {k : ByteArray} {i : Nat} {e : ByteArray × Nat} (hi : l[i]? = some e) (hl : ∀ x ∈ l.take i, x.1 ≠ k) (he : e.1 = k) : Pd.find l k = some e.2 := by
  induction l generalizing i with
  | nil => simp at hi
  | cons x r ih =>
    match i, hi with
    | 0, hi =>
      simp at hi
      subst hi
      simp [Pd.find, he]
    | i + 1, hi =>
      have hx : ¬ x.1 = k := hl x (by simp)
      have := ih (i := i) (by simpa using hi) (fun y hy => hl y (by simp [hy]))
      unfold Pd.find at this ⊢
      simpa [List.find?_cons, hx] using this
theorem find_out {l : Pd.Names} {k : ByteArray} (hl : ∀ x ∈ l, x.1 ≠ k) : Pd.find l k = none := by
  unfold Pd.find
  rw [Option.map_eq_none_iff, List.find?_eq_none]
  intro x hx
  simpa using hl x hx
set_option maxRecDepth 100000 in
set_option maxHeartbeats 2000000 in
theorem mfind_any {w : World} {M : Nat → Prop} {v : Value} {l : Pd.Names} (h : RdIn w M 2 v l.length (entV l)) (k : ByteArray) : Calls Try.prog 52 #[v, .string k] w fun e w' => e = .returned (.int .i64 (fnd l k)) ∧ w = w' := by
  obtain ⟨a, cap, rfl, _⟩ := h.slice
  have hlen := h.2.1
  have H := Lib.hid h
  clear h
  go_enter Try.func52, Try.ntmps52
  go_upto_region 2 with (fail)
  go_loopw [5] (fun i wr => ∃ (j : Nat), i = .int .i64 j ∧ j ≤ l.length ∧ (∀ x ∈ l.take j, x.1 ≠ k) ∧ wr = w) (fun i wr => l.length - (intOf i).toNat)
  case atStart => exact ⟨0, rfl, Nat.zero_le _, by simp, rfl⟩
  case round =>
    obtain ⟨j, rfl, hj, hall, rfl⟩ := hrel
    have HALL := Lib.hid hall
    clear hall
    by_cases hlt : j < l.length
    · have hx : l[j]? = some l[j] := List.getElem?_eq_getElem hlt
      generalize l[j] = e at hx
      obtain ⟨e1, e2⟩ := entV_get hx
      obtain ⟨b, c, rfl, hc, _, _, c0, c1⟩ := H.out.two hlt e1 e2
      clear e1 e2
      by_cases he : e.1.toList = k.toList
      · have hr : fnd l k = e.2 := by unfold fnd; rw [find_at hx HALL.out (toList_inj.1 he)]
        go_wp2
        go_ret
        exact ⟨by first | rfl | (rw [hr]; rfl) | rw [hr], by first | rfl | trivial⟩
      · have heb : (e.1.toList == k.toList) = false := by simpa using he
        go_wp2
        refine ⟨⟨j + 1, by go_num, by omega, ?_, by first | rfl | trivial⟩, by simp [intOf]; omega⟩
        intro y hy
        rw [List.take_add_one, hx] at hy
        rcases List.mem_append.1 hy with hy | hy
        · exact HALL.out y hy
        · simp at hy; subst hy; exact fun e => he (by rw [e])
    · obtain rfl : j = l.length := by omega
      have hr : fnd l k = -1 := by
        have := HALL.out
        rw [List.take_length] at this
        unfold fnd; rw [find_out this]
      go_wp2
      go_ret
      exact ⟨by first | rfl | (rw [hr]; rfl) | rw [hr], by first | rfl | trivial⟩
end
end Go.Proofs.Ytigcokgjikkohaa
