/- The model's changed. -/
import Derived.Test.YtigcokgjikkohaaMo3
namespace Go.Proofs.Ytigcokgjikkohaa
open Go.RowKit Go.Maps Go.Sort
set_option linter.unusedVariables false
set_option linter.unusedSimpArgs false
/-- A pending change as the model keeps it: the name that goes, the name that comes, the file. -/
def chTri : Pd.PChange → ByteArray × ByteArray × Nat
  | .set n f => (⟨#[]⟩, n, f)
  | .rem n => (n, ⟨#[]⟩, 0)
  | .ren s d f => (s, d, f)
def chV : List Pd.PChange → List Value
  | [] => []
  | c :: r => .string (chTri c).1 :: .string (chTri c).2.1 :: .int .i64 (chTri c).2.2 :: chV r
theorem length_chV : ∀ l : List Pd.PChange, (chV l).length = l.length * 3
  | [] => rfl
  | e :: r => by simp only [chV, List.length_cons, length_chV r]; omega
theorem chV_append : ∀ l r : List Pd.PChange, chV (l ++ r) = chV l ++ chV r
  | [], r => rfl
  | e :: l, r => by simp only [List.cons_append, chV, chV_append l r]
theorem chV_one (l : List Pd.PChange) : ∀ u ∈ chV l, u.oneCell' = true := by
  induction l with
  | nil => simp [chV]
  | cons e r ih =>
    intro u hu
    simp only [chV, List.mem_cons] at hu
    rcases hu with rfl | rfl | rfl | hu
    · rfl
    · rfl
    · rfl
    · exact ih u hu
theorem chV_get : ∀ {l : List Pd.PChange} {i : Nat} {c : Pd.PChange}, l[i]? = some c → (chV l)[i * 3]? = some (.string (chTri c).1) ∧ (chV l)[i * 3 + 1]? = some (.string (chTri c).2.1) ∧ (chV l)[i * 3 + 2]? = some (.int .i64 (chTri c).2.2)
  | [], _, _, h => by simp at h
  | x :: r, 0, e, h => by simp at h; subst h; exact ⟨rfl, rfl, rfl⟩
  | x :: r, i + 1, e, h => by
    have := chV_get (l := r) (i := i) (c := e) (by simpa using h)
    rw [show (i + 1) * 3 = i * 3 + 1 + 1 + 1 by omega]
    simpa [chV] using this
/-- The names in a change are not empty. -/
def chOk : Pd.PChange → Prop
  | .set n f => 0 < n.size
  | .rem n => 0 < n.size
  | .ren s d f => 0 < s.size ∧ 0 < d.size
theorem toList_ne {n : ByteArray} (h : 0 < n.size) : ¬ n.toList = [] := by
  rw [ByteArray.toList_eq]
  intro e
  have : n.data.toList.length = n.size := by simp
  rw [e] at this
  simp at this
  omega
theorem chOk_of {l : Pd.Names} {c : Pd.PChange} (h : Pd.okOn l c) : chOk c := by
  cases c with
  | set n f => exact (Pd.isName_size h).1
  | rem n => exact (Pd.isName_size h).1
  | ren s d f => exact ⟨(Pd.isName_size h.1).1, (Pd.isName_size h.2.1).1⟩
theorem EntTo.of {w w0 w' : World} {l : Pd.Names} {e : Ending} (h : EntTo w0 l e w') (hf : Fr (fun _ => False) w w0) : EntTo w l e w' :=
  let ⟨v, h1, h2, h3, h4⟩ := h
  ⟨v, h1, h2, fun b hb => Nat.le_trans hf.size (h3 b hb), hf.trans h4 (fun i e => e.elim)⟩
theorem ch_cells {w : World} {b : Nat} {a c d : Value} {t : TypeId} (h : w.heap[b]? = some (.cells #[a, c, d] t (0, 0))) : w.cell? ⟨b, 0, none⟩ = some a ∧ w.cell? ⟨b, 1, none⟩ = some c ∧ w.cell? ⟨b, 2, none⟩ = some d :=
  ⟨cell_at h 0, cell_at h 1, cell_at h 2⟩
set_option maxRecDepth 100000 in
set_option maxHeartbeats 2000000 in
theorem changed_any {w : World} {M : Nat → Prop} {v : Value} {l : Pd.Names} (h : RdIn w M 2 v l.length (entV l)) (hl : l.length ≤ 1000000) (c : Pd.PChange) (hc : chOk c) :
    Calls Try.prog 67 #[v, .agg #[.string (chTri c).1, .string (chTri c).2.1, .int .i64 (chTri c).2.2]] w (EntTo w (c.on l)) := by
  obtain ⟨a, cap, rfl, _⟩ := h.slice
  have H := Lib.hid h
  clear h
  cases c with
  | set n f =>
    have hn := toList_ne hc
    have hnb : (n.toList == []) = false := by simpa using hn
    show Calls Try.prog 67 #[_, .agg #[.string ⟨#[]⟩, .string n, .int .i64 f]] w (EntTo w (Pd.put l n f))
    have hb0 := heap_alloc_this w (.cells #[.string ⟨#[]⟩, .string n, .int .i64 f] 98 (0, 0))
    have hfa : Fr (fun _ => False) w (w.alloc (.cells #[.string ⟨#[]⟩, .string n, .int .i64 f] 98 (0, 0))) := (Fr.refl _ _).alloc _
    obtain ⟨x0, x1, x2⟩ := ch_cells hb0
    go_enter Try.func67, Try.ntmps67
    go_wp2_with (go_at_call 73; refine (with_any (H.out.kept hfa (fun b _ _ e => e)) n f).mono ?_; rintro e w1 ⟨v1, rfl, hrow1, hown1, hf1⟩)
    go_ret
    exact EntTo.of ⟨v1, rfl, hrow1, hown1, hf1⟩ hfa
  | rem n =>
    have hn := toList_ne hc
    have hnb : (n.toList == []) = false := by simpa using hn
    show Calls Try.prog 67 #[_, .agg #[.string n, .string ⟨#[]⟩, .int .i64 ((0 : Nat) : Int)]] w (EntTo w (Pd.del l n))
    have hb0 := heap_alloc_this w (.cells #[.string n, .string ⟨#[]⟩, .int .i64 ((0 : Nat) : Int)] 98 (0, 0))
    have hfa : Fr (fun _ => False) w (w.alloc (.cells #[.string n, .string ⟨#[]⟩, .int .i64 ((0 : Nat) : Int)] 98 (0, 0))) := (Fr.refl _ _).alloc _
    obtain ⟨x0, x1, x2⟩ := ch_cells hb0
    go_enter Try.func67, Try.ntmps67
    go_wp2_with (go_at_call 72; refine (without_any (H.out.kept hfa (fun b _ _ e => e)) n).mono ?_; rintro e w1 ⟨v1, rfl, hrow1, hown1, hf1⟩; have hb1 := (hf1.block _ (lt_of_some hb0) (fun e => e)).trans hb0; clear hb0; obtain ⟨x0, x1, x2⟩ := ch_cells hb1)
    go_ret
    exact EntTo.of ⟨v1, rfl, hrow1, hown1, hf1⟩ hfa
  | ren s d f =>
    have hn := toList_ne hc.1
    have hnb : (s.toList == []) = false := by simpa using hn
    have hn2 := toList_ne hc.2
    have hnb2 : (d.toList == []) = false := by simpa using hn2
    have hdl := Pd.length_del l s
    show Calls Try.prog 67 #[_, .agg #[.string s, .string d, .int .i64 f]] w (EntTo w (Pd.put (Pd.del l s) d f))
    have hb0 := heap_alloc_this w (.cells #[.string s, .string d, .int .i64 f] 98 (0, 0))
    have hfa : Fr (fun _ => False) w (w.alloc (.cells #[.string s, .string d, .int .i64 f] 98 (0, 0))) := (Fr.refl _ _).alloc _
    obtain ⟨x0, x1, x2⟩ := ch_cells hb0
    go_enter Try.func67, Try.ntmps67
    go_wp2_with (first
      | (go_at_call 73; refine (with_any (RdIn.of_row (M := fun _ => True) HR1.out (by omega) (fun _ _ => trivial)) d f).mono ?_; rintro e w2 ⟨v2, rfl, hrow2, hown2, hf2⟩)
      | (go_at_call 72; refine (without_any (H.out.kept hfa (fun b _ _ e => e)) s).mono ?_; rintro e w1 ⟨v1, rfl, hrow1, hown1, hf1⟩; have hb1 := (hf1.block _ (lt_of_some hb0) (fun e => e)).trans hb0; clear hb0; obtain ⟨x0, x1, x2⟩ := ch_cells hb1; have HR1 := Lib.hid hrow1; clear hrow1))
    go_ret
    exact EntTo.of ⟨v2, rfl, hrow2, hown2, hf2⟩ (hfa.trans hf1 (fun i e => e.elim))
end Go.Proofs.Ytigcokgjikkohaa
