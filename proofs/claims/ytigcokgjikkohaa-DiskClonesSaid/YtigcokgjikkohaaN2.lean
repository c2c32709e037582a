/- The walk of Names: a new slice of the names in order. -/
import Derived.Test.YtigcokgjikkohaaN1
import Derived.Maps.Ext
namespace Go.Proofs.Ytigcokgjikkohaa
open Go.RowKit Go.Maps Go.Sort
set_option linter.unusedVariables false
set_option linter.unusedSimpArgs false

theorem lt_of_before : ∀ {a b : List UInt8}, bytesBefore a b = true → a < b
  | [], [], h => by cases h
  | [], _ :: _, _ => List.nil_lt_cons _ _
  | _ :: _, [], h => by cases h
  | x :: r, y :: s, h => by
    simp only [bytesBefore, Bool.or_eq_true, decide_eq_true_eq, Bool.and_eq_true, beq_iff_eq] at h
    rw [List.cons_lt_cons_iff]
    rcases h with h | ⟨h1, h2⟩
    · exact .inl h
    · exact .inr ⟨h1, lt_of_before h2⟩
/-- Names in rising order. -/
def Rising (l : Pd.Names) : Prop := l.Pairwise fun p q => Pd.nbef p.1 q.1 = true
theorem names_rising {w : World} {b n : Nat} {addr : Nat → Nat} {l : Pd.Names} (h : namesAt w b n addr l) : Rising l := by
  obtain ⟨es, he, hp, _⟩ := World.ownsMap.canon h lawS
  unfold toD at he
  simp only [DataW.map.injEq] at he
  subst he
  rw [List.pairwise_map] at hp
  exact hp
theorem sorted_keys {l : Pd.Names} (addr : Nat → Nat) (h : Rising l) {ss : List (List UInt8)} (hp : ss.Perm (strKeys (toD addr l))) : (ss.mergeSort fun x y => decide (x ≤ y)).map Go.Proofs.encStr = l.map fun e => Value.string e.1 := by
  have h1 : strKeys (toD addr l) = l.map fun e => e.1.data.toList := by
    show (l.map (entL addr)).map (fun p => strOf p.1) = _
    rw [List.map_map]
    rfl
  have h2 : (l.map fun e => e.1.data.toList).Pairwise fun a b => leB a b = true := by
    rw [List.pairwise_map]
    exact h.imp (fun {p q} hpq => by simpa [leB] using List.le_of_lt (lt_of_before hpq))
  have h3 : (ss.mergeSort fun x y => decide (x ≤ y)) = l.map fun e => e.1.data.toList := by
    have := mergeSort_of_perm hp
    rw [h1] at this
    rw [List.mergeSort_of_pairwise h2] at this
    exact this
  rw [h3, List.map_map]
  rfl
/-- A slice of strings that has just been made. -/
def StrsAt (w : World) (B : Nat) (v : Value) (l : List ByteArray) : Prop := w.ownsRow B 9 1 v l.length (l.map Value.string) ∧ (v = .slice none 0 0 ↔ l = [])
theorem sorted_names {w : World} {b n : Nat} {addr : Nat → Nat} {l : Pd.Names} (h : namesAt w b n addr l) (hl : l.length ≤ 1000000) :
    Calls Try.prog 47 #[.func (.func 64) #[] #[.pointer (some ⟨w.heap.size, 0, none⟩)]] (w.alloc (.cells #[.map (some b)] 69)) fun e w' => ∃ v, e = .returned v ∧ StrsAt w' w.heap.size v (l.map (·.1)) ∧ Fr (fun _ => False) w w' := by
  refine (sorted_core b n (toD addr l) ptrEl w h (by rw [toD_size]; unfold maxLen; omega) (by rw [toD_size]; omega)).mono ?_
  rintro e w' ⟨v, ss, rfl, hp, hrow, hnil, hb⟩
  rw [sorted_keys addr (names_rising h) hp] at hrow
  have hlen : ss.length = l.length := by
    have := hp.length_eq
    rw [this]
    simp [strKeys, toD]
  rw [hlen] at hrow
  refine ⟨v, rfl, ⟨?_, ?_⟩, ?_⟩
  · rw [List.length_map, List.map_map]
    obtain ⟨h1, h2⟩ := hrow
    refine ⟨h1, ?_⟩
    rcases h2 with h2 | ⟨g, cap, cur, h3, h4, h5⟩
    · exact .inl h2
    · exact .inr ⟨g, cap, cur, h3, by rw [World.size_alloc] at h4; omega, h5⟩
  · rw [hnil, ← List.length_eq_zero_iff, ← List.length_eq_zero_iff, List.length_map, hlen]
  · have h1 : Fr (fun _ => False) w (w.alloc (.cells #[.map (some b)] 69)) := (Fr.refl _ _).alloc _
    exact h1.trans (S' := fun _ => False) ⟨hb.os, hb.tape, hb.output, hb.size, fun k hk _ => hb.block k hk⟩ (fun _ e => .inl e)
section
variable {w w' : World} {F G : Nat → Prop} {d nb db : Nat} {pv : Value} {xs : List Value} {addr : Nat → Nat} {L : Nat → Prop} {left : Int} {s : Pd.PD}
set_option maxHeartbeats 400000 in
theorem names_nil (w : World) : Calls Try.prog 20 #[.pointer none] w fun e w' => e = .returned (.slice none 0 0) ∧ w = w' := by
  go_enter Try.func20, Try.ntmps20
  go_wp2_with (go_at_call 37; refine (ready_nil _).mono ?_; rintro e w' ⟨rfl, rfl⟩)
  go_ret
  exact ⟨rfl, rfl⟩
set_option maxHeartbeats 1000000 in
theorem names_any (h : DiskAt w F G d s) {n : Nat} (hi : Pd.Inv n s) : Calls Try.prog 20 #[.pointer (some ⟨d, 0, none⟩)] w fun e w' => ∃ v, e = .returned v ∧ StrsAt w' w.heap.size v s.list ∧ Fr (fun _ => False) w w' := by
  obtain ⟨nb, db, pv, xs, addr, L, left, h⟩ := h
  obtain ⟨h0, h1, h2, h3, h4, h5, h6⟩ := h.c1
  unfold Pd.PD.list
  cases hd : s.down with
  | true =>
    rw [hd] at h6
    clear h hd
    go_enter Try.func20, Try.ntmps20
    go_wp2_with (go_at_call 37; refine (ready_down h6).mono ?_; rintro e w' ⟨rfl, rfl⟩)
    go_ret
    exact ⟨_, rfl, ⟨World.ownsRow_nil _ _ _ _, by simp⟩, Fr.refl _ _⟩
  | false =>
    rw [hd] at h6
    have hle := hi.rep.len'
    have hs := sorted_names h.hn (by omega)
    have HS := Lib.hid hs
    clear h hd hs
    obtain ⟨l, hl⟩ : ∃ l : List ByteArray, s.names.map (·.1) = l := ⟨_, rfl⟩
    rw [hl] at HS
    simp only [Bool.false_eq_true, if_false, hl]
    clear hl
    go_enter Try.func20, Try.ntmps20
    go_wp2_with (first
      | (go_at_call 37; refine (ready_up h6).mono ?_; rintro e w' ⟨rfl, rfl⟩)
      | (go_at_call 48; refine (keys_any _ _).mono ?_; rintro e w' ⟨rfl, rfl⟩)
      | (go_at_call 47; refine HS.out.mono ?_; rintro e w1 ⟨v, rfl, hv, hf1⟩))
    go_ret
    exact ⟨v, rfl, hv, hf1⟩
end
end Go.Proofs.Ytigcokgjikkohaa
