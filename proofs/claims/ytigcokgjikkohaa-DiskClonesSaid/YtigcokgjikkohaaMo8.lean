/- The model's rename and remove. -/
import Derived.Test.YtigcokgjikkohaaMo6
import Derived.Test.YtigcokgjikkohaaMo7
namespace Go.Proofs.Ytigcokgjikkohaa
open Go.RowKit Go.Maps Go.Sort
set_option linter.unusedVariables false
set_option linter.unusedSimpArgs false
section
variable {w w' : World} {M : Nat → Prop} {m n : Nat} {s : Pd.PD}
theorem ModelAt.names (h : ModelAt w M m s) : ∃ a cap, w.cell? ⟨m, 4, none⟩ = some (.slice a s.names.length cap) ∧ w.cell? ⟨m, 2, none⟩ = some (.bool s.down) ∧ RdIn w M 2 (.slice a s.names.length cap) s.names.length (entV s.names) := by
  obtain ⟨fv, nv, dv, pv, p⟩ := h
  obtain ⟨an, capn, rfl, _⟩ := p.hn.slice
  exact ⟨an, capn, p.cells.2.2.2.2.1, p.cells.2.2.1, p.hn⟩
theorem fnd_some {l : Pd.Names} {k : ByteArray} {i : Nat} (h : Pd.find l k = some i) : fnd l k = i := by unfold fnd; rw [h]
theorem fnd_none {l : Pd.Names} {k : ByteArray} (h : Pd.find l k = none) : fnd l k = -1 := by unfold fnd; rw [h]
theorem tick_bounds (hi : Pd.Inv n s) (hn : n < 1000000) : s.tick.2.names.length ≤ 1000000 ∧ s.tick.2.pending.length ≤ 1000000 := by
  have h := hi.tick
  have h1 := h.rep.len'
  have h2 := h.pen
  omega
theorem mapply_ren (h : ModelAt w M m s) (a b : ByteArray) (k : Nat) (ha : 0 < a.size ∧ 0 < b.size) (hn : s.names.length ≤ 1000000) (hp : s.pending.length ≤ 1000000) :
    Calls Try.prog 55 #[.pointer (some ⟨m, 0, none⟩), .agg #[.string a, .string b, .int .i64 k]] w fun e w' => e = .returned (.tuple #[]) ∧ ModelTo w M m (s.apply (.ren a b k)) w' :=
  mapply_any h (.ren a b k) ha hn hp
theorem mapply_rem (h : ModelAt w M m s) (a : ByteArray) (ha : 0 < a.size) (hn : s.names.length ≤ 1000000) (hp : s.pending.length ≤ 1000000) :
    Calls Try.prog 55 #[.pointer (some ⟨m, 0, none⟩), .agg #[.string a, .string ⟨#[]⟩, .int .i64 0]] w fun e w' => e = .returned (.tuple #[]) ∧ ModelTo w M m (s.apply (.rem a)) w' :=
  mapply_any h (.rem a) ha hn hp
theorem mapply_set (h : ModelAt w M m s) (a : ByteArray) (k : Nat) (ha : 0 < a.size) (hn : s.names.length ≤ 1000000) (hp : s.pending.length ≤ 1000000) :
    Calls Try.prog 55 #[.pointer (some ⟨m, 0, none⟩), .agg #[.string ⟨#[]⟩, .string a, .int .i64 k]] w fun e w' => e = .returned (.tuple #[]) ∧ ModelTo w M m (s.apply (.set a k)) w' :=
  mapply_any h (.set a k) ha hn hp
end
set_option maxRecDepth 100000 in
set_option maxHeartbeats 2000000 in
theorem mrename_any {w : World} {M : Nat → Prop} {m n : Nat} {s : Pd.PD} (h : ModelAt w M m s) (hi : Pd.Inv n s) (hn : n < 1000000) (a b : ByteArray) (hb : b.size ≤ 9223372036854775807) :
    Calls Try.prog 29 #[.pointer (some ⟨m, 0, none⟩), .string a, .string b] w fun e w' => e = .returned (.int .i64 (s.rename a b).1) ∧ ModelTo w M m (s.rename a b).2 w' := by
  obtain ⟨an, capn, c4, c2, hr⟩ := h.names
  have H := Lib.hid h
  have HR := Lib.hid hr
  have HTB := Lib.hid (tick_bounds hi hn)
  clear h hr
  by_cases hd : s.down = true
  · have e : s.rename a b = (18, s) := by unfold Pd.PD.rename; rw [if_pos hd]
    rw [e]
    rw [hd] at c2
    clear hd e
    go_enter Try.func29, Try.ntmps29
    go_wp2_with (go_at_call 52; refine (mfind_any HR.out a).mono ?_; rintro e w' ⟨rfl, rfl⟩)
    go_ret
    exact ⟨rfl, ModelTo.same H.out (Fr.refl _ _)⟩
  · have hd : s.down = false := by simpa using hd
    rw [hd] at c2
    rcases hf : Pd.find s.names a with _ | k
    · have e : s.rename a b = (10, s) := by unfold Pd.PD.rename; rw [if_neg (by rw [hd]; decide), hf]
      have hk := fnd_none hf
      rw [e]
      clear hd e hf
      go_enter Try.func29, Try.ntmps29
      go_wp2_with (go_at_call 52; refine (mfind_any HR.out a).mono ?_; rintro e w' ⟨rfl, rfl⟩; rw [hk])
      go_ret
      exact ⟨rfl, ModelTo.same H.out (Fr.refl _ _)⟩
    · have hk := fnd_some hf
      have hkn : ¬ ((k : Int) < 0) := by omega
      have ha : 0 < a.size := (Pd.isName_size (hi.nm _ (Pd.find_mem hf)).1).1
      rcases hnm : Pd.isName b with _ | _
      · have e : s.rename a b = (11, s) := by unfold Pd.PD.rename; rw [if_neg (by rw [hd]; decide), hf]; dsimp only; rw [if_pos hnm]
        rw [e]
        clear hd e hf
        go_enter Try.func29, Try.ntmps29
        go_wp2_with (first
          | (go_at_call 53; refine (misName_any b _ hb).mono ?_; rintro e w' ⟨rfl, rfl⟩; rw [hnm])
          | (go_at_call 52; refine (mfind_any HR.out a).mono ?_; rintro e w' ⟨rfl, rfl⟩; rw [hk]))
        go_ret
        exact ⟨rfl, ModelTo.same H.out (Fr.refl _ _)⟩
      · have hb0 : 0 < b.size := (Pd.isName_size hnm).1
        have e : s.rename a b = (Pd.outc s.tick.1, s.tick.2.apply (.ren a b k)) := by unfold Pd.PD.rename; rw [if_neg (by rw [hd]; decide), hf]; dsimp only; rw [if_neg (by rw [hnm]; decide)]
        rw [e]
        clear hd e hf
        go_enter Try.func29, Try.ntmps29
        go_wp2_with (first
          | (go_at_call 56; refine (moutcome_any _ w2).mono ?_; rintro e w' ⟨rfl, rfl⟩)
          | (go_at_call 55; refine (mapply_ren H1.out.1 a b k ⟨ha, hb0⟩ HTB.out.1 HTB.out.2).mono ?_; rintro e w2 ⟨rfl, ht2⟩)
          | (go_at_call 54; refine (mfails_any H.out).mono ?_; rintro e w1 ⟨rfl, ht1⟩; have H1 := Lib.hid ht1; clear ht1)
          | (go_at_call 53; refine (misName_any b _ hb).mono ?_; rintro e w' ⟨rfl, rfl⟩; rw [hnm])
          | (go_at_call 52; refine (mfind_any HR.out a).mono ?_; rintro e w' ⟨rfl, rfl⟩; rw [hk]))
        go_ret
        exact ⟨rfl, H1.out.trans ht2⟩
set_option maxRecDepth 100000 in
set_option maxHeartbeats 2000000 in
theorem mremove_any {w : World} {M : Nat → Prop} {m n : Nat} {s : Pd.PD} (h : ModelAt w M m s) (hi : Pd.Inv n s) (hn : n < 1000000) (a : ByteArray) :
    Calls Try.prog 32 #[.pointer (some ⟨m, 0, none⟩), .string a] w fun e w' => e = .returned (.int .i64 (s.remove a).1) ∧ ModelTo w M m (s.remove a).2 w' := by
  obtain ⟨an, capn, c4, c2, hr⟩ := h.names
  have H := Lib.hid h
  have HR := Lib.hid hr
  have HTB := Lib.hid (tick_bounds hi hn)
  clear h hr
  by_cases hd : s.down = true
  · have e : s.remove a = (18, s) := by unfold Pd.PD.remove; rw [if_pos hd]
    rw [e]
    rw [hd] at c2
    clear hd e
    go_enter Try.func32, Try.ntmps32
    go_wp2
    go_ret
    exact ⟨rfl, ModelTo.same H.out (Fr.refl _ _)⟩
  · have hd : s.down = false := by simpa using hd
    rw [hd] at c2
    rcases hf : Pd.find s.names a with _ | k
    · have e : s.remove a = (10, s) := by unfold Pd.PD.remove; rw [if_neg (by rw [hd]; decide), hf]
      have hk := fnd_none hf
      rw [e]
      clear hd e hf
      go_enter Try.func32, Try.ntmps32
      go_wp2_with (go_at_call 52; refine (mfind_any HR.out a).mono ?_; rintro e w' ⟨rfl, rfl⟩; rw [hk])
      go_ret
      exact ⟨rfl, ModelTo.same H.out (Fr.refl _ _)⟩
    · have hk := fnd_some hf
      have hkn : ¬ ((k : Int) < 0) := by omega
      have ha : 0 < a.size := (Pd.isName_size (hi.nm _ (Pd.find_mem hf)).1).1
      have e : s.remove a = (Pd.outc s.tick.1, s.tick.2.apply (.rem a)) := by unfold Pd.PD.remove; rw [if_neg (by rw [hd]; decide), hf]
      rw [e]
      clear hd e hf
      go_enter Try.func32, Try.ntmps32
      go_wp2_with (first
        | (go_at_call 56; refine (moutcome_any _ w2).mono ?_; rintro e w' ⟨rfl, rfl⟩)
        | (go_at_call 55; refine (mapply_rem H1.out.1 a ha HTB.out.1 HTB.out.2).mono ?_; rintro e w2 ⟨rfl, ht2⟩)
        | (go_at_call 54; refine (mfails_any H.out).mono ?_; rintro e w1 ⟨rfl, ht1⟩; have H1 := Lib.hid ht1; clear ht1)
        | (go_at_call 52; refine (mfind_any HR.out a).mono ?_; rintro e w' ⟨rfl, rfl⟩; rw [hk]))
      go_ret
      exact ⟨rfl, H1.out.trans ht2⟩
end Go.Proofs.Ytigcokgjikkohaa
