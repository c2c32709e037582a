/- The model's used, has. -/
import Derived.Test.YtigcokgjikkohaaMo5
import Derived.Deep.QuietTactic
import Derived.BigQuiet
import Derived.IntWalk
namespace Go.Proofs.Ytigcokgjikkohaa
open Go.RowKit Go.Maps Go.Sort
set_option linter.unusedVariables false
set_option linter.unusedSimpArgs false
theorem usedBy_snoc (fs : List Pd.PFile) (l : Pd.Names) (e : ByteArray × Nat) : Pd.usedBy fs (l ++ [e]) = Pd.usedBy fs l + (Pd.fileAt fs e.2).data.size := by
  simp [Pd.usedBy]
theorem usedBy_app (fs : List Pd.PFile) (a b : Pd.Names) : Pd.usedBy fs (a ++ b) = Pd.usedBy fs a + Pd.usedBy fs b := by
  simp [Pd.usedBy]
theorem usedBy_take (fs : List Pd.PFile) (l : Pd.Names) (j : Nat) : Pd.usedBy fs (l.take j) ≤ Pd.usedBy fs l := by
  have h := usedBy_app fs (l.take j) (l.drop j)
  rw [List.take_append_drop] at h
  omega
theorem fileAt_get {fs : List Pd.PFile} {k : Nat} (h : k < fs.length) : fs[k]? = some (Pd.fileAt fs k) := by
  unfold Pd.fileAt
  rw [List.getD_eq_getElem?_getD, List.getElem?_eq_getElem h]
  rfl
set_option maxRecDepth 100000 in
set_option maxHeartbeats 2000000 in
theorem mused_any {w : World} {M : Nat → Prop} {m n : Nat} {s : Pd.PD} (h : ModelAt w M m s) (hi : Pd.Inv n s) : Calls Try.prog 50 #[.pointer (some ⟨m, 0, none⟩)] w fun e w' => e = .returned (.int .i64 s.used) ∧ ∃ q, w' = w.drewN q := by
  obtain ⟨fv, nv, dv, pv, p⟩ := h
  obtain ⟨af, capf, rfl, _⟩ := p.hf.slice
  obtain ⟨an, capn, rfl, _⟩ := p.hn.slice
  obtain ⟨_, _, _, c3, c4, _, _⟩ := p.cells
  have hub := hi.used_le
  have hlen := p.hn.2.1
  have HNM := Lib.hid hi.nm
  have HF := Lib.hid p.hf
  have HN := Lib.hid p.hn
  clear p hi
  go_enter Try.func50, Try.ntmps50
  go_upto_region 3 with (fail)
  go_loopw [3, 4] (fun x i wr => ∃ (j q : Nat), x = .int .i64 (Pd.usedBy s.files (s.names.take j)) ∧ i = .int .i64 j ∧ j ≤ s.names.length ∧ wr = w.drewN q) (fun x i wr => s.names.length - (intOf i).toNat)
  case atStart => exact ⟨0, 0, rfl, rfl, Nat.zero_le _, rfl⟩
  case round =>
    obtain ⟨j, q, rfl, rfl, hj, rfl⟩ := hrel
    have hut := usedBy_take s.files s.names j
    have hu2 : Pd.usedBy s.files s.names ≤ 1073741824 := hub
    by_cases hlt : j < s.names.length
    · have hx : s.names[j]? = some s.names[j] := List.getElem?_eq_getElem hlt
      have hk : s.names[j].2 < s.files.length := (HNM.out _ (List.getElem_mem hlt)).2
      have hsn : s.names.take (j + 1) = s.names.take j ++ [s.names[j]] := by rw [List.take_add_one, hx]; rfl
      generalize s.names[j] = e at hx hk hsn
      have hut2 := usedBy_take s.files s.names (j + 1)
      rw [hsn, usedBy_snoc] at hut2
      obtain ⟨e1, e2⟩ := entV_get hx
      obtain ⟨b, c, rfl, hc, _, _, d0, d1⟩ := HN.out.two hlt e1 e2
      obtain ⟨g1, g2⟩ := filV_get (fileAt_get hk)
      obtain ⟨b', c', rfl, hc', _, _, d2, d3⟩ := HF.out.two hk g1 g2
      have hk' : (e.2 : Int) < (s.files.length : Int) := by omega
      have hj' : (j : Int) < (s.names.length : Int) := by omega
      have hu3 := usedBy_snoc s.files (s.names.take j) e
      rw [← hsn] at hu3
      have HU3 := Lib.hid hu3
      have hsum : IntKind.i64.wrap ((Pd.usedBy s.files (s.names.take j) : Int) + ((Pd.fileAt s.files e.2).data.size : Int)) = (Pd.usedBy s.files (s.names.take j) : Int) + ((Pd.fileAt s.files e.2).data.size : Int) := IntWalk.i64_in _ (by omega)
      clear e1 e2 g1 g2 hsn hut2 hu3
      go_upto_region 5 with (fail)
      refine wp_region_quiet_lit (by kernel_rfl) (by kernel_rfl) ?_
      iterate 19 (refine (wpQuiet_step (fun K hK => ?_) : _); go_simp; refine hK _ ?_; clear hK K)
      refine (wpQuiet_nil ?_ : _)
      intro _ hw'
      obtain ⟨nq, hw''⟩ := hw'
      subst hw''
      go_wp2
      refine ⟨⟨j + 1, q + nq, by rw [HU3.out]; go_num, by go_num, by omega, rfl⟩, by simp [intOf]; omega⟩
    · obtain rfl : j = s.names.length := by omega
      have hr : Pd.usedBy s.files (s.names.take s.names.length) = s.used := by rw [List.take_length]; rfl
      go_wp2
      go_ret
      exact ⟨by first | rfl | (rw [hr]; rfl) | rw [hr], q, rfl⟩
set_option maxRecDepth 100000 in
set_option maxHeartbeats 2000000 in
theorem mhas_any {w : World} {M : Nat → Prop} {m : Nat} {s : Pd.PD} (h : ModelAt w M m s) (k : ByteArray) : Calls Try.prog 34 #[.pointer (some ⟨m, 0, none⟩), .string k] w fun e w' => e = .returned (.bool (!s.down && (Pd.find s.names k).isSome)) ∧ w = w' := by
  obtain ⟨fv, nv, dv, pv, p⟩ := h
  obtain ⟨an, capn, rfl, _⟩ := p.hn.slice
  obtain ⟨_, _, c2, _, c4, _, _⟩ := p.cells
  have HN := Lib.hid p.hn
  clear p
  by_cases hd : s.down = true
  · rw [hd] at c2
    go_enter Try.func34, Try.ntmps34
    go_wp2
    go_ret
    exact ⟨by rw [hd]; rfl, rfl⟩
  · have hd : s.down = false := by simpa using hd
    rw [hd] at c2
    have hr : (!s.down && (Pd.find s.names k).isSome) = decide (0 ≤ fnd s.names k) := by
      rw [hd]
      unfold fnd
      cases Pd.find s.names k with
      | none => rfl
      | some i => simp
    rw [hr]
    clear hr hd
    go_enter Try.func34, Try.ntmps34
    go_wp2_with (go_at_call 52; refine (mfind_any HN.out k).mono ?_; rintro e w' ⟨rfl, rfl⟩)
    go_ret
    exact ⟨rfl, rfl⟩
end Go.Proofs.Ytigcokgjikkohaa
