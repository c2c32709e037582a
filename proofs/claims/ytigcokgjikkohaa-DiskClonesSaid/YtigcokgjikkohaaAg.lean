/- agrees: a disk and its model, both in one state, agree. -/
import Derived.Test.YtigcokgjikkohaaMo10
import Derived.Deep.RegionWith
import Derived.Deep.RegionHeld3
namespace Go.Proofs.Ytigcokgjikkohaa
open Go.RowKit Go.Maps Go.Sort
set_option linter.unusedVariables false
set_option linter.unusedSimpArgs false
theorem RdIn.one {w : World} {M : Nat → Prop} {n cap : Nat} {ys : List Value} {a : Option Addr} (h : RdIn w M 1 (.slice a n cap) n ys) {i : Nat} (hi : i < n) {x : Value} (hx : ys[i]? = some x) : ∃ b : Addr, a = some b ∧ b.block < w.heap.size ∧ w.cell? (b.add i) = some x := by
  rcases h.2.2 with ⟨_, rfl⟩ | ⟨b, cap', h1, _, _, _, h5, h6⟩
  · cases hi
  · cases h1
    exact ⟨b, rfl, h5, h6 _ _ hx⟩
theorem list_up {s : Pd.PD} (h : s.down = false) : s.list = s.names.map (·.1) := by unfold Pd.PD.list; rw [if_neg (by rw [h]; decide)]
theorem free_up {s : Pd.PD} (h : s.down = false) : s.free = s.cap - s.used := by unfold Pd.PD.free; rw [if_neg (by rw [h]; decide)]
theorem list_down {s : Pd.PD} (h : s.down = true) : s.list = [] := by unfold Pd.PD.list; rw [if_pos h]
theorem free_down {s : Pd.PD} (h : s.down = true) : s.free = 0 := by unfold Pd.PD.free; rw [if_pos h]
theorem DiskIn.drewN {B d n q : Nat} {w : World} {s : Pd.PD} (h : DiskIn B w d n s) : DiskIn B (w.drewN q) d n s := h.kept ((Fr.refl (fun _ => False) w).drewM q)
theorem before_irrefl (a : List UInt8) : bytesBefore a a = false := by
  rw [← Bool.not_eq_true]
  intro h
  exact before_asym a a h h
theorem disk_rising {B d n : Nat} {w : World} {s : Pd.PD} (h : DiskIn B w d n s) : s.names.Pairwise (fun p q => p.1 ≠ q.1) := by
  obtain ⟨_, F, G, ⟨nb, db, pv, xs, addr, L, left, p⟩, _⟩ := h
  have hr : Rising s.names := names_rising p.hn
  refine hr.imp (fun {p q} hpq e => ?_)
  unfold Pd.nbef at hpq
  rw [e, before_irrefl] at hpq
  cases hpq
set_option maxRecDepth 100000 in
set_option maxHeartbeats 4000000 in
theorem agrees_any {w : World} {M : Nat → Prop} {B d m n : Nat} {s : Pd.PD} (hD : DiskIn B w d n s) (hM : ModelAt w M m s) :
    Calls Try.prog 26 #[.pointer (some ⟨m, 0, none⟩), .pointer (some ⟨d, 0, none⟩)] w fun e w' => e = .returned (.bool true) ∧ Fr (fun _ => False) w w' := by
  obtain ⟨an, capn, c4, c2, hr⟩ := hM.names
  have HD := Lib.hid hD
  have HM := Lib.hid hM
  have hn64 : s.names.length ≤ 64 := hD.1.rep.len'
  by_cases hd : s.down = true
  · rw [hd] at c2
    have HL := Lib.hid (list_down hd)
    have HF := Lib.hid (free_down hd)
    have HDN := Lib.hid hd
    clear hD hM hr c4 hd
    go_enter Try.func26, Try.ntmps26
    go_upto_region 2 with (go_at_call 20; refine (names_in HD.out).mono ?_; rintro e w1 ⟨v, rfl, hv, hf1⟩)
    rw [HL.out] at hv
    obtain rfl : v = .slice none 0 0 := hv.2.2 rfl
    have hM1 := HM.out.kept hf1 (fun _ _ _ e => e) (fun e => e)
    have hc2 : w1.cell? ⟨m, 2, none⟩ = some (.bool true) := by obtain ⟨_, _, _, h2, _⟩ := hM1.names; rw [HDN.out] at h2; exact h2
    have HD1 := Lib.hid (HD.out.kept hf1)
    have hdn : ∀ W, DiskIn B W d n s → Calls Try.prog 21 #[.pointer (some ⟨d, 0, none⟩)] W fun e w' => e = .returned (.bool true) ∧ w' = W := fun W h => (down_in h).mono fun e w' ⟨h1, h2⟩ => ⟨by rw [h1, HDN.out], h2.symm⟩
    have HDC := Lib.hid hdn
    clear hM1 hv hdn c2
    go_quiet ((go_at_call 21; exact Calls.quiet_of_same (HDC.out _ HD1.out.drewN)))
    have hf0 := hf1.drewM nq
    have HD2 := Lib.hid (HD1.out.drewN (q := nq))
    go_wp2_with (go_at_call 19; refine (free_in HD2.out).mono ?_; rintro e w2 ⟨rfl, hf2⟩; rw [HF.out])
    go_ret
    exact ⟨rfl, hf0.trans hf2 (fun i e => e.elim)⟩
  · have hd : s.down = false := by simpa using hd
    rw [hd] at c2
    have hub := hD.1.used_le
    have hcp := hD.1.cap
    have HL := Lib.hid (list_up hd)
    have HF := Lib.hid (free_up hd)
    have HDN := Lib.hid hd
    clear hD hM hr c4 hd
    go_enter Try.func26, Try.ntmps26
    go_upto_region 2 with (go_at_call 20; refine (names_in HD.out).mono ?_; rintro e w1 ⟨v, rfl, hv, hf1⟩)
    rw [HL.out] at hv
    have hvr := RdIn.of_row (M := fun _ => True) hv.1 (by rw [List.length_map]; omega) (fun _ _ => trivial)
    rw [List.length_map] at hvr
    obtain ⟨av, capv, rfl, _⟩ := hvr.slice
    have hM1 := HM.out.kept hf1 (fun _ _ _ e => e) (fun e => e)
    have hc2 : w1.cell? ⟨m, 2, none⟩ = some (.bool false) := by obtain ⟨_, _, _, h2, _⟩ := hM1.names; rw [HDN.out] at h2; exact h2
    have HM1 := Lib.hid hM1
    have HVR := Lib.hid hvr
    have HD1 := Lib.hid (HD.out.kept hf1)
    have hdn : ∀ W, DiskIn B W d n s → Calls Try.prog 21 #[.pointer (some ⟨d, 0, none⟩)] W fun e w' => e = .returned (.bool false) ∧ w' = W := fun W h => (down_in h).mono fun e w' ⟨h1, h2⟩ => ⟨by rw [h1, HDN.out], h2.symm⟩
    have HDC := Lib.hid hdn
    clear hM1 hv hdn c2 hvr
    go_quiet ((go_at_call 21; exact Calls.quiet_of_same (HDC.out _ HD1.out.drewN)))
    go_upto_region 6 with (fail)
    have hfW := hf1.drewM nq
    have HMW := Lib.hid (HM1.out.drewN nq)
    have HDW := Lib.hid (HD1.out.drewN (q := nq))
    have HVW := Lib.hid (HVR.out.kept ((Fr.refl (fun _ => False) w1).drewM nq) (fun _ _ _ e => e))
    generalize w1.drewN nq = W at hfW HMW HDW HVW ⊢
    obtain ⟨fv, nv, dv, pv, pW⟩ := HMW.out
    obtain ⟨a4, k4, rfl, _⟩ := pW.hn.slice
    obtain ⟨e0, _, _, _, e4, _, _⟩ := pW.cells
    have PW := Lib.hid pW
    have HINV := Lib.hid HD.out.1
    have hsub : IntKind.i64.wrap ((s.cap : Int) - (s.used : Int)) = (s.cap : Int) - (s.used : Int) := IntWalk.i64_in _ (by omega)
    have hmax : max (0 : Int) ((s.cap : Int) - (s.used : Int)) = ((s.cap - s.used : Nat) : Int) := by omega
    clear hf1 HM1 HD1 HVR hc2 pW
    go_region_held3 (fun w' => w'.cell? ⟨m, 0, none⟩ = some (.int .i64 s.cap) ∧ w'.cell? ⟨m, 4, none⟩ = some (.slice a4 s.names.length k4))
      (first
        | exact ⟨e0', e4'⟩
        | go_keep)
      ((first
        | (go_at_call 50; refine (mused_any ⟨_, _, _, _, P2.out⟩ HINV.out).mono ?_; rintro e w3 ⟨rfl, q3, rfl⟩)
        | (go_at_call 19; refine (free_in (HDW.out.kept ((Fr.refl (fun _ => False) W).drew))).mono ?_; rintro e w2 ⟨rfl, hf2⟩; rw [HF.out]; have hf02 := ((Fr.refl (fun _ => False) W).drew).trans hf2 (fun i e => e.elim); have P2 := Lib.hid (PW.out.kept hf02 (fun _ _ _ e => e) (fun e => e)); obtain ⟨e0', _, _, _, e4', _, _⟩ := P2.out.cells)))
    have hfin := (hfW.trans hf02 (fun i e => e.elim)).drewM q3
    have P3 := Lib.hid (P2.out.kept ((Fr.refl (fun _ => False) w2).drewM q3) (fun _ _ _ e => e) (fun e => e))
    have HD3 := Lib.hid ((HDW.out.kept hf02).drewN (q := q3))
    have HV3 := Lib.hid ((HVW.out.kept hf02 (fun _ _ _ e => e)).kept ((Fr.refl (fun _ => False) w2).drewM q3) (fun _ _ _ e => e))
    have HRS := Lib.hid (disk_rising HD3.out)
    have HFIN := Lib.hid hfin
    clear hfW hf2 hf02 P2 e0 e4 PW HDW HVW HMW hfin
    generalize w2.drewN q3 = W2 at P3 HD3 HV3 HFIN ⊢
    obtain ⟨af, kf, rfl, _⟩ := P3.out.hf.slice
    obtain ⟨_, _, _, k3, k4', _, _⟩ := P3.out.cells
    go_upto_region 9 with (fail)
    go_loopw [6] (fun i wr => ∃ (j q : Nat), i = .int .i64 j ∧ j ≤ s.names.length ∧ wr = W2.drewN q) (fun i wr => s.names.length - (intOf i).toNat)
    case atStart => exact ⟨0, 0, rfl, Nat.zero_le _, rfl⟩
    case round =>
      obtain ⟨j, q, rfl, hj, rfl⟩ := hrel
      by_cases hlt : j < s.names.length
      · have hx : s.names[j]? = some s.names[j] := List.getElem?_eq_getElem hlt
        have hk : s.names[j].2 < s.files.length := (HINV.out.nm _ (List.getElem_mem hlt)).2
        have hsz : s.names[j].1.size ≤ 9223372036854775807 := by have := (Pd.isName_size (HINV.out.nm _ (List.getElem_mem hlt)).1).2; omega
        have hfd : Pd.find s.names s.names[j].1 = some s.names[j].2 := find_of_mem HRS.out (List.getElem_mem hlt)
        generalize s.names[j] = e at hx hk hfd hsz
        have hrd : s.read e.1 = ((Pd.fileAt s.files e.2).data, 0) := by unfold Pd.PD.read; rw [if_neg (by rw [HDN.out]; decide), hfd]
        obtain ⟨e1, e2⟩ := entV_get hx
        obtain ⟨b, c, rfl, hc, _, _, d0, d1⟩ := P3.out.hn.two hlt e1 e2
        obtain ⟨g1, g2⟩ := filV_get (fileAt_get hk)
        obtain ⟨b', c', rfl, hc', _, _, d2, d3⟩ := P3.out.hf.two hk g1 g2
        obtain ⟨bv, rfl, _, dv0⟩ := HV3.out.one hlt (x := .string e.1) (by rw [List.getElem?_map, List.getElem?_map, hx]; rfl)
        have hk' : (e.2 : Int) < (s.files.length : Int) := by omega
        have hj' : (j : Int) < (s.names.length : Int) := by omega
        have HRD := Lib.hid hrd
        clear e1 e2 g1 g2 hfd hrd
        go_upto_region 13 with (first
          | (go_at_call 33; refine (size_in HD3.out.drewN e.1 hsz).mono ?_; rintro e w' ⟨rfl, rfl⟩; rw [HRD.out])
          | (go_at_call 18; refine (read_in HD3.out.drewN e.1 hsz).mono ?_; rintro e w' ⟨rfl, rfl⟩; rw [HRD.out]))
        refine wp_region_quiet_lit (by kernel_rfl) (by kernel_rfl) ?_
        iterate 16 (refine (wpQuiet_step (fun K hK => ?_) : _); go_simp; refine hK _ ?_; clear hK K)
        refine (wpQuiet_nil ?_ : _)
        intro _ hw'
        obtain ⟨nq, hw''⟩ := hw'
        subst hw''
        go_upto_region 14 with (fail)
        refine wp_region_quiet_lit (by kernel_rfl) (by kernel_rfl) ?_
        iterate 32 (refine (wpQuiet_step (fun K hK => ?_) : _); go_simp; refine hK _ ?_; clear hK K)
        refine (wpQuiet_nil ?_ : _)
        intro _ hw'
        obtain ⟨nq, hw''⟩ := hw'
        subst hw''
        go_wp2
        exact ⟨⟨j + 1, _, by go_num, by omega, rfl⟩, by simp [intOf]; omega⟩
      · obtain rfl : j = s.names.length := by omega
        go_wp2
        go_ret
        exact ⟨rfl, HFIN.out.drewM q⟩
end Go.Proofs.Ytigcokgjikkohaa
