/- The walk of Start over a disk that is down. -/
import Derived.Test.YtigcokgjikkohaaS3
namespace Go.Proofs.Ytigcokgjikkohaa
open Go.RowKit Go.Maps Go.Sort
set_option linter.unusedVariables false
set_option linter.unusedSimpArgs false
section
variable {w w' : World} {F G S : Nat → Prop} {d nb db : Nat} {pv : Value} {xs : List Value} {addr : Nat → Nat} {L : Nat → Prop} {left : Int} {s : Pd.PD} {cap : Nat} {l : Pd.Names} {fs : List Pd.PFile}
set_option maxRecDepth 100000 in
set_option maxHeartbeats 4000000 in
theorem start_down (h : DiskP w F G d nb db pv xs addr L left s) {n : Nat} (hi : Pd.Inv n s) (hn1 : n < 1000000) (hd : s.down = true) (a : Option Addr) (m c : Nat) (sc : List Int) (hsc : IntsRd w (.slice a m c) sc) (hlen : sc.length ≤ 1000000000000)
    (pa : Option Addr) (pc : Nat) (hpv : pv = .slice pa s.pending.length pc) (hpl : s.pending.length ≤ pc) (hpa : (pa = none ∧ s.pending.length = 0 ∧ pc = 0) ∨ ∃ g, pa = some ⟨g, 0, none⟩) :
    Calls Try.prog 17 #[.pointer (some ⟨d, 0, none⟩), .slice a m c] w fun e w' => e = .returned (.tuple #[]) ∧ DiskTo w F G d (s.start sc) w' := by
  subst hpv
  obtain ⟨h0, h1, h2, h3, h4, h5, h6⟩ := h.c1
  have hlt := lt_of_some h.cell
  rw [hd] at h6
  have H := Lib.hid h
  have HI := Lib.hid hi
  have HD := Lib.hid hd
  have HSC := Lib.hid hsc
  clear h hi hd hsc h1 h2 h4 h5 h0
  go_enter Try.func17, Try.ntmps17
  have hsc1 : IntsRd (w.alloc (.cells #[.slice a m c] 23)) (.slice a m c) sc := HSC.out.kept ((Fr.refl (fun _ => False) w).alloc _)
  have HSC1 := Lib.hid hsc1
  clear hsc1
  go_upto_region 4 with (go_at_call 45; refine (cloneInts_rd HSC1.out hlen).mono ?_; rintro e w1 ⟨sv, rfl, hI1, hown1, hf1⟩; obtain ⟨a1, n1, c1, rfl⟩ := ints_shape hI1; have hbx := (hf1.block w.heap.size (by rw [World.size_alloc]; omega) (fun e => e)).trans (heap_alloc_this w (.cells #[.slice a m c] 23)); have hcx := cell_of_one hbx; have hzx := free_of_one hbx; have hI1' := Lib.hid hI1; have hown1' := Lib.hid hown1; have HBX := Lib.hid hbx; clear hI1 hown1 hbx)
  go_cut [37, 38, 39] (fun p q i wx => p = .slice pa (Pd.choice sc s.pending.length).1 pc ∧ q = .int .i64 (Pd.choice sc s.pending.length).1 ∧ i = .int .i64 0 ∧ Fr (fun _ => False) w wx ∧ ScriptAt wx w.heap.size w.heap.size (Pd.choice sc s.pending.length).2)
  case first =>
    have hf2 : Fr (fun _ => False) w (w1.setCell ⟨w.heap.size, 0, none⟩ (.slice a1 n1 c1)) := (((Fr.refl (fun _ => False) w).alloc _).trans hf1 (fun _ e => .inl e)).setCell ⟨w.heap.size, 0, none⟩ _ (.inr (Nat.le_refl _))
    have hS2 : ScriptAt (w1.setCell ⟨w.heap.size, 0, none⟩ (.slice a1 n1 c1)) w.heap.size w.heap.size sc := script_close HBX.out hI1'.out (fun e => by have := hown1'.out _ e; rw [World.size_alloc] at this; omega) (fun g hg => by have := hown1'.out _ hg; rw [World.size_alloc] at this; omega)
    have k3 : (w1.setCell ⟨w.heap.size, 0, none⟩ (.slice a1 n1 c1)).cell? ⟨d, 3, none⟩ = some (.slice pa s.pending.length pc) := (hf2.cell (p := ⟨d, 3, none⟩) hlt (fun e => e)).trans h3
    have hlt2 : d < (w1.setCell ⟨w.heap.size, 0, none⟩ (.slice a1 n1 c1)).heap.size := Nat.lt_of_lt_of_le hlt hf2.size
    have hne : d ≠ w.heap.size := by omega
    clear h3 h6 hcx hzx hf1
    generalize (w1.setCell ⟨w.heap.size, 0, none⟩ (.slice a1 n1 c1)) = W2 at hf2 hS2 k3 hlt2 ⊢
    have HS2 := Lib.hid hS2
    have HNE := Lib.hid hne
    have hple : s.pending.length < 1000000000000 := by have := HI.out.pen; omega
    have hpc : (Pd.choice sc s.pending.length).1 ≤ s.pending.length := Pd.choice_le _ _
    rcases hpa with ⟨rfl, hp0, hc0⟩ | ⟨g, rfl⟩
    · have HP0 := Lib.hid hp0
      have HC0 := Lib.hid hc0
      clear hp0 hc0
      clear hS2 hne
      go_region_with (go_at_call 46; refine (choice_any (w := W2.drew) HS2.out hple hlen).mono ?_; rintro e w3 ⟨rfl, hS3, hf3, hsz3⟩; have k4 := (hf3.cell (p := ⟨d, 3, none⟩) hlt2 HNE.out).trans k3; have HS3 := Lib.hid hS3; clear hS3 hsz3)
      all_goals
        go_wp2_with fail
        go_meet
        exact ⟨rfl, rfl, rfl, (hf2.drew.trans hf3 (fun i e => .inr (by rw [e]; exact Nat.le_refl _))), HS3.out⟩
    · clear hS2 hne
      go_region_with (go_at_call 46; refine (choice_any (w := W2.drew) HS2.out hple hlen).mono ?_; rintro e w3 ⟨rfl, hS3, hf3, hsz3⟩; have k4 := (hf3.cell (p := ⟨d, 3, none⟩) hlt2 HNE.out).trans k3; have HS3 := Lib.hid hS3; clear hS3 hsz3)
      all_goals
        go_wp2_with fail
        go_meet
        exact ⟨rfl, rfl, rfl, (hf2.drew.trans hf3 (fun i e => .inr (by rw [e]; exact Nat.le_refl _))), HS3.out⟩
  case rest =>
    obtain ⟨rfl, rfl, rfl, hfc, hSc⟩ := hcut
    have hpc : (Pd.choice sc s.pending.length).1 ≤ s.pending.length := Pd.choice_le _ _
    have hple : s.pending.length < 1000000 := by have := HI.out.pen; omega
    have hst : s.start sc = startWith s (Pd.choice sc s.pending.length).1 (Pd.choice sc s.pending.length).2 := by
      unfold Pd.PD.start startWith
      rw [if_neg (by rw [HD.out]; simp)]
    have HST := Lib.hid hst
    have hln : (Pd.choice sc s.pending.length).2.length ≤ 1000000000000 := Nat.le_trans (Pd.choice_len _ _) hlen
    clear hst
    generalize (Pd.choice sc s.pending.length).1 = n0 at hpc HST ⊢
    generalize (Pd.choice sc s.pending.length).2 = sc1 at hSc HST hln ⊢
    have HSc := Lib.hid hSc
    have HLN := Lib.hid hln
    clear hSc h3 h6 hln
    go_wp2
    go_loopw [39] (fun i wr => ∃ k : Nat, i = .int .i64 k ∧ k ≤ n0 ∧ LoopInv w wr F G d nb db (.slice pa s.pending.length pc) xs addr L left s w.heap.size sc1 k) (fun i wr => n0 - (intOf i).toNat)
    case atStart => exact ⟨0, rfl, Nat.zero_le _, H.out.kept hfc (fun _ _ e => e) (fun _ _ e => e), hfc.mono (fun _ e => e.elim), HSc.out⟩
    case round =>
      obtain ⟨k, rfl, hk, hinv⟩ := hrel
      have hdr : wr.cell? ⟨d, 2, none⟩ = some (.map (some db)) := hinv.1.c1.2.2.1
      have hltr : d < wr.heap.size := lt_of_some hinv.1.cell
      have HINV := Lib.hid hinv
      by_cases hlt1 : k < n0
      · obtain ⟨ch, hch⟩ : ∃ ch, s.pending[k]? = some ch := ⟨s.pending[k]'(by omega), by simp⟩
        rcases hpa with ⟨_, hp0, _⟩ | ⟨g, rfl⟩
        · omega
        obtain ⟨ca, cb, q0, q1, hchs⟩ := hinv.1.penCells (c := ch) hch
        obtain ⟨hok, hnl⟩ := Pd.Rep.at HI.out.rep hch
        have HCH := Lib.hid hch
        cases ch with
        | set x f =>
          have hcan : canOn L ((s.pending.take k).foldl Pd.PChange.on s.durable) (.set x f) := ⟨by have := Pd.isName_size hok; omega, hinv.1.Lp _ _ (List.mem_of_getElem? hch)⟩
          have HCAN := Lib.hid hcan
          obtain ⟨rfl, bx, rfl, hx, hgx⟩ := hchs
          clear hcan hok hch hinv
          go_wp2
          generalize hcw : Obj.cells _ 80 = bo
          have e0 : (wr.alloc bo).heap[wr.heap.size]? = some bo := heap_alloc_this _ _
          have e1 : (wr.alloc bo).heap.size = wr.heap.size + 1 := World.size_alloc _ _
          have g1 : (wr.alloc bo).cell? ⟨d, 2, none⟩ = some (.map (some db)) := by rw [World.cell?_alloc_past _ _ _ hltr]; exact hdr
          have hW : Fr (fun _ => False) wr (wr.alloc bo) := (Fr.refl _ _).alloc _
          subst hcw
          have c0 := (cell_at e0 0).trans (show _ = some _ from rfl)
          have c1 := (cell_at e0 1).trans (show _ = some _ from rfl)
          clear e0 e1
          generalize (wr.alloc _) = W at c0 c1 g1 hW ⊢
          have HW := Lib.hid (hW.drew)
          clear hW
          go_still_tail 8, (by kernel_rfl)
          change wpList _ _ _ _ _ W.drew
          go_wp2_with (go_at_call 60; refine (setF_any (namesAt_d HINV.out HW.out) (HCAN.out.1) f bx (strBox_kept hx HW.out (fun e => e)) (by omega)).mono ?_; rintro e w2 ⟨rfl, hn2, hf2⟩)
          go_roundw
          case rel => exact ⟨k + 1, by go_num, by omega, loop_step HINV.out HW.out HCH.out hn2 hf2 (on_mem HCAN.out HINV.out.1.Ld) (Nat.le_refl _) (H.out.Flt _ H.out.Fb)⟩
          case measure => simp [intOf]; omega
        | rem x =>
          have hcan : canOn L ((s.pending.take k).foldl Pd.PChange.on s.durable) (.rem x) := (by have := Pd.isName_size hok; show x.size ≤ _; omega)
          have HCAN := Lib.hid hcan
          obtain ⟨rfl, bx, rfl, hx, hgx⟩ := hchs
          clear hcan hok hch hinv
          go_wp2
          generalize hcw : Obj.cells _ 80 = bo
          have e0 : (wr.alloc bo).heap[wr.heap.size]? = some bo := heap_alloc_this _ _
          have e1 : (wr.alloc bo).heap.size = wr.heap.size + 1 := World.size_alloc _ _
          have g1 : (wr.alloc bo).cell? ⟨d, 2, none⟩ = some (.map (some db)) := by rw [World.cell?_alloc_past _ _ _ hltr]; exact hdr
          have hW : Fr (fun _ => False) wr (wr.alloc bo) := (Fr.refl _ _).alloc _
          subst hcw
          have c0 := (cell_at e0 0).trans (show _ = some _ from rfl)
          have c1 := (cell_at e0 1).trans (show _ = some _ from rfl)
          clear e0 e1
          generalize (wr.alloc _) = W at c0 c1 g1 hW ⊢
          have HW := Lib.hid (hW.drew)
          clear hW
          go_still_tail 8, (by kernel_rfl)
          change wpList _ _ _ _ _ W.drew
          go_wp2_with (go_at_call 68; refine (removeF_any (namesAt_d HINV.out HW.out) HCAN.out _ bx (strBox_kept hx HW.out (fun e => e))).mono ?_; rintro e w2 ⟨rfl, hn2, hf2⟩)
          go_roundw
          case rel => exact ⟨k + 1, by go_num, by omega, loop_step HINV.out HW.out HCH.out hn2 hf2 (on_mem HCAN.out HINV.out.1.Ld) (Nat.le_refl _) (H.out.Flt _ H.out.Fb)⟩
          case measure => simp [intOf]; omega
        | ren x y f =>
          have hcan : canOn L ((s.pending.take k).foldl Pd.PChange.on s.durable) (.ren x y f) := ⟨by have := Pd.isName_size hok.1; omega, by have := Pd.isName_size hok.2.1; omega, hok.2.2⟩
          have HCAN := Lib.hid hcan
          obtain ⟨rfl, bx, byy, rfl, hx, hy, hgx, hgy⟩ := hchs
          clear hcan hok hch hinv
          go_wp2
          generalize hcw : Obj.cells _ 80 = bo
          have e0 : (wr.alloc bo).heap[wr.heap.size]? = some bo := heap_alloc_this _ _
          have e1 : (wr.alloc bo).heap.size = wr.heap.size + 1 := World.size_alloc _ _
          have g1 : (wr.alloc bo).cell? ⟨d, 2, none⟩ = some (.map (some db)) := by rw [World.cell?_alloc_past _ _ _ hltr]; exact hdr
          have hW : Fr (fun _ => False) wr (wr.alloc bo) := (Fr.refl _ _).alloc _
          subst hcw
          have c0 := (cell_at e0 0).trans (show _ = some _ from rfl)
          have c1 := (cell_at e0 1).trans (show _ = some _ from rfl)
          clear e0 e1
          generalize (wr.alloc _) = W at c0 c1 g1 hW ⊢
          have HW := Lib.hid (hW.drew)
          clear hW
          go_still_tail 8, (by kernel_rfl)
          change wpList _ _ _ _ _ W.drew
          go_wp2_with (go_at_call 65; refine (renameF_any (namesAt_d HINV.out HW.out) HCAN.out.1 HCAN.out.2.1 _ bx byy f (strBox_kept hx HW.out (fun e => e)) (strBox_kept hy HW.out (fun e => e)) (box_ne hx HINV.out) (box_ne hy HINV.out) (by omega) HCAN.out.2.2).mono ?_; rintro e w2 ⟨rfl, hn2, hf2⟩)
          go_roundw
          case rel => exact ⟨k + 1, by go_num, by omega, loop_step HINV.out HW.out HCH.out hn2 hf2 (on_mem HCAN.out HINV.out.1.Ld) (Nat.le_refl _) (H.out.Flt _ H.out.Fb)⟩
          case measure => simp [intOf]; omega
      · obtain rfl : k = n0 := by omega
        obtain ⟨_, z1, z2, z3, z4, z5, z6⟩ := hinv.1.c1
        have y1 := free_at hinv.1.cell 1
        have y3 := free_at hinv.1.cell 3
        have y4 := free_at hinv.1.cell 4
        have y6 := free_at hinv.1.cell 6
        have hmid := hinv.1.mid
        have hnl : ((s.pending.take k).foldl Pd.PChange.on s.durable).length ≤ 64 := (HI.out.rep.prefix k).len'
        obtain ⟨l, hl⟩ : ∃ l, (s.pending.take k).foldl Pd.PChange.on s.durable = l := ⟨_, rfl⟩
        dsimp only at hmid
        rw [hl] at hmid hnl
        have hsort := sorted_names hmid.hn (by omega)
        simp only [World.size_setCell] at hsort
        have HL := Lib.hid hl
        have HMID := Lib.hid hmid
        have HSORT := Lib.hid hsort
        clear hl hmid hsort hinv z2 hlt1
        go_wp2_with (first
          | (go_at_call 48; refine (keys_any _ _).mono ?_; rintro e w' ⟨rfl, rfl⟩)
          | (go_at_call 47; refine HSORT.out.mono ?_; rintro e w5 ⟨v, rfl, hv5, hf5⟩; obtain ⟨va, vc, rfl⟩ := strs_shape hv5; have HV5 := Lib.hid hv5; clear hv5))
        have hsub : w.heap.size < wr.heap.size := by
          obtain ⟨sv, h1, _⟩ := HINV.out.2.2
          exact lt_of_some h1
        have hl2 : Loop2 w w5 F G d db addr L left s.cap l (.slice va l.length vc) wr.heap.size w.heap.size s.files sc1 0 := by
          have hdF := H.out.Fd
          have hf4 : Fr (fun i => i = d) wr ((((wr.setCell ⟨d, 1, none⟩ (.map (some db))).setCell ⟨d, 3, none⟩ (.slice none 0 0)).setCell ⟨d, 4, none⟩ (.bool false)).setCell ⟨d, 6, none⟩ (.bool false)) :=
            ((((Fr.refl (fun i => i = d) wr).setCell ⟨d, 1, none⟩ _ (.inl rfl)).setCell ⟨d, 3, none⟩ _ (.inl rfl)).setCell ⟨d, 4, none⟩ _ (.inl rfl)).setCell ⟨d, 6, none⟩ _ (.inl rfl)
          exact Loop2.start HMID.out (HINV.out.2.1.trans hf4 (fun i e => .inl (e ▸ hdF))) (HINV.out.2.2.kept hf4 (fun b e => .inl (by subst e; exact H.out.Flt _ hdF)) (Nat.le_refl _)) (Nat.le_refl _) hf5 (by have := HV5.out; rw [List.length_map] at this; exact this) HI.out.fs HLN.out
        have hns : ∀ e ∈ l, e.1.size ≤ 40 := by
          intro e he
          rw [← HL.out] at he
          exact (Pd.isName_size (((HI.out.rep.prefix k).names HI.out.nd (fun m f hm => HI.out.ps m f (List.mem_of_mem_take hm))) e he).1).2
        have HNS := Lib.hid hns
        clear hns
        have HL2 := Lib.hid hl2
        clear hl2 z1 z3 z4 z5 z6 y1 y3 y4 y6 hdr
        go_loopw [76] (fun i wy => ∃ j : Nat, i = .int .i64 j ∧ j ≤ l.length ∧ Loop2 w wy F G d db addr L left s.cap l (.slice va l.length vc) wr.heap.size w.heap.size s.files sc1 j) (fun i wy => l.length - (intOf i).toNat)
        case atStart => exact ⟨0, rfl, Nat.zero_le _, HL2.out⟩
        case round =>
          obtain ⟨j, rfl, hj, hinv2⟩ := hrel
          by_cases hlt2 : j < l.length
          · obtain ⟨nm, id, g2, D, du, fs, sck, hfacts⟩ := hinv2.round hlt2 HNS.out
            obtain ⟨rfl, f1, f2, f3, f4, f5, f6, f7, f8, f9, hF2⟩ := hfacts
            have HF2 := Lib.hid hF2
            have HINV2 := Lib.hid hinv2
            clear hinv2
            have hbl : (D.size : Int) ≤ 16777216 := by omega
            have hwr1 : IntKind.i64.wrap ((D.size : Int) - (du : Int)) = (D.size : Int) - (du : Int) := IntWalk.i64_in _ (by omega)
            have hcs : ((D.size : Int) - (du : Int)) = ((D.size - du : Nat) : Int) := by omega
            have HCS := Lib.hid hcs
            have hsck : sck.length ≤ 1000000000000 := HF2.out.2.2.2.2.2.1
            clear hcs
            go_wp2
            go_quiet (fail)
            clear hwr1
            go_wp2_with (go_at_call 46; go_must (rw [HCS.out]; refine (choice_any (sc := sck) (B := w.heap.size) (sb := w.heap.size) (most := D.size - du) (by exact HF2.out.2.1) (by omega) hsck).mono ?_; rintro e w6 ⟨rfl, hS6, hf6', hs6⟩; have hf6 := hf6'.of_drewN; have hm6 := HF2.out.1.kept (w' := w6) hf6 (fun b hb e => by have := H.out.Flt b hb; omega) (fun b hb e => by have := H.out.Glt b hb; omega); obtain ⟨p0, p1, p2, p3⟩ := hm6.fileCells HF2.out.2.2.2.2.2.2.1; rw [HF2.out.2.2.2.2.2.2.2.1] at p0 p1; have HM6 := Lib.hid hm6; have HS6 := Lib.hid hS6; clear hm6 hS6 hs6 hf6'))
            have hch6 : (Pd.choice sck (D.size - du)).1 ≤ D.size - du := Pd.choice_le _ _
            have hle6 : (Pd.choice sck (D.size - du)).2.length ≤ 1000000000000 := by have := Pd.choice_len sck (D.size - du); omega
            obtain ⟨kp, hkp⟩ : ∃ kp, (Pd.choice sck (D.size - du)).1 = kp := ⟨_, rfl⟩
            obtain ⟨sc2, hsc2⟩ : ∃ sc2, (Pd.choice sck (D.size - du)).2 = sc2 := ⟨_, rfl⟩
            rw [hkp] at hch6 ⊢
            rw [hsc2] at hle6 HS6
            have HKP := Lib.hid hkp
            have HSC2 := Lib.hid hsc2
            clear hkp hsc2
            have hwr2 : IntKind.i64.wrap ((du : Int) + (kp : Int)) = (du : Int) + (kp : Int) := IntWalk.i64_in _ (by omega)
            have hnn : (0 : Int) ≤ (du : Int) + (kp : Int) := by omega
            have hnt : ((du : Int) + (kp : Int)).toNat = du + kp := by omega
            have hleD : du + kp ≤ D.size := by omega
            go_quiet (fail)
            clear hwr2 hnn hnt
            by_cases hkz : 0 < kp
            · have hmost : ((1 : Nat) : Int) = 1 := rfl
              go_wp2_with (go_at_call 46; go_must (refine (choice_any (sc := sc2) (B := w.heap.size) (sb := w.heap.size) (most := 1) (by exact HS6.out) (by omega) hle6).mono ?_; rintro e w7 ⟨rfl, hS7, hf7', hs7⟩; have hf7 := hf7'.of_drewN; have hf67 := hf6.trans hf7 (fun i e => .inl e); have hm7 := HM6.out.kept (w' := w7) hf7 (fun b hb e => by have := H.out.Flt b hb; omega) (fun b hb e => by have := H.out.Glt b hb; omega); obtain ⟨r0, r1, r2, r3⟩ := hm7.fileCells HF2.out.2.2.2.2.2.2.1; rw [HF2.out.2.2.2.2.2.2.2.1] at r0 r1; have hai7 := hm7.Flt _ (hm7.Ff _ HF2.out.2.2.2.2.2.2.1); have hob := hm7.file _ HF2.out.2.2.2.2.2.2.1; have HOB := Lib.hid hob; clear hob; have HM7 := Lib.hid hm7; have HS7 := Lib.hid hS7; clear hm7 hS7 hs7 hf7'))
              · obtain ⟨m8, hm8⟩ : ∃ m8, du + kp = m8 + 1 := ⟨du + kp - 1, by omega⟩
                have e8 : (du : Int) + (kp : Int) - 1 = (m8 : Int) := by omega
                rw [e8]
                have hT8 : (D.extract 0 (du + kp)).size = m8 + 1 := by rw [ByteArray.size_extract]; omega
                generalize hTT : D.extract 0 (du + kp) = T at hT8 ⊢
                have hlt8 : m8 < T.size := by omega
                have hlt8' : (m8 : Int) < (T.size : Int) := by omega
                have hle8' : (m8 : Int) ≤ (T.size : Int) := by omega
                have hle8 : m8 ≤ T.size := by omega
                have HT8 := Lib.hid hT8
                have HTT := Lib.hid hTT
                have HM8 := Lib.hid hm8
                clear hT8 hTT hm8 e8
                have hcv : ∀ x : Int, (convert 38 9 (.slice (some ⟨w7.heap.size, 0, none⟩) 1 1)).run Try.prog (w7.alloc (.cells #[.int .u8 x] 5)).drew = .ok (.string (strOfNums [x])) (w7.alloc (.cells #[.int .u8 x] 5)).drew := by
                  intro x
                  refine run_convert_bytes_arg _ _ 5 Try.underlying38 Try.underlying5 w7.heap.size 0 1 1 [x] rfl (fun i hi => ?_) 9 Try.underlying9
                  obtain rfl : i = 0 := by omega
                  show (w7.alloc _).cell? ⟨w7.heap.size, 0 + 0, none⟩ = _
                  rw [cell_at (heap_alloc_this _ _)]
                  rfl
                have hst1 : ∀ x : Int, (strOfNums [x]).size = 1 := fun x => strOfNums_size [x]
                have hm8b : m8 ≤ 16777216 := by have := HM8.out; omega
                go_region
                all_goals clear hcv
                all_goals go_wp2
                all_goals have hfl : (Pd.choice sc2 1).1 = 1 := by have h := ‹(((Pd.choice sc2 1).1 : Int) == 1) = true›; have := eq_of_beq h; omega
                all_goals refine ⟨⟨j + 1, by go_num, by omega, ?_⟩, by simp [intOf]; omega⟩
                all_goals refine Loop2.close HF2.out HM7.out hf67 HS7.out (startFile_flip HKP.out HSC2.out hkz hfl HTT.out HT8.out hlt8) (Nat.le_trans (Pd.choice_len _ _) hle6) (fun b hb => Nat.lt_trans (H.out.Flt b hb) hsub) (Nat.le_refl _) hsub (((set_fr w7 (addr id) _ _).alloc _).drew) (heap_alloc_old' (file_set _ _ ?_ HOB.out)) ?_ H.out.Flt
                all_goals have hsz8 : ∀ x : Int, (T.extract 0 m8 ++ strOfNums [x]).size = m8 + 1 := fun x => by rw [ByteArray.size_append, hst1, ByteArray.size_extract]; omega
                all_goals have hm8' := HM8.out
                all_goals rw [hsz8]
                all_goals omega
              · go_wp2
                have hfl : ¬ (Pd.choice sc2 1).1 = 1 := by have h := ‹(((Pd.choice sc2 1).1 : Int) == 1) = false›; intro e; rw [e] at h; revert h; decide
                refine ⟨⟨j + 1, by go_num, by omega, ?_⟩, by simp [intOf]; omega⟩
                refine Loop2.close HF2.out HM7.out hf67 HS7.out (startFile_keep HKP.out HSC2.out hkz hfl) (Nat.le_trans (Pd.choice_len _ _) hle6) (fun b hb => Nat.lt_trans (H.out.Flt b hb) hsub) (Nat.le_refl _) hsub (set_fr w7 (addr id) _ _) (file_set _ _ ?_ HOB.out) ?_ H.out.Flt
                all_goals rw [ByteArray.size_extract]
                all_goals omega
            · have hkf : decide ((0 : Int) < (kp : Int)) = false := by simp; omega
              go_wp2
              refine ⟨⟨j + 1, by go_num, by omega, ?_⟩, by simp [intOf]; omega⟩
              refine Loop2.close HF2.out HM6.out hf6 HS6.out (startFile_none HKP.out HSC2.out hkz) hle6 (fun b hb => Nat.lt_trans (H.out.Flt b hb) hsub) (Nat.le_refl _) hsub ((set_fr _ (addr id) _ _).of_drewN) (file_set _ _ ?_ (HM6.out.file _ HF2.out.2.2.2.2.2.2.1)) ?_ H.out.Flt
              all_goals rw [ByteArray.size_extract]
              all_goals omega
          · obtain rfl : j = l.length := by omega
            have hmid2 : ∃ fs, MidP wr F G d db addr L left s.cap l fs := ⟨_, hinv2.choose_spec.choose_spec.1⟩
            obtain ⟨fs, hmid2⟩ := hmid2
            have hn2 := hmid2.hn
            have k1 : wr.cell? ⟨d, 1, none⟩ = some (.map (some db)) := by rw [cell_at hmid2.cell]; rfl
            have k2 := free_at hmid2.cell 2
            have kl := lt_of_some hmid2.cell
            have HINV2 := Lib.hid hinv2
            have HN2 := Lib.hid hn2
            have HCELL := Lib.hid hmid2.cell
            clear hinv2 hmid2 hn2
            go_wp2_with (go_at_call 44; refine (mapsClone_any HN2.out).mono ?_; rintro e w3 ⟨rfl, hm3, hf3, hlt3⟩; have q2 := (hf3.cell (p := ⟨d, 2, none⟩) kl (fun e => e)).trans (show _ = some (Value.map (some db)) from by rw [cell_at HCELL.out]; rfl); have q3 : w3.frozen? ⟨d, 2, none⟩ = false := free_at ((hf3.block d kl (fun e => e)).trans HCELL.out) 2; have HM3 := Lib.hid hm3; clear hm3)
            go_end0
            exact ⟨rfl, start_finish HINV2.out HL.out HST.out hf3 HM3.out hlt3⟩
end
end Go.Proofs.Ytigcokgjikkohaa
