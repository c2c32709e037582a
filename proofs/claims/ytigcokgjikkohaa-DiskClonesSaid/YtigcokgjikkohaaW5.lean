/- The walk of (*Disk).change. -/
import Derived.Test.YtigcokgjikkohaaW4
import Derived.StillTailTactics
import Derived.Deep.RegionLaw
import Derived.Deep.RegionLawGrows
import Derived.BigRegion
import Derived.Maps.AppendAt
namespace Go.Proofs.Ytigcokgjikkohaa
open Go.RowKit Go.Maps
set_option linter.unusedVariables false
set_option linter.unusedSimpArgs false

/-- append onto a row of one's own, as one step of a region that draws. -/
theorem step_append_own {P : Program} {ops : Array Oper} {o : Oper} {a : Act} {w : World} {K : Act → World → Prop} {Q : Exit → Act → World → Prop} {E : Prop}
    (hgd : o.guard = none) (s x : Operand) (t : TypeId) (ho : o.op = .call { callee := .builtin .append, args := #[s, x], argTypes := #[t, t] })
    (base : Nat) (e : TypeId) (i : TypeInfo) (z : Value) (size bytes : Nat) (ht : P.underlying t = some (.slice e)) (hi : P.info? e = some i) (hz : i.zero = some z)
    (hsize : i.size = size) (hby : i.bytes = bytes) (hzs : z.cells.size = size) (hsz : 0 < size)
    (v : Value) (n : Nat) (xs : List Value) (hs : a.eval s = v) (hown : w.ownsRow base e size v n xs)
    (ad : Addr) (m c : Nat) (news : List Value) (hx : a.eval x = .slice (some ad) m c) (hl : news.length = m * size) (hnews : ∀ j u, news[j]? = some u → w.cell? (ad.add j) = some u) (h1 : ∀ u ∈ news, u.oneCell' = true)
    (h63 : n + m ≤ maxLen) (hbytes : (n + m) * bytes ≤ 140737488355328) (hbase : base ≤ w.heap.size)
    (hK : ∀ v' w', w'.ownsRow base e size v' (n + m) (xs ++ news) → w.grownBy w' v.ownBlock → (v'.ownBlock = v.ownBlock ∨ v'.ownBlock = some w.heap.size) → K (a.put o.dst v') w') :
    if Region.wanted o (yielded ops a.tmps) = true then Oper.wp P o a w K Q else E := by
  have hw : Region.wanted o (yielded ops a.tmps) = true := by simp [Region.wanted, hgd]
  rw [if_pos hw]
  obtain ⟨v', w', hr, h2, h3, h4, h5⟩ := run_append_own_at (P := P) w base t o.type e i z size bytes ht hi hz hsize hby hzs hsz v n xs hown ad m c news hl hnews h1 h63 hbytes hbase
  unfold Oper.wp execOp
  simp only [ho, resolve, invoke, builtin, Sem.run_bind, Sem.run_pure, Result.andThen_ok, List.map_toArray, List.map_cons, List.map_nil, hs, hx, hr]
  exact hK v' w' h2 h3 h5

theorem owns_some {w : World} {base e size n : Nat} {v : Value} {ys : List Value} (h : w.ownsRow base e size v (n + 1) ys) : ∃ g cap, v = .slice (some ⟨g, 0, none⟩) (n + 1) cap := by
  rcases h.2 with ⟨_, h0⟩ | ⟨g, cap, cur, rfl, _⟩
  · cases h0
  · exact ⟨g, cap, rfl⟩
theorem oneCells_two {a b : Value} (ha : a.oneCell' = true) (hb : b.oneCell' = true) : ∀ u ∈ [a, b], u.oneCell' = true := by
  intro u hu
  rcases List.mem_cons.1 hu with rfl | hu
  · exact ha
  · rw [List.mem_singleton.1 hu]; exact hb
theorem info_change : (Try.prog.info? 80).map (fun i => (i.zero, i.size, i.bytes)) = some (some (.agg #[.pointer none, .nilFunc]), 2, 16) := by kernel_rfl

/-- What (*Disk).change leaves: the map has turned to l', and the pending changes have one more. -/
def Chd (w : World) (d nb n : Nat) (pv : Value) (xs : List Value) (addr : Nat → Nat) (l' : Pd.Names) (a b : Value) (e : Ending) (w' : World) : Prop :=
  e = .returned (.tuple #[]) ∧ ∃ pv', namesAt w' nb l'.length addr l' ∧ w'.ownsRow 0 80 2 pv' (n + 1) (xs ++ [a, b]) ∧ (pv'.ownBlock = pv.ownBlock ∨ ∃ g, pv'.ownBlock = some g ∧ w.heap.size ≤ g) ∧
    Fr (fun i => i = nb ∨ i = d ∨ pv.ownBlock = some i) w w' ∧ ∀ cs t fz, w.heap[d]? = some (.cells cs t fz) → w'.heap[d]? = some (.cells (cs.setIfInBounds 3 pv') t fz)

theorem chd_close {w w2 w3 : World} {d nb n : Nat} {pv v' a b : Value} {xs : List Value} {addr : Nat → Nat} {l' : Pd.Names} {o : Obj}
    (hlt : d < w.heap.size) (hnd : nb ≠ d) (hnv : pv.ownBlock ≠ some nb) (hdv : pv.ownBlock ≠ some d) (hn2 : namesAt w2 nb l'.length addr l') (hf02 : Fr (fun i => i = nb) w w2)
    (hg3 : (w2.alloc o).drew.grownBy w3 pv.ownBlock) (hown3 : w3.ownsRow 0 80 2 v' (n + 1) (xs ++ [a, b])) (hloc3 : v'.ownBlock = pv.ownBlock ∨ v'.ownBlock = some (w2.alloc o).drew.heap.size) :
    Chd w d nb n pv xs addr l' a b (.returned (.tuple #[])) (w3.setCell ⟨d, 3, none⟩ v') := by
  have hf23 : Fr (fun i => pv.ownBlock = some i) w2 w3 := (((Fr.refl _ w2).alloc o).drew).grown hg3 (fun k e => .inl e)
  have hf34 : Fr (fun i => i = d) w3 (w3.setCell ⟨d, 3, none⟩ v') := (Fr.refl _ _).setCell _ _ (.inl rfl)
  have hf03 : Fr (fun i => i = nb ∨ pv.ownBlock = some i) w w3 := (hf02.mono (fun _ e => .inl (.inl e))).trans hf23 (fun _ e => .inl (.inr e))
  have hvd : v'.ownBlock ≠ some d := by
    intro e
    rcases hloc3 with h | h
    · exact hdv (h.symm.trans e)
    · rw [h] at e
      have h1 := hf02.size
      simp at e
      omega
  refine ⟨rfl, v', ?_, ?_, ?_, ?_, ?_⟩
  · exact ownsMap_fr (ownsMap_fr hn2 hf23 hnv) hf34 hnd
  · exact ownsRow_fr hown3 hf34 (fun b hb e => hvd (by rw [hb, e]))
  · rcases hloc3 with h | h
    · exact .inl h
    · exact .inr ⟨_, h, by have h1 := hf02.size; simp; omega⟩
  · exact (hf03.mono (S' := fun i => i = nb ∨ i = d ∨ pv.ownBlock = some i) (fun i e => .inl (e.elim .inl (fun h => .inr (.inr h))))).trans hf34 (fun i e => .inl (.inr (.inl e)))
  · intro cs t fz hc
    have h3 : w3.heap[d]? = some (.cells cs t fz) := (hf03.block d hlt (fun e => by rcases e with e | e; exact hnd e.symm; exact hdv e)).trans hc
    exact heap_set_same h3

set_option maxRecDepth 100000 in
set_option maxHeartbeats 1000000 in
theorem change_setF {w : World} {d nb x n : Nat} {a pv : Value} {xs : List Value} {addr : Nat → Nat} {l' : Pd.Names}
    (hlt : d < w.heap.size) (h1 : w.cell? ⟨d, 1, none⟩ = some (.map (some nb))) (h3 : w.cell? ⟨d, 3, none⟩ = some pv) (f3 : w.frozen? ⟨d, 3, none⟩ = false) (hnd : nb ≠ d) (hnlt : nb < w.heap.size)
    (hrow : w.ownsRow 0 80 2 pv n xs) (hnv : pv.ownBlock ≠ some nb) (hdv : pv.ownBlock ≠ some d) (hn : n < 1000000)
    (ha : Hid (a.oneCell' = true)) (hcall : Hid (∀ W, Fr (fun _ => False) w W → Calls Try.prog 60 #[.map (some nb), a, .pointer (some ⟨x, 0, none⟩)] W (Turned W nb addr l'))) :
    Calls Try.prog 41 #[.pointer (some ⟨d, 0, none⟩), .agg #[a, .func (.func 60) #[] #[.pointer (some ⟨x, 0, none⟩)]]] w (Chd w d nb n pv xs addr l' a (.func (.func 60) #[] #[.pointer (some ⟨x, 0, none⟩)])) := by
  obtain ⟨i0, hi, hz0, hz1, hz2⟩ := info_parts info_change
  go_enter Try.func41, Try.ntmps41
  go_wp2
  have e0 : (w.alloc (.cells #[a, .func (.func 60) #[] #[.pointer (some ⟨x, 0, none⟩)]] 80)).heap[w.heap.size]? = some (.cells #[a, .func (.func 60) #[] #[.pointer (some ⟨x, 0, none⟩)]] 80 (0, 0)) := heap_alloc_this _ _
  have e1 : (w.alloc (.cells #[a, .func (.func 60) #[] #[.pointer (some ⟨x, 0, none⟩)]] 80)).heap.size = w.heap.size + 1 := World.size_alloc _ _
  have g1 : (w.alloc (.cells #[a, .func (.func 60) #[] #[.pointer (some ⟨x, 0, none⟩)]] 80)).cell? ⟨d, 1, none⟩ = some (.map (some nb)) := by rw [World.cell?_alloc_past _ _ _ hlt]; exact h1
  have hW0 : Fr (fun _ => False) w (w.alloc (.cells #[a, .func (.func 60) #[] #[.pointer (some ⟨x, 0, none⟩)]] 80)) := (Fr.refl _ _).alloc _
  generalize (w.alloc (.cells #[a, .func (.func 60) #[] #[.pointer (some ⟨x, 0, none⟩)]] 80)) = W at e0 e1 g1 hW0 ⊢
  have c0 : W.cell? ⟨w.heap.size, 0, none⟩ = some a := by rw [cell_at e0]; rfl
  have c1 : W.cell? ⟨w.heap.size, 1, none⟩ = some (.func (.func 60) #[] #[.pointer (some ⟨x, 0, none⟩)]) := by rw [cell_at e0]; rfl
  have E0 := Lib.hid e0
  have E1 := Lib.hid e1
  clear e0 e1
  go_still_tail 8, (by kernel_rfl)
  change wpList _ _ _ _ _ W.drew
  go_wp2_with (go_at_call 60; refine (hcall.out _ hW0.drew).mono ?_; rintro e w2 ⟨rfl, hn2, hf2⟩)
  have hf02 : Fr (fun i => i = nb) w w2 := (hW0.drew.mono (fun _ e => e.elim)).trans hf2 (fun _ e => .inl e)
  have hlt2 : d < w2.heap.size := Nat.lt_of_lt_of_le hlt hf02.size
  have k3 : w2.cell? ⟨d, 3, none⟩ = some pv := by rw [hf02.cell (p := ⟨d, 3, none⟩) hlt (fun e => hnd e.symm)]; exact h3
  have z3 : w2.frozen? ⟨d, 3, none⟩ = false := by rw [World.frozen?_of_block (hf02.block d hlt (fun e => hnd e.symm))]; exact f3
  have b0 : w2.heap[w.heap.size]? = some (.cells #[a, .func (.func 60) #[] #[.pointer (some ⟨x, 0, none⟩)]] 80 (0, 0)) := (hf2.block w.heap.size (by show w.heap.size < W.heap.size; rw [E1.out]; omega) (fun e => by omega)).trans E0.out
  have hlt3 : w.heap.size < w2.heap.size := lt_of_some b0
  have k0 : w2.cell? ⟨w.heap.size, 0, none⟩ = some a := by rw [cell_at b0]; rfl
  have k1 : w2.cell? ⟨w.heap.size, 1, none⟩ = some (.func (.func 60) #[] #[.pointer (some ⟨x, 0, none⟩)]) := by rw [cell_at b0]; rfl
  have hrow2 : w2.ownsRow 0 80 2 pv n xs := ownsRow_fr hrow hf02 (fun b hb e => hnv (by rw [hb, e]))
  have hl3 : d < (w2.alloc (.cells #[a, .func (.func 60) #[] #[.pointer (some ⟨x, 0, none⟩)]] 80)).heap.size := by
    rw [World.size_alloc]; omega
  clear hf2 hW0 c0 c1 g1 h3 f3 h1 b0
  go_region_law (refine step_append_own rfl (.tmp 17) (.tmp 19) 70 rfl 0 80 i0 (.agg #[.pointer none, .nilFunc]) 2 16 Try.underlying70 hi hz0 hz1 hz2 rfl (by decide) pv n xs rfl (by exact hrow2.alloc _) ⟨w2.heap.size, 0, none⟩ 1 1 [a, .func (.func 60) #[] #[.pointer (some ⟨x, 0, none⟩)]] rfl rfl (by exact cell_two_new _ _ _ _) (by exact oneCells_two ha.out rfl) (by unfold maxLen; omega) (by omega) (Nat.zero_le _) ?_; intro v' w3 hown3 hg3 hloc3; obtain ⟨g, cap', rfl⟩ := owns_some hown3; have m3 : w3.cell? ⟨d, 3, none⟩ = some pv := (World.cell?_of_block (hg3.block d hl3 (fun e => hdv e.symm))).trans ((World.cell?_alloc_past _ _ _ hlt2).trans k3); have y3 : w3.frozen? ⟨d, 3, none⟩ = false := (World.frozen?_of_block (hg3.block d hl3 (fun e => hdv e.symm))).trans ((World.frozen?_alloc_past _ _ _ hlt2).trans z3))
  all_goals
    go_end0
    exact chd_close hlt hnd hnv hdv hn2 hf02 hg3 hown3 hloc3
set_option maxRecDepth 100000 in
set_option maxHeartbeats 1000000 in
theorem change_removeF {w : World} {d nb x n : Nat} {a pv : Value} {xs : List Value} {addr : Nat → Nat} {l' : Pd.Names}
    (hlt : d < w.heap.size) (h1 : w.cell? ⟨d, 1, none⟩ = some (.map (some nb))) (h3 : w.cell? ⟨d, 3, none⟩ = some pv) (f3 : w.frozen? ⟨d, 3, none⟩ = false) (hnd : nb ≠ d) (hnlt : nb < w.heap.size)
    (hrow : w.ownsRow 0 80 2 pv n xs) (hnv : pv.ownBlock ≠ some nb) (hdv : pv.ownBlock ≠ some d) (hn : n < 1000000)
    (ha : Hid (a.oneCell' = true)) (hcall : Hid (∀ W, Fr (fun _ => False) w W → Calls Try.prog 68 #[.map (some nb), a, .pointer (some ⟨x, 0, none⟩)] W (Turned W nb addr l'))) :
    Calls Try.prog 41 #[.pointer (some ⟨d, 0, none⟩), .agg #[a, .func (.func 68) #[] #[.pointer (some ⟨x, 0, none⟩)]]] w (Chd w d nb n pv xs addr l' a (.func (.func 68) #[] #[.pointer (some ⟨x, 0, none⟩)])) := by
  obtain ⟨i0, hi, hz0, hz1, hz2⟩ := info_parts info_change
  go_enter Try.func41, Try.ntmps41
  go_wp2
  have e0 : (w.alloc (.cells #[a, .func (.func 68) #[] #[.pointer (some ⟨x, 0, none⟩)]] 80)).heap[w.heap.size]? = some (.cells #[a, .func (.func 68) #[] #[.pointer (some ⟨x, 0, none⟩)]] 80 (0, 0)) := heap_alloc_this _ _
  have e1 : (w.alloc (.cells #[a, .func (.func 68) #[] #[.pointer (some ⟨x, 0, none⟩)]] 80)).heap.size = w.heap.size + 1 := World.size_alloc _ _
  have g1 : (w.alloc (.cells #[a, .func (.func 68) #[] #[.pointer (some ⟨x, 0, none⟩)]] 80)).cell? ⟨d, 1, none⟩ = some (.map (some nb)) := by rw [World.cell?_alloc_past _ _ _ hlt]; exact h1
  have hW0 : Fr (fun _ => False) w (w.alloc (.cells #[a, .func (.func 68) #[] #[.pointer (some ⟨x, 0, none⟩)]] 80)) := (Fr.refl _ _).alloc _
  generalize (w.alloc (.cells #[a, .func (.func 68) #[] #[.pointer (some ⟨x, 0, none⟩)]] 80)) = W at e0 e1 g1 hW0 ⊢
  have c0 : W.cell? ⟨w.heap.size, 0, none⟩ = some a := by rw [cell_at e0]; rfl
  have c1 : W.cell? ⟨w.heap.size, 1, none⟩ = some (.func (.func 68) #[] #[.pointer (some ⟨x, 0, none⟩)]) := by rw [cell_at e0]; rfl
  have E0 := Lib.hid e0
  have E1 := Lib.hid e1
  clear e0 e1
  go_still_tail 8, (by kernel_rfl)
  change wpList _ _ _ _ _ W.drew
  go_wp2_with (go_at_call 68; refine (hcall.out _ hW0.drew).mono ?_; rintro e w2 ⟨rfl, hn2, hf2⟩)
  have hf02 : Fr (fun i => i = nb) w w2 := (hW0.drew.mono (fun _ e => e.elim)).trans hf2 (fun _ e => .inl e)
  have hlt2 : d < w2.heap.size := Nat.lt_of_lt_of_le hlt hf02.size
  have k3 : w2.cell? ⟨d, 3, none⟩ = some pv := by rw [hf02.cell (p := ⟨d, 3, none⟩) hlt (fun e => hnd e.symm)]; exact h3
  have z3 : w2.frozen? ⟨d, 3, none⟩ = false := by rw [World.frozen?_of_block (hf02.block d hlt (fun e => hnd e.symm))]; exact f3
  have b0 : w2.heap[w.heap.size]? = some (.cells #[a, .func (.func 68) #[] #[.pointer (some ⟨x, 0, none⟩)]] 80 (0, 0)) := (hf2.block w.heap.size (by show w.heap.size < W.heap.size; rw [E1.out]; omega) (fun e => by omega)).trans E0.out
  have hlt3 : w.heap.size < w2.heap.size := lt_of_some b0
  have k0 : w2.cell? ⟨w.heap.size, 0, none⟩ = some a := by rw [cell_at b0]; rfl
  have k1 : w2.cell? ⟨w.heap.size, 1, none⟩ = some (.func (.func 68) #[] #[.pointer (some ⟨x, 0, none⟩)]) := by rw [cell_at b0]; rfl
  have hrow2 : w2.ownsRow 0 80 2 pv n xs := ownsRow_fr hrow hf02 (fun b hb e => hnv (by rw [hb, e]))
  have hl3 : d < (w2.alloc (.cells #[a, .func (.func 68) #[] #[.pointer (some ⟨x, 0, none⟩)]] 80)).heap.size := by
    rw [World.size_alloc]; omega
  clear hf2 hW0 c0 c1 g1 h3 f3 h1 b0
  go_region_law (refine step_append_own rfl (.tmp 17) (.tmp 19) 70 rfl 0 80 i0 (.agg #[.pointer none, .nilFunc]) 2 16 Try.underlying70 hi hz0 hz1 hz2 rfl (by decide) pv n xs rfl (by exact hrow2.alloc _) ⟨w2.heap.size, 0, none⟩ 1 1 [a, .func (.func 68) #[] #[.pointer (some ⟨x, 0, none⟩)]] rfl rfl (by exact cell_two_new _ _ _ _) (by exact oneCells_two ha.out rfl) (by unfold maxLen; omega) (by omega) (Nat.zero_le _) ?_; intro v' w3 hown3 hg3 hloc3; obtain ⟨g, cap', rfl⟩ := owns_some hown3; have m3 : w3.cell? ⟨d, 3, none⟩ = some pv := (World.cell?_of_block (hg3.block d hl3 (fun e => hdv e.symm))).trans ((World.cell?_alloc_past _ _ _ hlt2).trans k3); have y3 : w3.frozen? ⟨d, 3, none⟩ = false := (World.frozen?_of_block (hg3.block d hl3 (fun e => hdv e.symm))).trans ((World.frozen?_alloc_past _ _ _ hlt2).trans z3))
  all_goals
    go_end0
    exact chd_close hlt hnd hnv hdv hn2 hf02 hg3 hown3 hloc3
set_option maxRecDepth 100000 in
set_option maxHeartbeats 1000000 in
theorem change_renameF {w : World} {d nb x y n : Nat} {a pv : Value} {xs : List Value} {addr : Nat → Nat} {l' : Pd.Names}
    (hlt : d < w.heap.size) (h1 : w.cell? ⟨d, 1, none⟩ = some (.map (some nb))) (h3 : w.cell? ⟨d, 3, none⟩ = some pv) (f3 : w.frozen? ⟨d, 3, none⟩ = false) (hnd : nb ≠ d) (hnlt : nb < w.heap.size)
    (hrow : w.ownsRow 0 80 2 pv n xs) (hnv : pv.ownBlock ≠ some nb) (hdv : pv.ownBlock ≠ some d) (hn : n < 1000000)
    (ha : Hid (a.oneCell' = true)) (hcall : Hid (∀ W, Fr (fun _ => False) w W → Calls Try.prog 65 #[.map (some nb), a, .pointer (some ⟨x, 0, none⟩), .pointer (some ⟨y, 0, none⟩)] W (Turned W nb addr l'))) :
    Calls Try.prog 41 #[.pointer (some ⟨d, 0, none⟩), .agg #[a, .func (.func 65) #[] #[.pointer (some ⟨x, 0, none⟩), .pointer (some ⟨y, 0, none⟩)]]] w (Chd w d nb n pv xs addr l' a (.func (.func 65) #[] #[.pointer (some ⟨x, 0, none⟩), .pointer (some ⟨y, 0, none⟩)])) := by
  obtain ⟨i0, hi, hz0, hz1, hz2⟩ := info_parts info_change
  go_enter Try.func41, Try.ntmps41
  go_wp2
  have e0 : (w.alloc (.cells #[a, .func (.func 65) #[] #[.pointer (some ⟨x, 0, none⟩), .pointer (some ⟨y, 0, none⟩)]] 80)).heap[w.heap.size]? = some (.cells #[a, .func (.func 65) #[] #[.pointer (some ⟨x, 0, none⟩), .pointer (some ⟨y, 0, none⟩)]] 80 (0, 0)) := heap_alloc_this _ _
  have e1 : (w.alloc (.cells #[a, .func (.func 65) #[] #[.pointer (some ⟨x, 0, none⟩), .pointer (some ⟨y, 0, none⟩)]] 80)).heap.size = w.heap.size + 1 := World.size_alloc _ _
  have g1 : (w.alloc (.cells #[a, .func (.func 65) #[] #[.pointer (some ⟨x, 0, none⟩), .pointer (some ⟨y, 0, none⟩)]] 80)).cell? ⟨d, 1, none⟩ = some (.map (some nb)) := by rw [World.cell?_alloc_past _ _ _ hlt]; exact h1
  have hW0 : Fr (fun _ => False) w (w.alloc (.cells #[a, .func (.func 65) #[] #[.pointer (some ⟨x, 0, none⟩), .pointer (some ⟨y, 0, none⟩)]] 80)) := (Fr.refl _ _).alloc _
  generalize (w.alloc (.cells #[a, .func (.func 65) #[] #[.pointer (some ⟨x, 0, none⟩), .pointer (some ⟨y, 0, none⟩)]] 80)) = W at e0 e1 g1 hW0 ⊢
  have c0 : W.cell? ⟨w.heap.size, 0, none⟩ = some a := by rw [cell_at e0]; rfl
  have c1 : W.cell? ⟨w.heap.size, 1, none⟩ = some (.func (.func 65) #[] #[.pointer (some ⟨x, 0, none⟩), .pointer (some ⟨y, 0, none⟩)]) := by rw [cell_at e0]; rfl
  have E0 := Lib.hid e0
  have E1 := Lib.hid e1
  clear e0 e1
  go_still_tail 8, (by kernel_rfl)
  change wpList _ _ _ _ _ W.drew
  go_wp2_with (go_at_call 65; refine (hcall.out _ hW0.drew).mono ?_; rintro e w2 ⟨rfl, hn2, hf2⟩)
  have hf02 : Fr (fun i => i = nb) w w2 := (hW0.drew.mono (fun _ e => e.elim)).trans hf2 (fun _ e => .inl e)
  have hlt2 : d < w2.heap.size := Nat.lt_of_lt_of_le hlt hf02.size
  have k3 : w2.cell? ⟨d, 3, none⟩ = some pv := by rw [hf02.cell (p := ⟨d, 3, none⟩) hlt (fun e => hnd e.symm)]; exact h3
  have z3 : w2.frozen? ⟨d, 3, none⟩ = false := by rw [World.frozen?_of_block (hf02.block d hlt (fun e => hnd e.symm))]; exact f3
  have b0 : w2.heap[w.heap.size]? = some (.cells #[a, .func (.func 65) #[] #[.pointer (some ⟨x, 0, none⟩), .pointer (some ⟨y, 0, none⟩)]] 80 (0, 0)) := (hf2.block w.heap.size (by show w.heap.size < W.heap.size; rw [E1.out]; omega) (fun e => by omega)).trans E0.out
  have hlt3 : w.heap.size < w2.heap.size := lt_of_some b0
  have k0 : w2.cell? ⟨w.heap.size, 0, none⟩ = some a := by rw [cell_at b0]; rfl
  have k1 : w2.cell? ⟨w.heap.size, 1, none⟩ = some (.func (.func 65) #[] #[.pointer (some ⟨x, 0, none⟩), .pointer (some ⟨y, 0, none⟩)]) := by rw [cell_at b0]; rfl
  have hrow2 : w2.ownsRow 0 80 2 pv n xs := ownsRow_fr hrow hf02 (fun b hb e => hnv (by rw [hb, e]))
  have hl3 : d < (w2.alloc (.cells #[a, .func (.func 65) #[] #[.pointer (some ⟨x, 0, none⟩), .pointer (some ⟨y, 0, none⟩)]] 80)).heap.size := by
    rw [World.size_alloc]; omega
  clear hf2 hW0 c0 c1 g1 h3 f3 h1 b0
  go_region_law (refine step_append_own rfl (.tmp 17) (.tmp 19) 70 rfl 0 80 i0 (.agg #[.pointer none, .nilFunc]) 2 16 Try.underlying70 hi hz0 hz1 hz2 rfl (by decide) pv n xs rfl (by exact hrow2.alloc _) ⟨w2.heap.size, 0, none⟩ 1 1 [a, .func (.func 65) #[] #[.pointer (some ⟨x, 0, none⟩), .pointer (some ⟨y, 0, none⟩)]] rfl rfl (by exact cell_two_new _ _ _ _) (by exact oneCells_two ha.out rfl) (by unfold maxLen; omega) (by omega) (Nat.zero_le _) ?_; intro v' w3 hown3 hg3 hloc3; obtain ⟨g, cap', rfl⟩ := owns_some hown3; have m3 : w3.cell? ⟨d, 3, none⟩ = some pv := (World.cell?_of_block (hg3.block d hl3 (fun e => hdv e.symm))).trans ((World.cell?_alloc_past _ _ _ hlt2).trans k3); have y3 : w3.frozen? ⟨d, 3, none⟩ = false := (World.frozen?_of_block (hg3.block d hl3 (fun e => hdv e.symm))).trans ((World.frozen?_alloc_past _ _ _ hlt2).trans z3))
  all_goals
    go_end0
    exact chd_close hlt hnd hnv hdv hn2 hf02 hg3 hown3 hloc3

/-- The change c can be made of the names l. -/
def canOn (L : Nat → Prop) (l : Pd.Names) : Pd.PChange → Prop
  | .set n f => n.size ≤ 9223372036854775807 ∧ L f
  | .rem n => n.size ≤ 9223372036854775807
  | .ren s t f => s.size ≤ 9223372036854775807 ∧ t.size ≤ 9223372036854775807 ∧ Pd.find l s = some f

theorem chIs_one {w : World} {G : Nat → Prop} {addr : Nat → Nat} {c : Pd.PChange} {a b : Value} (h : chIs w G addr c a b) : a.oneCell' = true := by
  cases c with
  | set n f => obtain ⟨rfl, _⟩ := h; rfl
  | rem n => obtain ⟨rfl, _⟩ := h; rfl
  | ren s t f => obtain ⟨rfl, _⟩ := h; rfl
theorem on_mem {l : Pd.Names} {c : Pd.PChange} {L : Nat → Prop} (hc : canOn L l c) (hl : ∀ e ∈ l, L e.2) : ∀ e ∈ c.on l, L e.2 := by
  have hins : ∀ (x : ByteArray × Nat) (r : Pd.Names) e, e ∈ Pd.ins x r → e = x ∨ e ∈ r := by
    intro x r
    induction r with
    | nil => intro e he; exact .inl (by simpa [Pd.ins] using he)
    | cons y r ih =>
      intro e he
      unfold Pd.ins at he
      split at he
      · exact (List.mem_cons.1 he).imp id id
      · rcases List.mem_cons.1 he with rfl | he
        · exact .inr List.mem_cons_self
        · exact (ih e he).imp id (List.mem_cons_of_mem _)
  cases c with
  | set n f =>
    intro e he
    rcases hins _ _ e he with rfl | h
    · exact hc.2
    · exact hl e (List.mem_filter.1 h).1
  | rem n => intro e he; exact hl e (List.mem_filter.1 he).1
  | ren s t f =>
    intro e he
    rcases hins _ _ e he with rfl | h
    · obtain ⟨e', he', hef, _⟩ := mem_of_find hc.2.2
      rw [← hef]; exact hl e' he'
    · exact hl e (List.mem_filter.1 (List.mem_filter.1 h).1).1

/-- The relation behind (*Disk).change. -/
theorem disk_changed {w w' : World} {F G : Nat → Prop} {d nb db : Nat} {pv a b : Value} {xs : List Value} {addr : Nat → Nat} {L : Nat → Prop} {left : Int} {s : Pd.PD} {c : Pd.PChange} {e : Ending}
    (h : DiskP w F G d nb db pv xs addr L left s) (hch : chIs w G addr c a b) (hc : canOn L s.names c) (hd : Chd w d nb s.pending.length pv xs addr (c.on s.names) a b e w') :
    e = .returned (.tuple #[]) ∧ ∃ pv' F', DiskP w' F' G d nb db pv' (xs ++ [a, b]) addr L left (s.apply c) ∧ (∀ i, F' i → F i ∨ w.heap.size ≤ i) ∧ (∀ i, F i → F' i) ∧ Fr F w w' := by
  obtain ⟨he, pv', hn', hrow', hloc, hfr, hcell⟩ := hd
  have hS : ∀ i, (i = nb ∨ i = d ∨ pv.ownBlock = some i) → F i := by
    rintro i (rfl | rfl | hv)
    · exact h.Fn
    · exact h.Fd
    · exact h.Fv i hv
  have hG : ∀ i, G i → ¬ (i = nb ∨ i = d ∨ pv.ownBlock = some i) := fun i hg hi => h.FG i (hS i hi) hg
  have hfrF : Fr F w w' := hfr.mono (fun i hi => .inl (hS i hi))
  have hnd := h.nb_d
  have hnv := h.nb_v
  refine ⟨he, pv', fun i => F i ∨ pv'.ownBlock = some i, ?_, ?_, fun i hi => .inl hi, hfrF⟩
  · exact {
      cell := by
        have := hcell _ _ _ h.cell
        rw [this]
        simp [diskObj, Pd.PD.apply]
      left_ok := h.left_ok
      left_wf := h.left_wf
      hn := hn'
      hd := ownsMap_fr h.hd hfr (fun e => by
        rcases e with e | e | e
        · exact h.ne_nd e.symm
        · exact h.db_d e
        · exact h.db_v e)
      row := by
        show w'.ownsRow 0 80 2 pv' (s.pending ++ [c]).length (xs ++ [a, b])
        rw [List.length_append]; exact hrow'
      pen := penIs_snoc (chIs_kept hch hfr hG) (penIs_kept h.pen hfr hG)
      file := fun k hk => (hfr.block _ (lt_of_some (h.file k hk)) (fun e => by
        rcases e with e | e | e
        · exact h.nb_f hk e.symm
        · exact h.d_f hk e.symm
        · exact h.ne_vf k hk e)).trans (h.file k hk)
      inj := h.inj
      Ln := on_mem hc h.Ln
      Ld := h.Ld
      Lp := by
        intro n f hm
        have hm' : Pd.PChange.set n f ∈ s.pending ++ [c] := hm
        rcases List.mem_append.1 hm' with h1 | h1
        · exact h.Lp n f h1
        · rw [← List.mem_singleton.1 h1] at hc; exact hc.2
      Ls := h.Ls
      Fd := .inl h.Fd
      Fn := .inl h.Fn
      Fb := .inl h.Fb
      Fv := fun b hb => .inr hb
      Ff := fun k hk => .inl (h.Ff k hk)
      Flt := by
        rintro b (hb | hb)
        · exact Nat.lt_of_lt_of_le (h.Flt b hb) hfr.size
        · exact (hrow'.lt b hb).2
      Glt := fun b hb => Nat.lt_of_lt_of_le (h.Glt b hb) hfr.size
      FG := by
        rintro b (hb | hb) hg
        · exact h.FG b hb hg
        · rcases hloc with hl | ⟨g, hl, hge⟩
          · exact h.FG b (h.Fv b (by rw [← hl, hb])) hg
          · rw [hb] at hl; cases hl; have := h.Glt b hg; omega
      ne_nd := h.ne_nd
      ne_v := by
        intro hb
        rcases hloc with hl | ⟨g, hl, hge⟩
        · exact h.ne_v (by rw [← hl, hb])
        · rw [hb] at hl; cases hl; have := lt_of_some h.cell; omega
      ne_vf := by
        intro k hk hb
        rcases hloc with hl | ⟨g, hl, hge⟩
        · exact h.ne_vf k hk (by rw [← hl, hb])
        · rw [hb] at hl; cases hl; have := lt_of_some (h.file k hk); omega }
  · rintro i (hi | hi)
    · exact .inl hi
    · rcases hloc with hl | ⟨g, hl, hge⟩
      · exact .inl (h.Fv i (by rw [← hl, hi]))
      · rw [hi] at hl; cases hl; exact .inr hge

theorem DiskP.c1 {w : World} {F G : Nat → Prop} {d nb db : Nat} {pv : Value} {xs : List Value} {addr : Nat → Nat} {L : Nat → Prop} {left : Int} {s : Pd.PD} (h : DiskP w F G d nb db pv xs addr L left s) :
    w.cell? ⟨d, 0, none⟩ = some (.int .i64 s.cap) ∧ w.cell? ⟨d, 1, none⟩ = some (.map (some nb)) ∧ w.cell? ⟨d, 2, none⟩ = some (.map (some db)) ∧ w.cell? ⟨d, 3, none⟩ = some pv ∧ w.cell? ⟨d, 4, none⟩ = some (.bool s.limit.isSome) ∧
    w.cell? ⟨d, 5, none⟩ = some (.int .i64 left) ∧ w.cell? ⟨d, 6, none⟩ = some (.bool s.down) :=
  ⟨by rw [cell_at h.cell]; rfl, by rw [cell_at h.cell]; rfl, by rw [cell_at h.cell]; rfl, by rw [cell_at h.cell]; rfl, by rw [cell_at h.cell]; rfl, by rw [cell_at h.cell]; rfl, by rw [cell_at h.cell]; rfl⟩

/-- What (*Disk).change leaves, of a disk. -/
def ChdTo (w : World) (F G : Nat → Prop) (d nb db : Nat) (pv : Value) (xs : List Value) (addr : Nat → Nat) (L : Nat → Prop) (left : Int) (s : Pd.PD) (c : Pd.PChange) (e : Ending) (w' : World) : Prop :=
  e = .returned (.tuple #[]) ∧ ∃ pv' F' xs', DiskP w' F' G d nb db pv' xs' addr L left (s.apply c) ∧ (∀ i, F' i → F i ∨ w.heap.size ≤ i) ∧ (∀ i, F i → F' i) ∧ Fr F w w'

theorem change_any {w : World} {F G : Nat → Prop} {d nb db : Nat} {pv a b : Value} {xs : List Value} {addr : Nat → Nat} {L : Nat → Prop} {left : Int} {s : Pd.PD} {c : Pd.PChange}
    (h : DiskP w F G d nb db pv xs addr L left s) (hch : chIs w G addr c a b) (hc : canOn L s.names c) (hp : s.pending.length < 1000000) (hl : s.names.length < 1000000) :
    Calls Try.prog 41 #[.pointer (some ⟨d, 0, none⟩), .agg #[a, b]] w (ChdTo w F G d nb db pv xs addr L left s c) := by
  have ho := chIs_one hch
  have hlt := lt_of_some h.cell
  obtain ⟨_, h1, _, h3, _⟩ := h.c1
  have f3 := free_at h.cell 3
  have key : ∀ e w', Chd w d nb s.pending.length pv xs addr (c.on s.names) a b e w' → ChdTo w F G d nb db pv xs addr L left s c e w' := fun e w' hd =>
    let ⟨h1, pv', F', h2⟩ := disk_changed h hch hc hd; ⟨h1, pv', F', _, h2⟩
  have hns : ∀ W, Fr (fun _ => False) w W → namesAt W nb s.names.length addr s.names := fun W hf => ownsMap_fr h.hn hf (fun e => e)
  have hsb : ∀ {x : Nat} {k : ByteArray} W, Fr (fun _ => False) w W → strBox w x k → strBox W x k := fun W hf hb => strBox_kept hb hf (fun e => e)
  have hbn : ∀ {x : Nat} {k : ByteArray}, strBox w x k → x ≠ nb := by
    rintro x k hb rfl
    obtain ⟨es, c, hm, _⟩ := h.hn
    unfold strBox at hb
    rw [hm] at hb; cases hb
  cases c with
  | set n f =>
    obtain ⟨rfl, x, rfl, hx, _⟩ := hch
    exact (change_setF hlt h1 h3 f3 h.nb_d (h.Flt _ h.Fn) h.row h.nb_v h.ne_v hp (Lib.hid ho) (Lib.hid fun W hf => setF_any (hns W hf) hc.1 f x (hsb W hf hx) (by omega))).mono key
  | rem n =>
    obtain ⟨rfl, x, rfl, hx, _⟩ := hch
    exact (change_removeF hlt h1 h3 f3 h.nb_d (h.Flt _ h.Fn) h.row h.nb_v h.ne_v hp (Lib.hid ho) (Lib.hid fun W hf => removeF_any (hns W hf) hc _ x (hsb W hf hx))).mono key
  | ren n t f =>
    obtain ⟨rfl, x, y, rfl, hx, hy, _⟩ := hch
    exact (change_renameF hlt h1 h3 f3 h.nb_d (h.Flt _ h.Fn) h.row h.nb_v h.ne_v hp (Lib.hid ho) (Lib.hid fun W hf => renameF_any (hns W hf) hc.1 hc.2.1 _ x y f (hsb W hf hx) (hsb W hf hy) (hbn hx) (hbn hy) (by omega) hc.2.2)).mono key
end Go.Proofs.Ytigcokgjikkohaa
