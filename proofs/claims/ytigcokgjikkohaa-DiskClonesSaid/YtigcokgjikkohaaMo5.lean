/- The model in memory; fails, apply, publish. -/
import Derived.Test.YtigcokgjikkohaaMo4
namespace Go.Proofs.Ytigcokgjikkohaa
open Go.RowKit Go.Maps Go.Sort
set_option linter.unusedVariables false
set_option linter.unusedSimpArgs false
def limZ : Option Nat → Int
  | none => -1
  | some n => n
def modelObj (s : Pd.PD) (fv nv dv pv : Value) : Obj := .cells #[.int .i64 s.cap, .int .i64 (limZ s.limit), .bool s.down, fv, nv, dv, pv] 56 (0, 0)
structure ModelP (w : World) (M : Nat → Prop) (m : Nat) (fv nv dv pv : Value) (s : Pd.PD) : Prop where
  cell : w.heap[m]? = some (modelObj s fv nv dv pv)
  lim : limZ s.limit ≤ 9223372036854775807
  hf : RdIn w M 2 fv s.files.length (filV s.files)
  hn : RdIn w M 2 nv s.names.length (entV s.names)
  hd : RdIn w M 2 dv s.durable.length (entV s.durable)
  hp : RdIn w M 3 pv s.pending.length (chV s.pending)
  hm : ¬ M m
def ModelAt (w : World) (M : Nat → Prop) (m : Nat) (s : Pd.PD) : Prop := ∃ fv nv dv pv, ModelP w M m fv nv dv pv s
/-- The blocks that the model may read behind a call. -/
def grown (w : World) (M : Nat → Prop) : Nat → Prop := fun b => M b ∨ w.heap.size ≤ b
def ModelTo (w : World) (M : Nat → Prop) (m : Nat) (s : Pd.PD) (w' : World) : Prop := ModelAt w' (grown w M) m s ∧ Fr (fun i => i = m) w w'
section
variable {w w' : World} {M S : Nat → Prop} {m : Nat} {fv nv dv pv : Value} {s s' : Pd.PD}
theorem ModelP.lt (h : ModelP w M m fv nv dv pv s) : m < w.heap.size := lt_of_some h.cell
theorem ModelP.kept (h : ModelP w M m fv nv dv pv s) (hf : Fr S w w') (hS : ∀ b, M b → b < w.heap.size → ¬ S b) (hm : ¬ S m) : ModelP w' M m fv nv dv pv s :=
  ⟨(hf.block m h.lt hm).trans h.cell, h.lim, h.hf.kept hf hS, h.hn.kept hf hS, h.hd.kept hf hS, h.hp.kept hf hS, h.hm⟩
theorem ModelAt.kept (h : ModelAt w M m s) (hf : Fr S w w') (hS : ∀ b, M b → b < w.heap.size → ¬ S b) (hm : ¬ S m) : ModelAt w' M m s :=
  let ⟨fv, nv, dv, pv, p⟩ := h; ⟨fv, nv, dv, pv, p.kept hf hS hm⟩
theorem ModelP.grow (h : ModelP w M m fv nv dv pv s) : ModelP w (grown w M) m fv nv dv pv s :=
  ⟨h.cell, h.lim, h.hf.mono (fun _ h _ => .inl h), h.hn.mono (fun _ h _ => .inl h), h.hd.mono (fun _ h _ => .inl h), h.hp.mono (fun _ h _ => .inl h), fun e => e.elim h.hm (fun e => by have := h.lt; omega)⟩
theorem ModelTo.same (h : ModelAt w M m s) (hf : Fr (fun _ => False) w w') : ModelTo w M m s w' :=
  let ⟨fv, nv, dv, pv, p⟩ := h
  ⟨⟨fv, nv, dv, pv, p.grow.kept hf (fun _ _ _ e => e) (fun e => e)⟩, hf.mono (fun i e => e.elim)⟩
theorem ModelTo.trans {w1 : World} (h1 : ModelTo w M m s w1) (h2 : ModelTo w1 (grown w M) m s' w') : ModelTo w M m s' w' := by
  obtain ⟨⟨fv, nv, dv, pv, p⟩, hf⟩ := h2
  have hg : ∀ b, grown w1 (grown w M) b → b < w'.heap.size → grown w M b := fun b hb _ => by
    rcases hb with hb | hb
    · exact hb
    · exact .inr (Nat.le_trans h1.2.size hb)
  refine ⟨⟨fv, nv, dv, pv, p.cell, p.lim, p.hf.mono hg, p.hn.mono hg, p.hd.mono hg, p.hp.mono hg, fun e => p.hm (.inl e)⟩, h1.2.trans hf (fun i e => .inl e)⟩
/-- The model's own cells are written: what it reads stays. -/
theorem ModelP.turn {fv' nv' dv' pv' : Value} (h : ModelP w M m fv nv dv pv s) (hf : Fr (fun i => i = m) w w') (hc : w'.heap[m]? = some (modelObj s' fv' nv' dv' pv')) (hl : limZ s'.limit ≤ 9223372036854775807)
    (h1 : RdIn w' (grown w M) 2 fv' s'.files.length (filV s'.files)) (h2 : RdIn w' (grown w M) 2 nv' s'.names.length (entV s'.names)) (h3 : RdIn w' (grown w M) 2 dv' s'.durable.length (entV s'.durable)) (h4 : RdIn w' (grown w M) 3 pv' s'.pending.length (chV s'.pending)) : ModelTo w M m s' w' :=
  ⟨⟨fv', nv', dv', pv', hc, hl, h1, h2, h3, h4, fun e => e.elim h.hm (fun e => by have := h.lt; omega)⟩, hf⟩
theorem RdIn.past {sz n : Nat} {v : Value} {ys : List Value} (h : RdIn w M sz v n ys) (hf : Fr (fun i => i = m) w w') (hm : ¬ M m) : RdIn w' (grown w M) sz v n ys :=
  (h.kept hf (fun b hb _ e => hm (e ▸ hb))).mono (fun _ h _ => .inl h)
theorem ModelP.cells (h : ModelP w M m fv nv dv pv s) : w.cell? ⟨m, 0, none⟩ = some (.int .i64 s.cap) ∧ w.cell? ⟨m, 1, none⟩ = some (.int .i64 (limZ s.limit)) ∧ w.cell? ⟨m, 2, none⟩ = some (.bool s.down) ∧ w.cell? ⟨m, 3, none⟩ = some fv ∧ w.cell? ⟨m, 4, none⟩ = some nv ∧ w.cell? ⟨m, 5, none⟩ = some dv ∧ w.cell? ⟨m, 6, none⟩ = some pv :=
  ⟨cell_at h.cell 0, cell_at h.cell 1, cell_at h.cell 2, cell_at h.cell 3, cell_at h.cell 4, cell_at h.cell 5, cell_at h.cell 6⟩
theorem ModelP.free (h : ModelP w M m fv nv dv pv s) (i : Nat) : w.frozen? ⟨m, i, none⟩ = false := free_at h.cell i
end
set_option maxRecDepth 100000 in
set_option maxHeartbeats 1000000 in
theorem mfails_any {w : World} {M : Nat → Prop} {m : Nat} {s : Pd.PD} (h : ModelAt w M m s) : Calls Try.prog 54 #[.pointer (some ⟨m, 0, none⟩)] w fun e w' => e = .returned (.bool s.tick.1) ∧ ModelTo w M m s.tick.2 w' := by
  obtain ⟨fv, nv, dv, pv, p⟩ := h
  obtain ⟨c0, c1, c2, c3, c4, c5, c6⟩ := p.cells
  have f1 := p.free 1
  have f2 := p.free 2
  have hl := p.lim
  have hz : (s.limit = none ∧ limZ s.limit = -1 ∧ s.tick = (false, s)) ∨ (s.limit = some 0 ∧ limZ s.limit = 0 ∧ s.tick = (true, { s with down := true })) ∨ ∃ n : Nat, 0 < n ∧ s.limit = some n ∧ limZ s.limit = (n : Int) ∧ s.tick = (false, { s with limit := some (n - 1) }) := by
    unfold Pd.PD.tick
    match s.limit with
    | none => exact .inl ⟨rfl, rfl, rfl⟩
    | some 0 => exact .inr (.inl ⟨rfl, rfl, rfl⟩)
    | some (k + 1) => exact .inr (.inr ⟨k + 1, Nat.succ_pos k, rfl, rfl, rfl⟩)
  have PP := Lib.hid p
  clear p c0 c3 c4 c5 c6
  rcases hz with ⟨z1, z2, z3⟩ | ⟨z1, z2, z3⟩ | ⟨k, z0, z1, z2, z3⟩
  · rw [z3]
    rw [z2] at c1
    clear z1 z2 z3 hl
    go_enter Try.func54, Try.ntmps54
    go_wp2
    go_ret
    exact ⟨rfl, ModelTo.same ⟨_, _, _, _, PP.out⟩ (Fr.refl _ _)⟩
  · rw [z3]
    rw [z2] at c1
    have Z1 := Lib.hid z1
    have HL := Lib.hid hl
    clear z1 z2 z3 hl
    go_enter Try.func54, Try.ntmps54
    go_wp2
    go_ret
    have hf : Fr (fun i => i = m) w (w.setCell ⟨m, 2, none⟩ (.bool true)) := (Fr.refl _ _).setCell _ _ (.inl rfl)
    have p := PP.out
    refine ⟨rfl, p.turn hf ?_ HL.out (p.hf.past hf p.hm) (p.hn.past hf p.hm) (p.hd.past hf p.hm) (p.hp.past hf p.hm)⟩
    exact (heap_set_same p.cell).trans rfl
  · rw [z3]
    rw [z2] at c1 hl
    have HL := Lib.hid hl
    have hw : IntKind.i64.wrap ((k : Int) - 1) = (k : Int) - 1 := IntWalk.i64_in _ (by omega)
    have hk1 : ¬ ((k : Int) = 0) := by omega
    have hk2 : 0 < (k : Int) := by omega
    clear z1 z2 z3 hl
    go_enter Try.func54, Try.ntmps54
    go_wp2
    go_ret
    have p := PP.out
    have hf : Fr (fun i => i = m) w (w.setCell ⟨m, 1, none⟩ (.int .i64 ((k : Int) - 1))) := (Fr.refl _ _).setCell _ _ (.inl rfl)
    have hcast : ((k - 1 : Nat) : Int) = (k : Int) - 1 := by omega
    refine ⟨rfl, p.turn hf ?_ (by show ((k - 1 : Nat) : Int) ≤ _; have := HL.out; omega) (p.hf.past hf p.hm) (p.hn.past hf p.hm) (p.hd.past hf p.hm) (p.hp.past hf p.hm)⟩
    refine (heap_set_same p.cell).trans ?_
    show some (Obj.cells #[_, .int .i64 ((k : Int) - 1), _, _, _, _, _] _ _) = some (Obj.cells #[_, .int .i64 ((k - 1 : Nat) : Int), _, _, _, _, _] _ _)
    rw [hcast]
set_option maxRecDepth 100000 in
set_option maxHeartbeats 1000000 in
theorem mpublish_any {w : World} {M : Nat → Prop} {m : Nat} {s : Pd.PD} (h : ModelAt w M m s) : Calls Try.prog 35 #[.pointer (some ⟨m, 0, none⟩)] w fun e w' => e = .returned (.int .i64 s.publish.1) ∧ ModelTo w M m s.publish.2 w' := by
  have H := Lib.hid h
  have hdn : w.cell? ⟨m, 2, none⟩ = some (.bool s.down) := by obtain ⟨_, _, _, _, p⟩ := h; exact p.cells.2.2.1
  clear h
  by_cases hd : s.down = true
  · have hr : s.publish = (18, s) := by unfold Pd.PD.publish; rw [if_pos hd]
    rw [hr]
    rw [hd] at hdn
    clear hr hd
    go_enter Try.func35, Try.ntmps35
    go_wp2
    go_ret
    exact ⟨rfl, ModelTo.same H.out (Fr.refl _ _)⟩
  · have hd : s.down = false := by simpa using hd
    rw [hd] at hdn
    rcases hb : s.tick.1 with _ | _
    · have hr : s.publish = (0, { s.tick.2 with durable := s.names, pending := [] }) := by unfold Pd.PD.publish; rw [if_neg (by rw [hd]; decide), if_neg (by rw [hb]; decide)]
      rw [hr]
      clear hr hd
      obtain ⟨t1, t2, t3, t4, t5⟩ := Pd.tick_same s
      have T3 := Lib.hid t3
      clear t1 t2 t3 t4 t5
      go_enter Try.func35, Try.ntmps35
      go_upto_region 5 with (go_at_call 54; refine (mfails_any H.out).mono ?_; rintro e w1 ⟨rfl, ⟨⟨fv, nv, dv, pv, p⟩, hf1⟩⟩; rw [hb])
      obtain ⟨an, capn, rfl, _⟩ := p.hn.slice
      obtain ⟨c0, c1, c2, c3, c4, c5, c6⟩ := p.cells
      have f5 := p.free 5
      have f6 := p.free 6
      have PP := Lib.hid p
      clear p c0 c1 c2 c3
      go_wp2
      go_ret
      have p := PP.out
      have hf : Fr (fun i => i = m) w1 ((w1.setCell ⟨m, 5, none⟩ (.slice an s.tick.2.names.length capn)).setCell ⟨m, 6, none⟩ (.slice none 0 0)) := ((Fr.refl (fun i => i = m) w1).setCell ⟨m, 5, none⟩ _ (.inl rfl)).setCell ⟨m, 6, none⟩ _ (.inl rfl)
      have ht : ModelTo w M m s.tick.2 w1 := ⟨⟨fv, _, dv, pv, p⟩, hf1⟩
      refine ⟨rfl, ht.trans (p.turn (dv' := .slice an s.tick.2.names.length capn) hf ?_ p.lim (p.hf.past hf p.hm) (p.hn.past hf p.hm) ?_ (RdIn.nil _ _ _))⟩
      · exact (heap_set_same (heap_set_same p.cell)).trans rfl
      · have hx := p.hn.past hf p.hm
        have e : (entV s.names).length = s.names.length * 2 := length_entV _
        have t3 := T3.out
        show RdIn _ _ 2 _ s.names.length (entV s.names)
        rw [t3] at hx ⊢
        exact hx
    · have hr : s.publish = (32, s.tick.2) := by unfold Pd.PD.publish; rw [if_neg (by rw [hd]; decide), if_pos hb]
      rw [hr]
      clear hr hd
      go_enter Try.func35, Try.ntmps35
      go_wp2_with (go_at_call 54; refine (mfails_any H.out).mono ?_; rintro e w1 ⟨rfl, ht1⟩; rw [hb])
      go_ret
      exact ⟨rfl, ht1⟩
end Go.Proofs.Ytigcokgjikkohaa
