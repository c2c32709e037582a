/- Operations on a map from names to files. -/
import Derived.Test.YtigcokgjikkohaaRel
import Derived.StringKeys
namespace Go.Proofs.Ytigcokgjikkohaa
open Go.RowKit Go.Maps
set_option linter.unusedVariables false
set_option linter.unusedSimpArgs false

theorem lawS : Keyed Try.prog 9 := string_keyed Try.underlying9
theorem zeroP (w : World) : (zeroValue 73).run Try.prog w = .ok (.pointer none) w := by kernel_rfl
theorem keyS {k : ByteArray} (hk : k.size ≤ 9223372036854775807) : keyOf Try.prog 9 (.string k) = some (keyL k) := WideMaps.keyOf_string_mk Try.underlying9 (by unfold maxLen; omega)
theorem keyS_inv {v : Value} {kl : Lit} (h : keyOf Try.prog 9 v = some kl) : ∃ x : ByteArray, v = .string x := by
  cases v <;> simp [keyOf, Try.underlying9, mapKey] at h
  exact ⟨_, rfl⟩
theorem keyS_inv2 {x : ByteArray} {kl : Lit} (h : keyOf Try.prog 9 (.string x) = some kl) : kl = keyL x := by
  simp [keyOf, Try.underlying9, mapKey] at h
  exact h.2.symm

section
variable {w : World} {b n : Nat} {addr : Nat → Nat} {l : Pd.Names}
abbrev namesAt (w : World) (b n : Nat) (addr : Nat → Nat) (l : Pd.Names) : Prop := w.ownsMap Try.prog 9 ptrEl b n (toD addr l)

theorem names_len (h : namesAt w b n addr l) : namesAt w b l.length addr l := by
  obtain ⟨es, c, h1, h2, h3, h4⟩ := h
  refine ⟨es, c, h1, h2, ?_, h4⟩
  have := congrArg Maps.size h4
  rw [toD_size, Maps.size_eq, length_read] at this
  omega
theorem look_names (h : namesAt w b n addr l) {k : ByteArray} (hk : k.size ≤ 9223372036854775807) :
    (Instr.lookup 69 (.map (some b)) (.string k) true).run Try.prog w = .ok (.tuple #[optPtr ((Pd.find l k).map addr), .bool (Pd.find l k).isSome]) w := by
  obtain ⟨v, ps, hrun, hv⟩ := h.look_ok lawS Try.underlying69 (zeroP w) ptrEl_nil (keyS hk)
  rw [toD_has] at hrun
  rw [toD_at] at hv
  rw [hrun]
  cases hf : Pd.find l k with
  | none => rw [hf] at hv; rw [ptrEl_none hv]; rfl
  | some i => rw [hf] at hv; obtain ⟨m, hm, rfl⟩ := ptrEl_int hv; have : addr i = m := by omega
              subst this; rfl
theorem look_names1 (h : namesAt w b n addr l) {k : ByteArray} (hk : k.size ≤ 9223372036854775807) :
    (Instr.lookup 69 (.map (some b)) (.string k) false).run Try.prog w = .ok (optPtr ((Pd.find l k).map addr)) w := by
  obtain ⟨v, ps, hrun, hv⟩ := h.lookup lawS Try.underlying69 (zeroP w) ptrEl_nil (keyS hk)
  rw [toD_at] at hv
  rw [hrun]
  cases hf : Pd.find l k with
  | none => rw [hf] at hv; rw [ptrEl_none hv]; rfl
  | some i => rw [hf] at hv; obtain ⟨m, hm, rfl⟩ := ptrEl_int hv; have : addr i = m := by omega
              subst this; rfl
theorem len_names (h : namesAt w b n addr l) (ty : TypeId) : (Builtin.len_ #[69] ty #[.map (some b)]).run Try.prog w = .ok (.int .i64 l.length) w := by
  rw [h.len Try.underlying69 ty, toD_size]
theorem turned_fr {w w' : World} {b : Nat} (h : w.mapTurned w' b) : Fr (fun i => i = b) w w' := by
  have g := h.grown
  exact ⟨g.os, g.tape, g.output, g.size, fun k hk hn => g.block k hk (fun e => hn (by simpa using e))⟩
theorem store_names (h : namesAt w b n addr l) {k : ByteArray} (hk : k.size ≤ 9223372036854775807) (i : Nat) (hn : l.length < 9223372036854775807) :
    ∃ w', (Instr.mapUpdate 69 (.map (some b)) (.string k) (.pointer (some ⟨addr i, 0, none⟩))).run Try.prog w = .ok () w' ∧ namesAt w' b (Pd.put l k i).length addr (Pd.put l k i) ∧ Fr (fun i => i = b) w w' ∧ w'.heap.size = w.heap.size := by
  obtain ⟨w', hrun, h1, h2⟩ := (names_len h).store lawS Try.underlying69 (by unfold maxLen; omega) (keyS hk) (ptrEl_mk (addr i))
  rw [toD_put] at h1
  refine ⟨w', hrun, names_len h1, turned_fr h2, ?_⟩
  obtain ⟨es, c, es', c', _, rfl⟩ := h2
  simp [Go.ChangeMaps.setBlock]
theorem drop_names (h : namesAt w b n addr l) {k : ByteArray} (hk : k.size ≤ 9223372036854775807) (ty : TypeId) :
    ∃ w', (Builtin.delete_ #[69, 9] ty #[.map (some b), .string k]).run Try.prog w = .ok (.tuple #[]) w' ∧ namesAt w' b (Pd.del l k).length addr (Pd.del l k) ∧ Fr (fun i => i = b) w w' ∧ w'.heap.size = w.heap.size := by
  obtain ⟨w', hrun, h1, h2⟩ := (names_len h).drop lawS Try.underlying69 (keyS hk) ty
  rw [toD_del] at h1
  refine ⟨w', hrun, names_len h1, turned_fr h2, ?_⟩
  obtain ⟨es, c, es', c', _, rfl⟩ := h2
  simp [Go.ChangeMaps.setBlock]

/-- The step of a range over such a map. -/
theorem wpList_next_names {ops : Array Oper} {rest : List Oper} {o : Oper} {a : Act} {Q : Exit → Act → World → Prop} (w : World)
    (hg : o.guard = none) (it : Operand) (hop : o.op = Op.next it false) (b r n : Nat) (addr : Nat → Nat) (l : Pd.Names) (left : Lit → Bool) (cnt : Nat)
    (hit : a.eval it = .pointer (some ⟨r, 0, none⟩)) (h : w.ranges Try.prog 9 ptrEl b r n (toD addr l) left cnt)
    (hDone : cnt = 0 → (∀ kl, left kl = false) → wpList Try.prog ops Q rest (a.put o.dst (.tuple #[.bool false])) w)
    (hMore : ∀ (k : ByteArray) (i : Nat) (w' : World) (cnt' : Nat), Pd.find l k = some i → left (keyL k) = true →
      w'.ranges Try.prog 9 ptrEl b r n (toD addr l) (fun z => left z && !z.sameKey (keyL k)) cnt' → cnt' < cnt → w.grownBy w' (some r) → w'.heap.size = w.heap.size →
      (Instr.entry (.pointer (some ⟨r, 0, none⟩))).run Try.prog w' = .ok (.tuple #[.string k, .pointer (some ⟨addr i, 0, none⟩)]) w' →
      wpList Try.prog ops Q rest (a.put o.dst (.tuple #[.bool true, .string k, .pointer (some ⟨addr i, 0, none⟩)])) w') :
    wpList Try.prog ops Q (o :: rest) a w :=
  wpList_next_ranges w hg it hop 9 lawS ptrEl Value.string optPtr (fun key kl hk => keyS_inv hk) (fun v y hv => ptrEl_inv hv) b r n (toD addr l) left cnt hit h hDone
    (fun x c kl y w' cnt' hkey hl hR hat hrg hlt hgr hsz hen => by
      obtain rfl := keyS_inv2 hkey
      have hat0 := hat .nil
      rw [toD_at] at hat0
      cases hf : Pd.find l x with
      | none =>
        exfalso
        have h1 := hat (.lit (.bool true))
        have h2 := hat (.lit (.bool false))
        rw [toD_at, hf] at h1 h2
        have := h1.trans h2.symm
        simp at this
      | some i =>
        rw [hf] at hat0
        obtain ⟨m, hm, hc⟩ := ptrEl_int (v := optPtr c) (b := addr i) (ps := y.2) (by rw [hR, show y = (y.1, y.2) from rfl, ← hat0])
        have hm' : addr i = m := by omega
        subst hm'
        rw [hc] at hen ⊢
        exact hMore x i w' cnt' hf hl hrg hlt hgr hsz hen)
theorem names_nodup (h : namesAt w b n addr l) : l.Pairwise (fun p q => p.1 ≠ q.1) := by
  obtain ⟨es, he, hp, _⟩ := h.entries lawS
  unfold toD at he
  simp only [DataW.map.injEq] at he
  subst he
  rw [List.pairwise_map] at hp
  exact hp.imp (fun {p q} hpq e => hpq (by simp [entL, e]))
end

/-- What is still to come of a sum over the names. -/
def usedLeft (fs : List Pd.PFile) (l : Pd.Names) (left : Lit → Bool) : Nat := ((l.filter fun e => left (keyL e.1)).map fun e => (Pd.fileAt fs e.2).data.size).sum
theorem usedLeft_none (fs : List Pd.PFile) (l : Pd.Names) (left : Lit → Bool) (h : ∀ k, left k = false) : usedLeft fs l left = 0 := by
  have : (l.filter fun e => left (keyL e.1)) = [] := by rw [List.filter_eq_nil_iff]; intro e _; simp [h]
  simp [usedLeft, this]
theorem find_of_mem {l : Pd.Names} (hp : l.Pairwise (fun p q => p.1 ≠ q.1)) {e : ByteArray × Nat} (he : e ∈ l) : Pd.find l e.1 = some e.2 := by
  unfold Pd.find
  induction l with
  | nil => cases he
  | cons x r ih =>
    rw [List.pairwise_cons] at hp
    simp only [List.find?_cons]
    rcases List.mem_cons.1 he with rfl | he'
    · simp
    · have : x.1 ≠ e.1 := hp.1 e he'
      simp only [this, decide_false]
      exact ih hp.2 he'
theorem usedLeft_all (fs : List Pd.PFile) (addr : Nat → Nat) (l : Pd.Names) (hp : l.Pairwise (fun p q => p.1 ≠ q.1)) : usedLeft fs l (Maps.has (toD addr l)) = Pd.usedBy fs l := by
  have : (l.filter fun e => Maps.has (toD addr l) (keyL e.1)) = l := by
    rw [List.filter_eq_self]
    intro e he
    rw [toD_has, find_of_mem hp he]; rfl
  simp [usedLeft, Pd.usedBy, this]
theorem usedLeft_step (fs : List Pd.PFile) (l : Pd.Names) (left : Lit → Bool) (hp : l.Pairwise (fun p q => p.1 ≠ q.1)) {k : ByteArray} {i : Nat} (hf : Pd.find l k = some i) (hl : left (keyL k) = true) :
    usedLeft fs l (fun z => left z && !z.sameKey (keyL k)) + (Pd.fileAt fs i).data.size = usedLeft fs l left := by
  unfold usedLeft Pd.find at *
  induction l with
  | nil => simp at hf
  | cons x r ih =>
    rw [List.pairwise_cons] at hp
    simp only [List.find?_cons] at hf
    by_cases hx : x.1 = k
    · subst hx
      simp only [decide_true, Option.map_some, Option.some.injEq] at hf
      subst hf
      have h1 : (r.filter fun e => left (keyL e.1) && !(keyL e.1).sameKey (keyL x.1)) = r.filter fun e => left (keyL e.1) := by
        apply List.filter_congr
        intro e he
        rw [keyL_same]
        have : e.1 ≠ x.1 := fun h => hp.1 e he h.symm
        simp [this]
      simp only [List.filter_cons, hl, keyL_same, decide_true, Bool.not_true, Bool.and_false, if_true, List.map_cons, List.sum_cons, Bool.false_eq_true, if_false]
      simp only [keyL_same] at h1
      rw [h1]
      omega
    · simp only [hx, decide_false] at hf
      have := ih hp.2 hf
      simp only [List.filter_cons, keyL_same, hx, decide_false, Bool.not_false, Bool.and_true] at *
      split
      · simp only [List.map_cons, List.sum_cons]; omega
      · exact this
end Go.Proofs.Ytigcokgjikkohaa
