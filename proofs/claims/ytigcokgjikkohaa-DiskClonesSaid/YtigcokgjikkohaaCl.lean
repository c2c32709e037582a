/- Clone. -/
import Derived.Test.YtigcokgjikkohaaW4
import Derived.Test.YtigcokgjikkohaaN2
import Derived.OrdersHeld
import Derived.Deep.RegionHeld
import Derived.LaidEqlPtr
import Derived.Deep.QuietTactic
import Derived.BigQuiet
import Derived.Test.YtigcokgjikkohaaS3
import Derived.Deep.RegionHeld3
namespace Go.Proofs.Ytigcokgjikkohaa
open Go.RowKit Go.Maps
open Go.ChangeMaps (setBlock heap_setBlock_same heap_setBlock_other)
set_option linter.unusedVariables false
set_option linter.unusedSimpArgs false
/-! ### a load of a region may be taken first where nobody writes its cell ahead of one last store -/
section
variable {P : Program} {ops : Array Oper} {Q : Exit → Act → World → Prop} {md : Region.Mode} {T : World → Prop} {g : Nat}
/-- In whatever order the operations come up, T holds behind each of them but g. -/
def Until (P : Program) (md : Region.Mode) (ops : Array Oper) (Q : Exit → Act → World → Prop) (T : World → Prop) (g : Nat) : Nat → Array Bool → Act → World → Prop
  | 0, listed, a, w => Region.ready md ops listed = [] ∧ Q .normal a w
  | fuel + 1, listed, a, w =>
    (Region.ready md ops listed = [] → Q .normal a w) ∧
    ∀ j ∈ Region.ready md ops listed, wpOp P ops Q j (fun a' w' => (j ≠ g → T w') ∧ Until P md ops Q T g fuel (listed.setIfInBounds j true) a' w') a w
theorem until_any : ∀ (fuel : Nat) (listed : Array Bool) (a : Act) (w : World), Until P md ops Q T g fuel listed a w → wpAny P md ops Q fuel listed a w
  | 0, _, _, _, h => h
  | fuel + 1, _, _, _, h => ⟨h.1, fun j hj => wpOp_mono (fun a' w' h' => until_any fuel _ a' w' h'.2) (h.2 j hj)⟩
theorem until_first {i : Nat} {oi og : Oper} {v : Value} (hi : ops[i]? = some oi) (hsel : ∀ (j : Nat) (o : Oper) cs b, ops[j]? = some o → o.op ≠ .select cs b)
    (hQ : ∀ c a w, Q (.panic c) (a.put oi.dst v) w → Q (.panic c) a w) (hog : ops[g]? = some og) (hge : ∃ e ∈ og.after, Region.binds md e = true ∧ e.on = i) :
    ∀ (fuel : Nat) (listed : Array Bool) (a : Act) (w : World),
      (∀ j oj, ops[j]? = some oj → j ≠ i → listed.getD j true = false → (∀ e ∈ oj.after, Region.binds md e = true → e.on ≠ i) → oi.apart ops oj = true) →
      i ∈ Region.ready md ops listed → YieldsIf P ops T oi v a → T w →
      Until P md ops Q T g fuel (listed.setIfInBounds i true) (a.put oi.dst v) w → Until P md ops Q T g (fuel + 1) listed a w := by
  have hwait : ∀ (listed : Array Bool) (j : Nat) (oj : Oper), i ∈ Region.ready md ops listed → (∀ e ∈ oj.after, Region.binds md e = true → listed.getD e.on false = true) → ∀ e ∈ oj.after, Region.binds md e = true → e.on ≠ i := by
    intro listed j oj hr hall e he hb heq
    have h1 := hall e he hb
    have h0 := (mem_ready.1 hr).1
    rw [heq] at h1
    rcases Nat.lt_or_ge i listed.size with h' | h'
    · simp [h'] at h0 h1; rw [h0] at h1; cases h1
    · simp [Array.getElem?_eq_none h'] at h1
  intro fuel
  induction fuel with
  | zero =>
    intro listed a w _ hr hy hT H
    refine ⟨fun h => (by rw [h] at hr; cases hr), fun j hj => ?_⟩
    by_cases hji : j = i
    · subst hji; exact hy.wpOp hi hT ⟨fun _ => hT, H⟩
    · have := ready_mono hj hji
      rw [H.1] at this
      cases this
  | succ fuel ih =>
    intro listed a w hfree hr hy hT H
    refine ⟨fun h => (by rw [h] at hr; cases hr), fun j hj => ?_⟩
    by_cases hji : j = i
    · subst hji; exact hy.wpOp hi hT ⟨fun _ => hT, H⟩
    · have h1 := H.2 j (ready_mono hj hji)
      obtain ⟨hjun, oj, hoj, hall⟩ := mem_ready.1 hj
      have hnot := hwait listed j oj hr hall
      have hjg : j ≠ g := by
        rintro rfl
        rw [hog] at hoj
        cases hoj
        obtain ⟨e, he, hb, hon⟩ := hge
        exact hnot e he hb hon
      have h2 := wpOp_putIf hoj (hfree j oj hoj hji hjun hnot) (fun cs b => hsel i oi cs b hi) (fun cs b => hsel j oj cs b hoj) hQ hy h1
      refine wpOp_mono (fun a' w' h3 => ⟨h3.2.1, ih (listed.setIfInBounds j true) a' w' ?_ (ready_mono hr (Ne.symm hji)) h3.1 (h3.2.1 hjg) ?_⟩) h2
      · intro k ok hk hki hun hno
        refine hfree k ok hk hki ?_ hno
        by_cases hjk : j = k
        · subst hjk; exact hjun
        · rw [getD_set_ne true hjk] at hun; exact hun
      · rw [Array.setIfInBounds_comm _ _ hji]
        exact h3.2.2
theorem until_take {i : Nat} {oi og : Oper} {v : Value} {fuel : Nat} {listed : Array Bool} {a : Act} {w : World} (hi : ops[i]? = some oi) (hs : Region.noSelect ops = true) (hf : Region.free md ops listed i = true) (hr : (Region.ready md ops listed).contains i = true)
    (hQ : ∀ c a w, Q (.panic c) (a.put oi.dst v) w → Q (.panic c) a w) (hog : ops[g]? = some og) (hge : (og.after.any fun e => Region.binds md e && e.on == i) = true) (hy : YieldsIf P ops T oi v a) (hT : T w)
    (h : Until P md ops Q T g fuel (listed.setIfInBounds i true) (a.put oi.dst v) w) : Until P md ops Q T g (fuel + 1) listed a w := by
  refine until_first hi (Region.noSelect_spec hs) hQ hog ?_ fuel listed a w (Region.free_spec hi hf) (by simpa using hr) hy hT h
  obtain ⟨j, hj, he⟩ := Array.any_eq_true.1 hge
  simp only [Bool.and_eq_true, beq_iff_eq] at he
  exact ⟨_, Array.getElem_mem _, he.1, he.2⟩
theorem until_step {j : Nat} {o : Oper} {fuel : Nat} {listed : Array Bool} {a : Act} {w : World} (hr : Region.ready md ops listed = [j]) (ho : ops[j]? = some o)
    (h : ∀ K' : Act → World → Prop, Shut (∀ a' w', (j ≠ g → T w') → Until P md ops Q T g fuel (listed.setIfInBounds j true) a' w' → K' a' w') → if Region.wanted o (yielded ops a.tmps) = true then Oper.wp P o a w K' Q else K' (a.put o.dst undef) w) :
    Until P md ops Q T g (fuel + 1) listed a w := by
  refine ⟨fun h0 => (by rw [hr] at h0; cases h0), fun i hi => ?_⟩
  rw [hr] at hi
  obtain rfl : i = j := by simpa using hi
  exact wpOp_step ho (fun K' hK => h K' (fun a w h1 h2 => hK a w ⟨h1, h2⟩))
theorem until_done {listed : Array Bool} {a : Act} {w : World} (hr : Region.ready md ops listed = []) (h : Q .normal a w) : ∀ fuel, Until P md ops Q T g fuel listed a w
  | 0 => ⟨hr, h⟩
  | _ + 1 => ⟨fun _ => h, by rw [hr]; simp⟩
theorem region_until {id : Nat} {a : Act} {w : World} (hm : P.follows .mixedOrders = true) (h : Until P .any ops Q T g ops.size (Array.replicate ops.size false) a w.drew) : (Code.region id ops true).wp P Q a w :=
  wp_region_any hm (until_any _ _ _ _ h)
end
/-- A block of plain cells. -/
def cellsAt (w : World) (b : Nat) : Prop := ∃ cs t, w.heap[b]? = some (.cells cs t (0, 0))
def pairEnt (p : Nat × Nat) (e : MapEntry) : Prop := e.key = ptrV p.1 ∧ e.val = ptrV p.2
/-- Block b holds a map from pointers to pointers: the pairs ps, in the order of their coming. -/
def PtrMap (w : World) (b : Nat) (ps : List (Nat × Nat)) : Prop :=
  ∃ es clock, w.heap[b]? = some (.map es clock) ∧ es.toList.map (fun e => (e.key, e.val)) = ps.map fun p => (ptrV p.1, ptrV p.2)
def pfind (ps : List (Nat × Nat)) (k : Nat) : Option Nat := (ps.find? fun p => p.1 == k).map (·.2)
section
variable {P : Program} {w w' : World} {kt te mt : TypeId} {j : TypeInfo}
theorem cellsAt.kept {S : Nat → Prop} {b : Nat} (h : cellsAt w b) (hf : Fr S w w') (hS : ¬ S b) : cellsAt w' b :=
  let ⟨cs, t, h⟩ := h; ⟨cs, t, (hf.block b (lt_of_some h) hS).trans h⟩
theorem run_equal_ptrs (hp : P.underlying kt = some (.pointer te)) (hte : P.info? te = some j) (hsz : j.size ≠ 0) {a b : Nat} (ha : cellsAt w a) (hb : cellsAt w b) :
    (Op.equal kt (ptrV a) (ptrV b)).run P w = .ok (a == b) w := by
  obtain ⟨ca, ta, ha⟩ := ha
  obtain ⟨cb, tb, hb⟩ := hb
  by_cases e : a = b
  · subst e
    have h : ∀ d : Nat, (Op.equalIn (d + 1) kt (ptrV a) (ptrV a)).run P w = .ok true w := fun d => by
      simp [Op.equalIn, run_underlying hp, sizeOf, typeInfo, hte, run_sameAddr_same]
    simp [Op.equal, Op.maxDepth, h 9999]
  · have hne : (⟨a, 0, none⟩ : Addr) ≠ ⟨b, 0, none⟩ := fun h => e (by cases h; rfl)
    have h : ∀ d : Nat, (Op.equalIn (d + 1) kt (ptrV a) (ptrV b)).run P w = .ok false w := fun d => by
      simp [Op.equalIn, run_underlying hp, sizeOf, typeInfo, hte, hsz, run_sameAddr_other w hne ha hb]
    simp [Op.equal, Op.maxDepth, h 9999, e]
theorem run_findAsking_ptrs (hp : P.underlying kt = some (.pointer te)) (hte : P.info? te = some j) (hsz : j.size ≠ 0) {k : Nat} (hk : cellsAt w k) :
    ∀ (es : List MapEntry) (ps : List (Nat × Nat)) (i : Nat), es.map (fun e => (e.key, e.val)) = ps.map (fun p => (ptrV p.1, ptrV p.2)) → (∀ p ∈ ps, cellsAt w p.1) →
      ∃ r, (Instr.findAsking kt (ptrV k) es i).run P w = .ok r w ∧ match pfind ps k with
        | none => r = none
        | some v => ∃ i', r = some (i', ptrV v)
  | [], [], i, _, _ => ⟨none, by simp [Instr.findAsking], rfl⟩
  | [], _ :: _, i, h, _ => by simp at h
  | _ :: _, [], i, h, _ => by simp at h
  | e :: es, p :: ps, i, h, hc => by
    simp only [List.map_cons, List.cons.injEq, Prod.mk.injEq] at h
    obtain ⟨⟨h1, h2⟩, h3⟩ := h
    have he := run_equal_ptrs hp hte hsz hk (hc p List.mem_cons_self)
    by_cases hkp : k = p.1
    · refine ⟨some (i, e.val), ?_, ?_⟩
      · subst hkp
        simp only [beq_self_eq_true] at he
        simp [Instr.findAsking, h1, he, Result.andThen]
      · unfold pfind
        rw [List.find?_cons_of_pos (by simp [hkp])]
        exact ⟨i, by rw [h2]⟩
    · obtain ⟨r, hr, hm⟩ := run_findAsking_ptrs hp hte hsz hk es ps (i + 1) h3 (fun q hq => hc q (List.mem_cons_of_mem _ hq))
      refine ⟨r, ?_, ?_⟩
      · have : (k == p.1) = false := by simpa using hkp
        rw [this] at he
        simp [Instr.findAsking, h1, he, hr, Result.andThen]
      · unfold pfind at hm ⊢
        rw [List.find?_cons_of_neg (by simp; exact fun e => hkp e.symm)]
        exact hm
theorem run_findKey_ptrs (hp : P.underlying kt = some (.pointer te)) (hte : P.info? te = some j) (hsz : j.size ≠ 0) {k : Nat} (hk : cellsAt w k)
    (es : List MapEntry) (ps : List (Nat × Nat)) (h : es.map (fun e => (e.key, e.val)) = ps.map (fun p => (ptrV p.1, ptrV p.2))) (hc : ∀ p ∈ ps, cellsAt w p.1) :
      ∃ r, (Instr.findKey kt (ptrV k) es).run P w = .ok r w ∧ match pfind ps k with
        | none => r = none
        | some v => ∃ i', r = some (i', ptrV v) := by
  cases es with
  | nil =>
    obtain rfl : ps = [] := by cases ps with
      | nil => rfl
      | cons _ _ => simp at h
    exact ⟨none, by simp [Instr.findKey, run_underlying hp, Instr.findNow], rfl⟩
  | cons e es =>
    obtain ⟨r, hr, hm⟩ := run_findAsking_ptrs (w := w) hp hte hsz hk (e :: es) ps 0 h hc
    refine ⟨r, ?_, hm⟩
    have hn : Instr.findNow (.pointer te) (ptrV k) (e :: es) 0 = none := by simp [Instr.findNow, Instr.sameNow]
    simp [Instr.findKey, run_underlying hp, hn, hr, Result.andThen]
theorem run_checkKey_ptr' (hp : P.underlying kt = some (.pointer te)) (em : Bool) (v : Value) (n : Nat) : (Instr.checkKey em (n + 1) kt v).run P w = .ok () w := by
  unfold Instr.checkKey
  simp [run_underlying hp]
theorem run_checkKey_ptr (hp : P.underlying kt = some (.pointer te)) (em : Bool) (v : Value) : (Instr.checkKey em 10000 kt v).run P w = .ok () w := run_checkKey_ptr' hp em v 9999
/-- The look-up of a pointer. -/
theorem ptr_lookup (hm : P.underlying mt = some (.map kt kt)) (hp : P.underlying kt = some (.pointer te)) (hte : P.info? te = some j) (hsz : j.size ≠ 0) (hz : (zeroValue kt).run P w = .ok (.pointer none) w) {b : Nat} {ps : List (Nat × Nat)} (h : PtrMap w b ps) {k : Nat} (hk : cellsAt w k) (hc : ∀ p ∈ ps, cellsAt w p.1) :
    (Instr.lookup mt (.map (some b)) (ptrV k) false).run P w = .ok (optPtr (pfind ps k)) w := by
  obtain ⟨es, clock, hb, he⟩ := h
  obtain ⟨r, hr, hf⟩ := run_findKey_ptrs (P := P) hp hte hsz hk es.toList ps he hc
  cases hq : pfind ps k with
  | none =>
    rw [hq] at hf
    dsimp only at hf
    subst hf
    simp [Instr.lookup, run_underlying hm, MapKept.run_getObj_map hb, run_checkKey_ptr hp, hr, hz, Result.andThen, optPtr]
  | some v =>
    rw [hq] at hf
    dsimp only at hf
    obtain ⟨i', rfl⟩ := hf
    simp [Instr.lookup, run_underlying hm, MapKept.run_getObj_map hb, run_checkKey_ptr hp, hr, Result.andThen, optPtr]
/-- A new pointer is stored. -/
theorem ptr_update (hm : P.underlying mt = some (.map kt kt)) (hp : P.underlying kt = some (.pointer te)) (hte : P.info? te = some j) (hsz : j.size ≠ 0) {b : Nat} {ps : List (Nat × Nat)} (h : PtrMap w b ps) {k v : Nat} (hk : cellsAt w k) (hc : ∀ p ∈ ps, cellsAt w p.1) (hn : pfind ps k = none) :
    ∃ w', (Instr.mapUpdate mt (.map (some b)) (ptrV k) (ptrV v)).run P w = .ok () w' ∧ PtrMap w' b (ps ++ [(k, v)]) ∧ Fr (fun i => i = b) w w' := by
  obtain ⟨es, clock, hb, he⟩ := h
  obtain ⟨r, hr, hf⟩ := run_findKey_ptrs (P := P) hp hte hsz hk es.toList ps he hc
  rw [hn] at hf
  dsimp only at hf
  subst hf
  refine ⟨setBlock w b (.map (es.push { key := ptrV k, val := ptrV v, born := clock }) (clock + 1)), ?_, ⟨_, _, heap_setBlock_same hb _, ?_⟩, ⟨rfl, rfl, rfl, by simp [setBlock], fun i _ hi => heap_setBlock_other hb _ (fun e => hi e)⟩⟩
  · simp [Instr.mapUpdate, run_underlying hm, MapKept.run_getObj_map hb, run_checkKey_ptr hp, hr, MapKept.run_setObj_map _ hb, Result.andThen, setBlock]
  · simp [he]
end

/-- The look-up of the nil pointer. -/
theorem run_findAsking_nil {P : Program} {w : World} {kt te : TypeId} (hp : P.underlying kt = some (.pointer te)) : ∀ (es : List MapEntry) (ps : List (Nat × Nat)) (i : Nat), es.map (fun e => (e.key, e.val)) = ps.map (fun p => (ptrV p.1, ptrV p.2)) → (Instr.findAsking kt (.pointer none) es i).run P w = .ok none w
  | [], _, i, _ => by simp [Instr.findAsking]
  | _ :: _, [], i, h => by simp at h
  | e :: es, p :: ps, i, h => by
    simp only [List.map_cons, List.cons.injEq, Prod.mk.injEq] at h
    obtain ⟨⟨h1, h2⟩, h3⟩ := h
    have ih := run_findAsking_nil (w := w) hp es ps (i + 1) h3
    have he : (Op.equal kt (.pointer none) (ptrV p.1)).run P w = .ok false w := by
      have h : ∀ d : Nat, (Op.equalIn (d + 1) kt (.pointer none) (ptrV p.1)).run P w = .ok false w := fun d => by
        simp [Op.equalIn, run_underlying hp]
      simp [Op.equal, Op.maxDepth, h 9999]
    simp [Instr.findAsking, h1, he, ih, Result.andThen]
theorem ptr_lookup_nil {P : Program} {w : World} {kt te mt : TypeId} (hm : P.underlying mt = some (.map kt kt)) (hp : P.underlying kt = some (.pointer te)) (hz : (zeroValue kt).run P w = .ok (.pointer none) w) {b : Nat} {ps : List (Nat × Nat)} (h : PtrMap w b ps) :
    (Instr.lookup mt (.map (some b)) (.pointer none) false).run P w = .ok (.pointer none) w := by
  obtain ⟨es, clock, hb, he⟩ := h
  have hf : (Instr.findKey kt (.pointer none) es.toList).run P w = .ok none w := by
    cases hes : es.toList with
    | nil => simp [Instr.findKey, run_underlying hp, Instr.findNow]
    | cons e r =>
      have hn : Instr.findNow (.pointer te) (.pointer none) (e :: r) 0 = none := by simp [Instr.findNow, Instr.sameNow]
      rw [hes] at he
      simp [Instr.findKey, run_underlying hp, hn, run_findAsking_nil (w := w) hp _ _ 0 he, Result.andThen]
  simp [Instr.lookup, run_underlying hm, MapKept.run_getObj_map hb, run_checkKey_ptr hp, hf, hz, Result.andThen]

namespace Pd
theorem bef_asym : ∀ a b : List UInt8, bytesBefore a b = true → bytesBefore b a = true → False
  | [], [], h, _ => by simp [bytesBefore] at h
  | [], _ :: _, _, h => by simp [bytesBefore] at h
  | _ :: _, [], h, _ => by simp [bytesBefore] at h
  | a :: r, b :: s, h, h' => by
    simp only [bytesBefore, Bool.or_eq_true, decide_eq_true_eq, Bool.and_eq_true, beq_iff_eq, UInt8.lt_iff_toNat_lt] at h h'
    rcases h with h | ⟨rfl, h⟩
    · rcases h' with h' | ⟨rfl, h'⟩
      · omega
      · omega
    · rcases h' with h' | ⟨_, h'⟩
      · omega
      · exact bef_asym r s h h'
theorem nbef_ne {a b : ByteArray} (h : nbef a b = true) : a ≠ b := by
  rintro rfl
  exact bef_asym _ _ h h
theorem ins_filter {k : ByteArray} {i : Nat} {p p' : ByteArray × Nat → Bool} : ∀ {l : Names}, (l.Pairwise fun p q => nbef p.1 q.1 = true) → (k, i) ∈ l → p (k, i) = false → p' (k, i) = true → (∀ e ∈ l, e ≠ (k, i) → p' e = p e) → ins (k, i) (l.filter p) = l.filter p'
  | [], _, he, _, _, _ => by cases he
  | e :: r, hr, he, hp, hp1, hpp => by
    rw [List.pairwise_cons] at hr
    by_cases hek : e = (k, i)
    · subst hek
      have hrest : r.filter p' = r.filter p := List.filter_congr fun x hx => hpp x (List.mem_cons_of_mem _ hx) (fun h => by subst h; exact nbef_ne (hr.1 _ hx) rfl)
      rw [List.filter_cons_of_neg (by simp [hp]), List.filter_cons_of_pos hp1, hrest]
      cases hf : r.filter p with
      | nil => rfl
      | cons y s =>
        have hy : y ∈ r := (List.mem_filter.1 (hf ▸ List.mem_cons_self : y ∈ r.filter p)).1
        show (if nbef k y.1 then (k, i) :: y :: s else y :: ins (k, i) s) = _
        rw [if_pos (hr.1 y hy)]
    · have hmem : (k, i) ∈ r := by
        rcases List.mem_cons.1 he with h | h
        · exact absurd h.symm hek
        · exact h
      have ih := ins_filter hr.2 hmem hp hp1 (fun x hx => hpp x (List.mem_cons_of_mem _ hx))
      have hb := hr.1 _ hmem
      have hpe := hpp e List.mem_cons_self hek
      cases hq : p e with
      | true =>
        rw [hq] at hpe
        rw [List.filter_cons_of_pos hq, List.filter_cons_of_pos hpe, ← ih]
        show (if nbef k e.1 then (k, i) :: e :: r.filter p else e :: ins (k, i) (r.filter p)) = _
        have hk : nbef k e.1 = false := by
          cases h : nbef k e.1 with
          | false => rfl
          | true => exact (bef_asym _ _ hb h).elim
        rw [hk]
        rfl
      | false =>
        rw [hq] at hpe
        rw [List.filter_cons_of_neg (by simp [hq]), List.filter_cons_of_neg (by simp [hpe]), ih]
theorem put_filter {k : ByteArray} {i : Nat} {p p' : ByteArray × Nat → Bool} {l : Names} (hr : l.Pairwise fun p q => nbef p.1 q.1 = true) (he : (k, i) ∈ l) (hp : p (k, i) = false) (hp1 : p' (k, i) = true) (hpp : ∀ e ∈ l, e ≠ (k, i) → p' e = p e) : put (l.filter p) k i = l.filter p' := by
  have hd : del (l.filter p) k = l.filter p := by
    unfold del
    rw [List.filter_eq_self]
    intro e hm
    obtain ⟨hm1, hm2⟩ := List.mem_filter.1 hm
    simp only [Bool.not_eq_true', decide_eq_false_iff_not]
    intro hk
    have : e = (k, i) := by
      clear hm hm2 hp hp1 hpp
      induction l with
      | nil => cases hm1
      | cons x r ih =>
        rw [List.pairwise_cons] at hr
        rcases List.mem_cons.1 hm1 with rfl | h1
        · rcases List.mem_cons.1 he with h2 | h2
          · exact h2.symm
          · exact absurd hk (nbef_ne (hr.1 _ h2))
        · rcases List.mem_cons.1 he with rfl | h2
          · exact absurd hk.symm (nbef_ne (hr.1 _ h1))
          · exact ih hr.2 h2 h1
    subst this
    rw [hp] at hm2
    cases hm2
  unfold put
  rw [hd]
  exact ins_filter hr he hp hp1 hpp
end Pd

/-- The copies made so far: box bx holds the map cb; the files of ks have the copies addr'. -/
structure Cps (w : World) (bx cb : Nat) (addr addr' : Nat → Nat) (L : Nat → Prop) (fs : List Pd.PFile) (B : Nat) (ks : List Nat) : Prop where
  box : w.heap[bx]? = some (.cells #[.map (some cb)] 100 (0, 0))
  map : PtrMap w cb (ks.map fun k => (addr k, addr' k))
  mem : ∀ k ∈ ks, L k
  old : ∀ k, L k → w.heap[addr k]? = some (fileObj (Pd.fileAt fs k))
  inj : ∀ k k', L k → L k' → addr k = addr k' → k = k'
  new : ∀ k ∈ ks, w.heap[addr' k]? = some (fileObj (Pd.fileAt fs k))
  injn : ∀ k ∈ ks, ∀ k' ∈ ks, addr' k = addr' k' → k = k'
  low : ∀ k ∈ ks, B ≤ addr' k
section
variable {w w' : World} {bx cb B : Nat} {addr addr' : Nat → Nat} {L S : Nat → Prop} {fs : List Pd.PFile} {ks : List Nat}
theorem pfind_map (inj : ∀ k k', L k → L k' → addr k = addr k' → k = k') {k : Nat} (hk : L k) : ∀ (ks : List Nat), (∀ j ∈ ks, L j) → pfind (ks.map fun j => (addr j, addr' j)) (addr k) = if k ∈ ks then some (addr' k) else none
  | [], _ => rfl
  | j :: r, hm => by
    have ih := pfind_map inj hk r (fun i hi => hm i (List.mem_cons_of_mem _ hi))
    unfold pfind at ih ⊢
    by_cases e : j = k
    · subst e
      rw [List.map_cons, List.find?_cons_of_pos (by simp), if_pos List.mem_cons_self]
      rfl
    · have hne : ¬ (addr j == addr k) = true := by
        rw [beq_iff_eq]
        exact fun h => e (inj _ _ (hm j List.mem_cons_self) hk h)
      rw [List.map_cons, List.find?_cons_of_neg (p := fun p : Nat × Nat => p.1 == addr k) hne, ih]
      have : (k ∈ j :: r) ↔ k ∈ r := by simp [Ne.symm e]
      by_cases hkr : k ∈ r
      · rw [if_pos hkr, if_pos (this.2 hkr)]
      · rw [if_neg hkr, if_neg (fun h => hkr (this.1 h))]
theorem PtrMap.kept {ps : List (Nat × Nat)} (h : PtrMap w cb ps) (hf : Fr S w w') (hS : ¬ S cb) : PtrMap w' cb ps :=
  let ⟨es, c, h1, h2⟩ := h; ⟨es, c, (hf.block cb (lt_of_some h1) hS).trans h1, h2⟩
theorem Cps.kept (h : Cps w bx cb addr addr' L fs B ks) (hf : Fr S w w') (hS : ∀ b, cellsAt w b → ¬ S b) (hc : ¬ S cb) : Cps w' bx cb addr addr' L fs B ks :=
  ⟨(hf.block bx (lt_of_some h.box) (hS _ ⟨_, _, h.box⟩)).trans h.box, h.map.kept hf hc, h.mem, fun k hk => (hf.block _ (lt_of_some (h.old k hk)) (hS _ ⟨_, _, h.old k hk⟩)).trans (h.old k hk), h.inj,
    fun k hk => (hf.block _ (lt_of_some (h.new k hk)) (hS _ ⟨_, _, h.new k hk⟩)).trans (h.new k hk), h.injn, h.low⟩
theorem Cps.keys (h : Cps w bx cb addr addr' L fs B ks) : ∀ p ∈ ks.map (fun k => (addr k, addr' k)), cellsAt w p.1 := by
  intro p hp
  obtain ⟨k, hk, rfl⟩ := List.mem_map.1 hp
  exact ⟨_, _, h.old k (h.mem k hk)⟩
theorem info_file : (Try.prog.info? 76).map (fun i => i.size) = some 2 := by kernel_rfl
theorem file_info : ∃ j, Try.prog.info? 76 = some j ∧ j.size ≠ 0 := by
  have h := info_file
  rw [Option.map_eq_some_iff] at h
  obtain ⟨j, h1, h2⟩ := h
  exact ⟨j, h1, by omega⟩
theorem Cps.look (h : Cps w bx cb addr addr' L fs B ks) {k : Nat} (hk : L k) : (Instr.lookup 100 (.map (some cb)) (ptrV (addr k)) false).run Try.prog w = .ok (if k ∈ ks then ptrV (addr' k) else .pointer none) w := by
  obtain ⟨j, hj, hsz⟩ := file_info
  have := ptr_lookup (mt := 100) Try.underlying100 Try.underlying73 hj hsz (zeroP w) h.map (k := addr k) ⟨_, _, h.old k hk⟩ h.keys
  rw [this, pfind_map h.inj hk ks h.mem]
  split <;> rfl
theorem Cps.look_nil (h : Cps w bx cb addr addr' L fs B ks) : (Instr.lookup 100 (.map (some cb)) (.pointer none) false).run Try.prog w = .ok (.pointer none) w :=
  ptr_lookup_nil (mt := 100) Try.underlying100 Try.underlying73 (zeroP w) h.map
/-- A file is copied. -/
theorem Cps.copy (h : Cps w bx cb addr addr' L fs B ks) {k : Nat} (hk : L k) (hn : k ∉ ks) (hB : B ≤ w.heap.size) :
    ∃ w', (Instr.mapUpdate 100 (.map (some cb)) (ptrV (addr k)) (ptrV w.heap.size)).run Try.prog (w.alloc (fileObj (Pd.fileAt fs k))) = .ok () w' ∧
      Cps w' bx cb addr (fun j => if j = k then w.heap.size else addr' j) L fs B (ks ++ [k]) ∧ Fr (fun i => i = cb) w w' := by
  obtain ⟨j, hj, hsz⟩ := file_info
  have h1 := h.kept ((Fr.refl (fun _ => False) w).alloc (fileObj (Pd.fileAt fs k))) (fun _ _ e => e) (fun e => e)
  obtain ⟨w', hrun, hm, hf⟩ := ptr_update (mt := 100) Try.underlying100 Try.underlying73 hj hsz h1.map (k := addr k) (v := w.heap.size) ⟨_, _, h1.old k hk⟩ h1.keys (by rw [pfind_map h.inj hk ks h.mem, if_neg hn])
  have hlt : ∀ j ∈ ks, addr' j < w.heap.size := fun j hj => lt_of_some (h.new j hj)
  have hcm : ∀ b cs t, (w.alloc (fileObj (Pd.fileAt fs k))).heap[b]? = some (.cells cs t (0, 0)) → b ≠ cb := by
    rintro b cs t hb rfl
    obtain ⟨es, c, he, _⟩ := h1.map
    rw [hb] at he
    cases he
  have hks : ∀ j ∈ ks, j ≠ k := fun j hj e => hn (e ▸ hj)
  refine ⟨w', hrun, ⟨?_, ?_, ?_, ?_, h.inj, ?_, ?_, ?_⟩, ((Fr.refl (fun i => i = cb) w).alloc _).trans hf (fun i e => .inl e)⟩
  · exact (hf.block bx (lt_of_some h1.box) (hcm _ _ _ h1.box)).trans h1.box
  · rw [List.map_append, List.map_singleton, if_pos rfl]
    have e : (ks.map fun j => (addr j, if j = k then w.heap.size else addr' j)) = ks.map fun j => (addr j, addr' j) := List.map_congr_left fun j hj => by rw [if_neg (hks j hj)]
    rw [e]
    exact hm
  · intro j hj
    rcases List.mem_append.1 hj with hj | hj
    · exact h.mem j hj
    · simp at hj; subst hj; exact hk
  · exact fun j hj => (hf.block _ (lt_of_some (h1.old j hj)) (hcm _ _ _ (h1.old j hj))).trans (h1.old j hj)
  · intro j hj
    rcases List.mem_append.1 hj with hj | hj
    · rw [if_neg (hks j hj)]
      exact (hf.block _ (lt_of_some (h1.new j hj)) (hcm _ _ _ (h1.new j hj))).trans (h1.new j hj)
    · simp at hj; subst hj
      rw [if_pos rfl]
      have ht := heap_alloc_this w (fileObj (Pd.fileAt fs j))
      exact (hf.block _ (lt_of_some ht) (hcm _ _ _ ht)).trans ht
  · intro j hj j' hj' e
    have hx : ∀ j ∈ ks ++ [k], (if j = k then w.heap.size else addr' j) = w.heap.size → j = k := by
      intro j hj e
      rcases List.mem_append.1 hj with hj | hj
      · rw [if_neg (hks j hj)] at e
        have := hlt j hj
        omega
      · simpa using hj
    by_cases e1 : j = k
    · subst e1
      rw [if_pos rfl] at e
      exact (hx j' hj' e.symm).symm
    · by_cases e2 : j' = k
      · subst e2
        rw [if_pos rfl] at e
        exact hx j hj e
      · rw [if_neg e1, if_neg e2] at e
        have m1 : j ∈ ks := by rcases List.mem_append.1 hj with h | h; exact h; simp at h; exact absurd h e1
        have m2 : j' ∈ ks := by rcases List.mem_append.1 hj' with h | h; exact h; simp at h; exact absurd h e2
        exact h.injn j m1 j' m2 e
  · intro j hj
    rcases List.mem_append.1 hj with hj | hj
    · rw [if_neg (hks j hj)]; exact h.low j hj
    · simp at hj; subst hj; rw [if_pos rfl]; exact hB
end
/-- A file has been copied (or had been before). -/
def Copied (w : World) (bx cb : Nat) (addr addr' : Nat → Nat) (L : Nat → Prop) (fs : List Pd.PFile) (B : Nat) (ks : List Nat) (k : Nat) (e : Ending) (w' : World) : Prop :=
  ∃ addr2 ks2, e = .returned (ptrV (addr2 k)) ∧ Cps w' bx cb addr addr2 L fs B ks2 ∧ (∀ j ∈ ks, j ∈ ks2 ∧ addr2 j = addr' j) ∧ k ∈ ks2 ∧ Fr (fun i => i = cb) w w'
set_option maxRecDepth 100000 in
set_option maxHeartbeats 400000 in
theorem copied_any {w : World} {bx cb B : Nat} {addr addr' : Nat → Nat} {L : Nat → Prop} {fs : List Pd.PFile} {ks : List Nat} (h : Cps w bx cb addr addr' L fs B ks) {k : Nat} (hk : L k) (hB : B ≤ w.heap.size) :
    Calls Try.prog 58 #[ptrV (addr k), ptrV bx] w (Copied w bx cb addr addr' L fs B ks k) := by
  have c0 : w.cell? ⟨bx, 0, none⟩ = some (.map (some cb)) := cell_of_one h.box
  have hl := h.look hk
  by_cases hm : k ∈ ks
  · rw [if_pos hm] at hl
    have H := Lib.hid h
    have HM := Lib.hid hm
    clear h hm
    go_enter Try.func58, Try.ntmps58
    go_wp2
    go_ret
    exact ⟨addr', ks, rfl, H.out, fun j hj => ⟨hj, rfl⟩, HM.out, Fr.refl _ _⟩
  · rw [if_neg hm] at hl
    obtain ⟨w2, hu, hC, hf⟩ := h.copy hk hm hB
    have hl2 := hC.look hk
    rw [if_pos (by simp), if_pos rfl] at hl2
    have c2 : w2.cell? ⟨bx, 0, none⟩ = some (.map (some cb)) := cell_of_one hC.box
    have c1 : (w.alloc (fileObj (Pd.fileAt fs k))).cell? ⟨bx, 0, none⟩ = some (.map (some cb)) := cell_of_one (heap_alloc_old' h.box)
    have ho := h.old k hk
    have f0 : w.cell? ⟨addr k, 0, none⟩ = some (.string (Pd.fileAt fs k).data) := cell_at ho 0
    have f1 : w.cell? ⟨addr k, 1, none⟩ = some (.int .i64 (Pd.fileAt fs k).dur) := cell_at ho 1
    have HC := Lib.hid hC
    have HF := Lib.hid hf
    have HM := Lib.hid hm
    unfold fileObj at hu c1
    clear h hC hf hm ho
    go_enter Try.func58, Try.ntmps58
    go_wp2
    go_ret
    refine ⟨_, _, ?_, HC.out, fun j hj => ⟨List.mem_append_left _ hj, by have hne : j ≠ k := fun e => HM.out (by rw [← e]; exact hj); exact if_neg hne⟩, by simp, HF.out⟩
    rw [if_pos rfl]
    rfl
set_option maxRecDepth 100000 in
set_option maxHeartbeats 400000 in
theorem copied_nil {w : World} {bx cb B : Nat} {addr addr' : Nat → Nat} {L : Nat → Prop} {fs : List Pd.PFile} {ks : List Nat} (h : Cps w bx cb addr addr' L fs B ks) :
    Calls Try.prog 58 #[.pointer none, ptrV bx] w fun e w' => e = .returned (.pointer none) ∧ w = w' := by
  have c0 : w.cell? ⟨bx, 0, none⟩ = some (.map (some cb)) := cell_of_one h.box
  have hl := h.look_nil
  clear h
  go_enter Try.func58, Try.ntmps58
  go_wp2
  go_ret
  exact ⟨rfl, rfl⟩

/-- All files of some names have been copied, and the names with them. -/
def AllDone (w : World) (bx cb : Nat) (addr addr' : Nat → Nat) (L : Nat → Prop) (fs : List Pd.PFile) (B : Nat) (ks : List Nat) (l : Pd.Names) (e : Ending) (w' : World) : Prop :=
  ∃ tb addr2 ks2, e = .returned (.map (some tb)) ∧ w.heap.size ≤ tb ∧ namesAt w' tb l.length addr2 l ∧ Cps w' bx cb addr addr2 L fs B ks2 ∧ (∀ j ∈ ks, j ∈ ks2 ∧ addr2 j = addr' j) ∧ (∀ e ∈ l, e.2 ∈ ks2) ∧ Fr (fun i => i = cb) w w'
structure AllInv (w wr : World) (bx cb cx : Nat) (addr addr' addr1 : Nat → Nat) (L : Nat → Prop) (fs : List Pd.PFile) (B : Nat) (ks ks1 : List Nat) (l : Pd.Names) (left : Lit → Bool) : Prop where
  cps : Cps wr bx cb addr addr1 L fs B ks1
  box : wr.heap[cx]? = some (.cells #[.func (.func 58) #[] #[ptrV bx]] 101 (0, 0))
  tm : namesAt wr w.heap.size (l.filter fun e => !left (keyL e.1)).length addr1 (l.filter fun e => !left (keyL e.1))
  keep : ∀ j ∈ ks, j ∈ ks1 ∧ addr1 j = addr' j
  got : ∀ e ∈ l, left (keyL e.1) = false → e.2 ∈ ks1
  fr : Fr (fun i => i = cb) w wr
theorem Fr.to_grown {w w' : World} {b : Nat} (h : Fr (fun i => i = b) w w') : w.grownBy w' (some b) := ⟨h.os, h.tape, h.output, h.size, fun i hi hn => h.block i hi (fun e => hn (by rw [e]))⟩
section
variable {w wr w1 w2 w' : World} {bx cb cx nb n B : Nat} {addr addr' addr1 addr2 : Nat → Nat} {L : Nat → Prop} {fs : List Pd.PFile} {ks ks1 ks2 : List Nat} {l : Pd.Names} {left : Lit → Bool} {cnt : Nat}
theorem map_not_cells {b : Nat} (h : namesAt w b n addr l) {c : Nat} (hc : cellsAt w c) : c ≠ b := by
  rintro rfl
  obtain ⟨es, k, he, _⟩ := h
  obtain ⟨cs, t, hc⟩ := hc
  rw [he] at hc
  cases hc
theorem ptrmap_not_cells {b : Nat} {ps : List (Nat × Nat)} (h : PtrMap w b ps) {c : Nat} (hc : cellsAt w c) : c ≠ b := by
  rintro rfl
  obtain ⟨es, k, he, _⟩ := h
  obtain ⟨cs, t, hc⟩ := hc
  rw [he] at hc
  cases hc
theorem AllInv.iter (h : AllInv w wr bx cb cx addr addr' addr1 L fs B ks ks1 l left) (hrg : wr.ranges Try.prog 9 ptrEl nb (w.heap.size + 1) n (toD addr l) left cnt) (hg : wr.grownBy w1 (some (w.heap.size + 1))) (hcb : cb < w.heap.size) : AllInv w w1 bx cb cx addr addr' addr1 L fs B ks ks1 l left := by
  have hf : Fr (fun i => i = w.heap.size + 1) wr w1 := (Fr.refl (fun i => i = w.heap.size + 1) wr).grown hg (fun j e => by cases e; exact .inl rfl)
  have hno : ∀ b, cellsAt wr b → ¬ b = w.heap.size + 1 := by
    rintro b ⟨cs, t, hc⟩ rfl
    obtain ⟨_, _, _, _, _, _, _, _, _, hr, _⟩ := hrg
    rw [hr] at hc
    cases hc
  refine ⟨h.cps.kept hf hno (by omega), (hf.block cx (lt_of_some h.box) (hno _ ⟨_, _, h.box⟩)).trans h.box, ownsMap_fr h.tm hf (by omega), h.keep, h.got, h.fr.trans hf (fun i e => .inr (by omega))⟩
theorem AllInv.store (h : AllInv w w1 bx cb cx addr addr' addr1 L fs B ks ks1 l left) (hr : Rising l) {k : ByteArray} {i : Nat} (hfi : Pd.find l k = some i) (hlx : left (keyL k) = true) (hk : k.size ≤ 9223372036854775807) (hlen : l.length < 1000000)
    (hC : Cps w2 bx cb addr addr2 L fs B ks2) (hk2 : ∀ j ∈ ks1, j ∈ ks2 ∧ addr2 j = addr1 j) (hi2 : i ∈ ks2) (hf2 : Fr (fun i => i = cb) w1 w2) (hcb : cb < w.heap.size) :
    ∃ w3, (Instr.mapUpdate 69 (.map (some w.heap.size)) (.string k) (.pointer (some ⟨addr2 i, 0, none⟩))).run Try.prog w2 = .ok () w3 ∧ AllInv w w3 bx cb cx addr addr' addr2 L fs B ks ks2 l (fun z => left z && !z.sameKey (keyL k)) ∧ Fr (fun i => i = w.heap.size) w2 w3 := by
  have hto := ownsMap_fr h.tm hf2 (by omega)
  have hto2 : namesAt w2 w.heap.size (l.filter fun e => !left (keyL e.1)).length addr2 (l.filter fun e => !left (keyL e.1)) := by
    have e : toD addr1 (l.filter fun e => !left (keyL e.1)) = toD addr2 (l.filter fun e => !left (keyL e.1)) := toD_congr fun e he => by
      obtain ⟨h1, h2⟩ := List.mem_filter.1 he
      exact ((hk2 _ (h.got e h1 (by simpa using h2))).2).symm
    unfold namesAt at hto ⊢
    rw [← e]
    exact hto
  have hfl : (l.filter fun e => !left (keyL e.1)).length ≤ l.length := List.length_filter_le _ _
  obtain ⟨w3, hrun, hn3, hf3, _⟩ := store_names hto2 hk i (by omega)
  have hmem : (k, i) ∈ l := Pd.find_mem hfi
  have hnd : l.Pairwise (fun p q => p.1 ≠ q.1) := hr.imp (fun {p q} hpq => Pd.nbef_ne hpq)
  have hpf : Pd.put (l.filter fun e => !left (keyL e.1)) k i = l.filter fun e => !(left (keyL e.1) && !(keyL e.1).sameKey (keyL k)) := by
    refine Pd.put_filter hr hmem (by simp [hlx]) (by simp [keyL_same]) fun e he hne => ?_
    have : e.1 ≠ k := by
      intro hek
      have h1 := find_of_mem hnd he
      rw [hek, hfi] at h1
      exact hne (by cases e; simp at hek h1; simp [hek, h1])
    simp [keyL_same, this]
  rw [hpf] at hn3
  have hno : ∀ b, cellsAt w2 b → ¬ b = w.heap.size := fun b hb => map_not_cells hto2 hb
  have hbx2 : w2.heap[cx]? = some (.cells #[.func (.func 58) #[] #[ptrV bx]] 101 (0, 0)) := (hf2.block cx (lt_of_some h.box) (ptrmap_not_cells h.cps.map ⟨_, _, h.box⟩)).trans h.box
  refine ⟨w3, hrun, ⟨hC.kept hf3 hno (by omega), (hf3.block cx (lt_of_some hbx2) (hno _ ⟨_, _, hbx2⟩)).trans hbx2, hn3, fun j hj => ⟨(hk2 _ (h.keep j hj).1).1, ((hk2 _ (h.keep j hj).1).2).trans (h.keep j hj).2⟩, ?_, (h.fr.trans hf2 (fun i e => .inl e)).trans hf3 (fun i e => .inr (by omega))⟩, hf3⟩
  intro e he hl
  rcases Bool.and_eq_false_iff.1 hl with hl | hl
  · exact (hk2 _ (h.got e he hl)).1
  · rw [keyL_same] at hl
    have hek : e.1 = k := by simpa using hl
    have h1 := find_of_mem hnd he
    rw [hek, hfi] at h1
    simp at h1
    rw [← h1]
    exact hi2
end
set_option maxRecDepth 100000 in
set_option maxHeartbeats 1000000 in
theorem all_any {w : World} {bx cb cx nb n B : Nat} {addr addr' : Nat → Nat} {L : Nat → Prop} {fs : List Pd.PFile} {ks : List Nat} {l : Pd.Names} (h : Cps w bx cb addr addr' L fs B ks) (hcx : w.heap[cx]? = some (.cells #[.func (.func 58) #[] #[ptrV bx]] 101 (0, 0)))
    (hn : namesAt w nb n addr l) (hl : ∀ e ∈ l, L e.2 ∧ e.1.size ≤ 9223372036854775807) (hlen : l.length < 1000000) (hnb : nb ≠ cb) (hB : B ≤ w.heap.size) :
    Calls Try.prog 59 #[.map (some nb), ptrV cx] w (AllDone w bx cb addr addr' L fs B ks l) := by
  have hmm := @run_makeMap Try.prog
  have hr : Rising l := names_rising hn
  have hcb : cb < w.heap.size := by obtain ⟨_, _, h1, _⟩ := h.map; exact lt_of_some h1
  have hnl : nb < w.heap.size := by obtain ⟨_, _, h1, _⟩ := hn; exact lt_of_some h1
  have hn1 : namesAt (w.alloc (.map #[] 0)) nb n addr l := hn.alloc _
  have hfa : Fr (fun _ => False) w (w.alloc (.map #[] 0)) := (Fr.refl _ _).alloc _
  have hinv : AllInv w (w.alloc (.map #[] 0)) bx cb cx addr addr' addr' L fs B ks ks l (Maps.has (toD addr l)) := by
    have hfil : (l.filter fun e => !Maps.has (toD addr l) (keyL e.1)) = [] := by
      rw [List.filter_eq_nil_iff]
      intro e he
      rw [toD_has, find_of_mem (names_nodup hn) he]
      simp
    refine ⟨h.kept hfa (fun _ _ e => e) (fun e => e), heap_alloc_old' hcx, ?_, fun j hj => ⟨hj, rfl⟩, ?_, hfa.mono (fun i e => e.elim)⟩
    · rw [hfil]
      exact World.ownsMap_made w _ _ _
    · intro e he hl
      rw [toD_has, find_of_mem (names_nodup hn) he] at hl
      cases hl
  have HINV := Lib.hid hinv
  have HL := Lib.hid hl
  have HR := Lib.hid hr
  clear h hcx hn hl hr hinv hfa
  go_enter Try.func59, Try.ntmps59
  go_wp2_with (first
    | (at_range; refine wpList_range_own _ rfl _ 69 rfl 9 73 lawS Try.underlying69 _ nb n _ rfl hn1 ?_; intro w0 hrg0 hg0 hs0)
    | go_in)
  have hsz : (w.alloc (.map #[] 0)).heap.size = w.heap.size + 1 := World.size_alloc _ _
  rw [hsz] at hrg0 ⊢
  have HSZ := Lib.hid hsz
  clear hsz
  go_frame
  go_loopw [5] (fun _ wr => ∃ (left : Lit → Bool) (cnt : Nat) (addr1 : Nat → Nat) (ks1 : List Nat), wr.ranges Try.prog 9 ptrEl nb (w.heap.size + 1) n (toD addr l) left cnt ∧ AllInv w wr bx cb cx addr addr' addr1 L fs B ks ks1 l left) (fun _ wr => wr.rangeLeft nb (w.heap.size + 1))
  case atStart =>
    have hf0 : Fr (fun _ => False) (w.alloc (.map #[] 0)) w0 := (Fr.refl (fun _ => False) _).grown hg0 (fun k e => by cases e)
    have hi := HINV.out
    exact ⟨_, _, addr', ks, hrg0, ⟨hi.cps.kept hf0 (fun _ _ e => e) (fun e => e), (hf0.block cx (lt_of_some hi.box) (fun e => e)).trans hi.box, ownsMap_fr hi.tm hf0 (fun e => e), hi.keep, hi.got, hi.fr.trans hf0 (fun i e => e.elim)⟩⟩
  case round =>
    obtain ⟨left, cnt, addr1, ks1, hrg, hI⟩ := hrel
    have HI := Lib.hid hI
    clear hI
    go_wp2_with (first
      | (at_next; refine wpList_next_names _ rfl _ rfl nb (w.heap.size + 1) n addr l left cnt rfl hrg ?_ ?_)
      | go_in)
    · intro _ hl0
      have hd : AllDone w bx cb addr addr' L fs B ks l (.returned (.map (some w.heap.size))) wr := by
        have hi := HI.out
        have hfil : (l.filter fun e => !left (keyL e.1)) = l := by
          rw [List.filter_eq_self]
          intro e he
          simp [hl0]
        have hto := hi.tm
        rw [hfil] at hto
        exact ⟨w.heap.size, addr1, ks1, rfl, Nat.le_refl _, hto, hi.cps, hi.keep, fun e he => hi.got e he (hl0 _), hi.fr⟩
      have HD := Lib.hid hd
      clear hd
      go_wp2
      go_ret
      exact HD.out
    · intro k i w1 cnt1 hfi hlx hrg1 hlt hg1 hs1 hen
      have HI1 := Lib.hid (HI.out.iter hrg hg1 hcb)
      have cbx : w1.cell? ⟨cx, 0, none⟩ = some (.func (.func 58) #[] #[ptrV bx]) := cell_of_one HI1.out.box
      have hLi := HL.out _ (Pd.find_mem hfi)
      have hks := hLi.2
      have hB1 : B ≤ w1.heap.size := Nat.le_trans hB HI1.out.fr.size
      have HFI := Lib.hid hfi
      have HLX := Lib.hid hlx
      clear hfi hlx
      go_wp2_with (first
        | (go_at_call 58; refine (copied_any HI1.out.cps hLi.1 hB1).mono ?_; rintro e w2 ⟨addr2, ks2, rfl, hC2, hk2, hi2, hf2⟩; obtain ⟨w3, hu, hI3, hf3⟩ := HI1.out.store HR.out HFI.out HLX.out hks hlen hC2 hk2 hi2 hf2 hcb; have HI3 := Lib.hid hI3; have HF2 := Lib.hid hf2; have HF3 := Lib.hid hf3; clear hC2 hk2 hi2 hI3 hf2 hf3))
      have hrg3 := (hrg1.kept HF2.out.to_grown (by simp; omega) (by simp; omega)).kept HF3.out.to_grown (by simp; omega) (by simp)
      go_roundw
      case rel => exact ⟨_, cnt1, addr2, ks2, hrg3, HI3.out⟩
      case measure => rw [hrg3.left_eq, hrg.left_eq]; exact hlt
end Go.Proofs.Ytigcokgjikkohaa
namespace Go.Proofs.Ytigcokgjikkohaa
open Go.RowKit Go.Maps
set_option linter.unusedVariables false
set_option linter.unusedSimpArgs false
section
variable {w wr w1 w2 w3 w' : World} {bx cb cx t1 t2 nb db d n k B : Nat} {addr addr' addr1 addr2 : Nat → Nat} {L F G S : Nat → Prop} {fs : List Pd.PFile} {ks ks1 ks2 : List Nat} {l : Pd.Names} {pv v' : Value} {xs ys : List Value} {left : Int} {s : Pd.PD}
theorem Cps.kept' (h : Cps w bx cb addr addr' L fs B ks) (hf : Fr S w w') (hS : ∀ b cs t, w.heap[b]? = some (.cells cs t (0, 0)) → t ≠ 80 → ¬ S b) (hc : ¬ S cb) : Cps w' bx cb addr addr' L fs B ks :=
  ⟨(hf.block bx (lt_of_some h.box) (hS _ _ _ h.box (by decide))).trans h.box, h.map.kept hf hc, h.mem, fun k hk => (hf.block _ (lt_of_some (h.old k hk)) (hS _ _ _ (h.old k hk) (by decide))).trans (h.old k hk), h.inj,
    fun k hk => (hf.block _ (lt_of_some (h.new k hk)) (hS _ _ _ (h.new k hk) (by decide))).trans (h.new k hk), h.injn, h.low⟩
theorem row_other {e m : Nat} {ys : List Value} (h : w.ownsRow 0 e 2 pv m ys) {b t : Nat} {cs : Array Value} (hb : w.heap[b]? = some (.cells cs t (0, 0))) (ht : t ≠ e) : pv.ownBlock ≠ some b := by
  intro hv
  rcases h.2 with ⟨rfl, _⟩ | ⟨g, cap, cur, rfl, _, hg, _⟩
  · cases hv
  · cases hv
    rw [hg] at hb
    cases hb
    exact ht rfl
theorem row_not_map {e m : Nat} {ys : List Value} (h : w.ownsRow 0 e 2 pv m ys) {b : Nat} {es : Array MapEntry} {c : Nat} (hb : w.heap[b]? = some (.map es c)) : pv.ownBlock ≠ some b := by
  intro hv
  rcases h.2 with ⟨rfl, _⟩ | ⟨g, cap, cur, rfl, _, hg, _⟩
  · cases hv
  · cases hv
    rw [hg] at hb
    cases hb
/-- A clone under way: the new block holds it, k pending changes have come over. -/
structure ClInv (w wr : World) (G : Nat → Prop) (t1 t2 : Nat) (addr addr1 : Nat → Nat) (L : Nat → Prop) (ks : List Nat) (pv : Value) (xs : List Value) (left : Int) (s : Pd.PD) (k : Nat) : Prop where
  cell : wr.heap[w.heap.size]? = some (diskObj s t1 t2 pv left)
  cps : Cps wr (w.heap.size + 2) (w.heap.size + 1) addr addr1 L s.files w.heap.size ks
  box : wr.heap[w.heap.size + 3]? = some (.cells #[.func (.func 58) #[] #[ptrV (w.heap.size + 2)]] 101 (0, 0))
  n1 : namesAt wr t1 s.names.length addr1 s.names
  n2 : namesAt wr t2 s.durable.length addr1 s.durable
  m1 : ∀ e ∈ s.names, e.2 ∈ ks
  m2 : ∀ e ∈ s.durable, e.2 ∈ ks
  row : wr.ownsRow 0 80 2 pv k xs
  pen : penIs wr G addr1 (s.pending.take k) xs
  mp : ∀ n f, Pd.PChange.set n f ∈ s.pending.take k → f ∈ ks
  fr : Fr (fun _ => False) w wr
  lo1 : w.heap.size + 4 ≤ t1
  lo2 : w.heap.size + 4 ≤ t2
  lov : ∀ b, pv.ownBlock = some b → w.heap.size ≤ b
  t12 : t1 ≠ t2
theorem namesAt.turn (h : namesAt w t1 n addr1 l) (hm : ∀ e ∈ l, e.2 ∈ ks) (hk : ∀ j ∈ ks, j ∈ ks2 ∧ addr2 j = addr1 j) : namesAt w t1 n addr2 l := by
  have e : toD addr1 l = toD addr2 l := toD_congr fun e he => ((hk _ (hm e he)).2).symm
  unfold namesAt at h ⊢
  rw [← e]
  exact h
theorem ClInv.step (h : ClInv w wr G t1 t2 addr addr1 L ks pv xs left s k) (hG : ∀ b, G b → b < w.heap.size) {ch : Pd.PChange} (hch : s.pending[k]? = some ch) {a' b : Value}
    (hC : Cps w2 (w.heap.size + 2) (w.heap.size + 1) addr addr2 L s.files w.heap.size ks2) (hk2 : ∀ j ∈ ks, j ∈ ks2 ∧ addr2 j = addr1 j) (hf2 : Fr (fun i => i = w.heap.size + 1) wr w2)
    (hcs : chIs w G addr2 ch a' b) (hset : ∀ n f, ch = .set n f → f ∈ ks2) (hf3 : Fr (fun i => pv.ownBlock = some i) w2 w3) (hown : w3.ownsRow 0 80 2 v' (k + 1) (xs ++ [a', b]))
    (hv : v'.ownBlock = pv.ownBlock ∨ ∃ g, v'.ownBlock = some g ∧ w2.heap.size ≤ g) : ClInv w (w3.setCell ⟨w.heap.size, 3, none⟩ v') G t1 t2 addr addr2 L ks2 v' (xs ++ [a', b]) left s (k + 1) := by
  obtain ⟨ces, cc, hcb, _⟩ := h.cps.map
  have hnc : ∀ b cs t, wr.heap[b]? = some (.cells cs t (0, 0)) → ¬ b = w.heap.size + 1 := by
    rintro b cs t hb rfl
    rw [hcb] at hb
    cases hb
  have hcell2 := (hf2.block _ (lt_of_some h.cell) (hnc _ _ _ h.cell)).trans h.cell
  have hrow2 : w2.ownsRow 0 80 2 pv k xs := ownsRow_fr h.row hf2 (fun b hb e => row_not_map h.row hcb (by rw [hb, e]))
  have hS3 : ∀ b cs t, w2.heap[b]? = some (.cells cs t (0, 0)) → t ≠ 80 → ¬ pv.ownBlock = some b := fun b cs t hb ht => row_other hrow2 hb ht
  have hbox2 := (hf2.block _ (lt_of_some h.box) (hnc _ _ _ h.box)).trans h.box
  have hcell3 := (hf3.block _ (lt_of_some hcell2) (hS3 _ _ _ hcell2 (by decide))).trans hcell2
  have hn1 := ownsMap_fr h.n1 hf2 (by have := h.lo1; omega)
  have hn2 := ownsMap_fr h.n2 hf2 (by have := h.lo2; omega)
  have hm1 : ¬ pv.ownBlock = some t1 := by obtain ⟨_, _, hb, _⟩ := hn1; exact row_not_map hrow2 hb
  have hm2 : ¬ pv.ownBlock = some t2 := by obtain ⟨_, _, hb, _⟩ := hn2; exact row_not_map hrow2 hb
  have hcb2 : ¬ pv.ownBlock = some (w.heap.size + 1) := by obtain ⟨_, _, hb, _⟩ := hC.map; exact row_not_map hrow2 hb
  have hf4 : Fr (fun i => i = w.heap.size) w3 (w3.setCell ⟨w.heap.size, 3, none⟩ v') := (Fr.refl (fun i => i = w.heap.size) w3).setCell _ _ (.inl rfl)
  have hlo2 : w.heap.size < w2.heap.size := lt_of_some hcell2
  have hvo : ∀ b, v'.ownBlock = some b → ¬ b = w.heap.size := by
    rintro b hb rfl
    rcases hv with hv | ⟨g, hv, hg⟩
    · exact hS3 _ _ _ hcell2 (by decide) (by rw [← hv, hb])
    · rw [hb] at hv; cases hv; omega
  have hC3 : Cps w3 (w.heap.size + 2) (w.heap.size + 1) addr addr2 L s.files w.heap.size ks2 := hC.kept' hf3 hS3 hcb2
  have hno : ∀ b, (∃ cs t, w3.heap[b]? = some (.cells cs t (0, 0)) ∧ t ≠ 72) → ¬ b = w.heap.size := by
    rintro b ⟨cs, t, hb, ht⟩ rfl
    rw [hcell3] at hb
    cases hb
    exact ht rfl
  have hT : Fr (fun i => w.heap.size ≤ i) wr (w3.setCell ⟨w.heap.size, 3, none⟩ v') :=
    ((hf2.mono (S' := fun i => w.heap.size ≤ i) (fun i e => .inl (by omega))).trans hf3 (fun i e => .inl (h.lov i e))).trans hf4 (fun i e => .inl (by omega))
  have htk : s.pending.take (k + 1) = s.pending.take k ++ [ch] := by rw [List.take_add_one, hch]; rfl
  refine ⟨(heap_set_same hcell3).trans rfl, ?_, (hf4.block _ (lt_of_some ((hf3.block _ (lt_of_some hbox2) (hS3 _ _ _ hbox2 (by decide))).trans hbox2)) (by omega)).trans ((hf3.block _ (lt_of_some hbox2) (hS3 _ _ _ hbox2 (by decide))).trans hbox2),
    namesAt.turn (ownsMap_fr (ownsMap_fr hn1 hf3 hm1) hf4 (by have := h.lo1; omega)) h.m1 hk2, namesAt.turn (ownsMap_fr (ownsMap_fr hn2 hf3 hm2) hf4 (by have := h.lo2; omega)) h.m2 hk2, fun e he => (hk2 _ (h.m1 e he)).1, fun e he => (hk2 _ (h.m2 e he)).1,
    ownsRow_fr hown hf4 hvo, ?_, ?_, h.fr.trans hT (fun i e => .inr e), h.lo1, h.lo2, ?_, h.t12⟩
  · refine ⟨(hf4.block _ (lt_of_some hC3.box) (by omega)).trans hC3.box, hC3.map.kept hf4 (by omega), hC3.mem, fun k hk => (hf4.block _ (lt_of_some (hC3.old k hk)) (hno _ ⟨_, _, hC3.old k hk, by decide⟩)).trans (hC3.old k hk), hC3.inj,
      fun k hk => (hf4.block _ (lt_of_some (hC3.new k hk)) (hno _ ⟨_, _, hC3.new k hk, by decide⟩)).trans (hC3.new k hk), hC3.injn, hC3.low⟩
  · rw [htk]
    refine penIs_snoc (chIs_kept hcs (h.fr.trans hT (fun i e => .inr e)) (fun x _ e => e)) ?_
    refine penIs_addr (penIs_kept h.pen hT (fun x hx e => by have := hG x hx; omega)) (fun n f hm => ((hk2 _ (h.mp n f hm)).2).symm)
  · intro n f hm
    rw [htk] at hm
    rcases List.mem_append.1 hm with hm | hm
    · exact (hk2 _ (h.mp n f hm)).1
    · simp at hm
      exact hset n f hm.symm
  · intro b hb
    rcases hv with hv | ⟨g, hv, hg⟩
    · exact h.lov b (by rw [← hv, hb])
    · rw [hb] at hv; cases hv; omega
/-- A clone has been made: a disk in the same state, on new blocks. -/
def DiskCloned (w : World) (G : Nat → Prop) (s : Pd.PD) (e : Ending) (w' : World) : Prop :=
  ∃ o F', e = .returned (ptrV o) ∧ DiskAt w' F' G o s ∧ (∀ b, F' b → w.heap.size ≤ b) ∧ Fr (fun _ => False) w w'
theorem ClInv.done (h : ClInv w wr G t1 t2 addr addr1 L ks pv xs left s s.pending.length) (hp : DiskP w F G d nb db v' ys addr L left s) : DiskCloned w G s (.returned (ptrV w.heap.size)) wr := by
  have hlt := lt_of_some h.cell
  refine ⟨w.heap.size, fun b => w.heap.size ≤ b ∧ b < wr.heap.size, rfl, ⟨t1, t2, pv, xs, addr1, fun k => k ∈ ks, left, ?_⟩, fun b hb => hb.1, h.fr⟩
  have hpen := h.pen
  rw [List.take_length] at hpen
  have hmp := h.mp
  rw [List.take_length] at hmp
  have hlv : ∀ b, pv.ownBlock = some b → b < wr.heap.size := by
    intro b hb
    rcases h.row.2 with ⟨rfl, _⟩ | ⟨g, cap, cur, rfl, _, hg, _⟩
    · cases hb
    · cases hb; exact lt_of_some hg
  exact {
    cell := h.cell
    left_ok := hp.left_ok
    left_wf := hp.left_wf
    hn := h.n1
    hd := h.n2
    row := h.row
    pen := hpen
    file := h.cps.new
    inj := fun k k' hk hk' e => h.cps.injn k hk k' hk' e
    Ln := h.m1
    Ld := h.m2
    Lp := hmp
    Ls := fun k hk => hp.Ls k (h.cps.mem k hk)
    Fd := ⟨Nat.le_refl _, hlt⟩
    Fn := ⟨by have := h.lo1; omega, by obtain ⟨_, _, hb, _⟩ := h.n1; exact lt_of_some hb⟩
    Fb := ⟨by have := h.lo2; omega, by obtain ⟨_, _, hb, _⟩ := h.n2; exact lt_of_some hb⟩
    Fv := fun b hb => ⟨h.lov b hb, hlv b hb⟩
    Ff := fun k hk => ⟨h.cps.low k hk, lt_of_some (h.cps.new k hk)⟩
    Flt := fun b hb => hb.2
    Glt := fun b hb => Nat.lt_of_lt_of_le (hp.Glt b hb) h.fr.size
    FG := fun b hb hg => by have := hp.Glt b hg; omega
    ne_nd := h.t12
    ne_v := row_other h.row h.cell (by decide)
    ne_vf := fun k hk => row_other h.row (h.cps.new k hk) (by decide) }
end
theorem ClInv.start {w w6 : World} {G : Nat → Prop} {t1 t2 nb db : Nat} {addr addr2 : Nat → Nat} {L : Nat → Prop} {ks2 : List Nat} {pv : Value} {left : Int} {s : Pd.PD} (hcell : w6.heap[w.heap.size]? = some (diskObj s nb db pv left)) (hC : Cps w6 (w.heap.size + 2) (w.heap.size + 1) addr addr2 L s.files w.heap.size ks2)
    (hbox : w6.heap[w.heap.size + 3]? = some (.cells #[.func (.func 58) #[] #[ptrV (w.heap.size + 2)]] 101 (0, 0))) (hn1 : namesAt w6 t1 s.names.length addr2 s.names) (hn2 : namesAt w6 t2 s.durable.length addr2 s.durable) (hm1 : ∀ e ∈ s.names, e.2 ∈ ks2) (hm2 : ∀ e ∈ s.durable, e.2 ∈ ks2)
    (hf : Fr (fun _ => False) w w6) (lo1 : w.heap.size + 4 ≤ t1) (lo2 : w.heap.size + 4 ≤ t2) (t12 : t1 ≠ t2) :
    ClInv w (((w6.setCell ⟨w.heap.size, 1, none⟩ (.map (some t1))).setCell ⟨w.heap.size, 2, none⟩ (.map (some t2))).setCell ⟨w.heap.size, 3, none⟩ (.slice none 0 0)) G t1 t2 addr addr2 L ks2 (.slice none 0 0) [] left s 0 := by
  have hf4 : Fr (fun i => i = w.heap.size) w6 (((w6.setCell ⟨w.heap.size, 1, none⟩ (.map (some t1))).setCell ⟨w.heap.size, 2, none⟩ (.map (some t2))).setCell ⟨w.heap.size, 3, none⟩ (.slice none 0 0)) :=
    (((Fr.refl (fun i => i = w.heap.size) w6).setCell _ _ (.inl rfl)).setCell _ _ (.inl rfl)).setCell _ _ (.inl rfl)
  have hno : ∀ b, (∃ cs t, w6.heap[b]? = some (.cells cs t (0, 0)) ∧ t ≠ 72) → ¬ b = w.heap.size := by
    rintro b ⟨cs, t, hb, ht⟩ rfl
    rw [hcell] at hb
    cases hb
    exact ht rfl
  refine ⟨(heap_set_same (heap_set_same (heap_set_same hcell))).trans rfl, ?_, (hf4.block _ (lt_of_some hbox) (by omega)).trans hbox, ownsMap_fr hn1 hf4 (by omega), ownsMap_fr hn2 hf4 (by omega), hm1, hm2, ⟨by simp, .inl ⟨rfl, rfl⟩⟩, trivial, ?_, hf.trans hf4 (fun i e => .inr (by omega)), lo1, lo2, ?_, t12⟩
  · exact ⟨(hf4.block _ (lt_of_some hC.box) (by omega)).trans hC.box, hC.map.kept hf4 (by omega), hC.mem, fun k hk => (hf4.block _ (lt_of_some (hC.old k hk)) (hno _ ⟨_, _, hC.old k hk, by decide⟩)).trans (hC.old k hk), hC.inj,
      fun k hk => (hf4.block _ (lt_of_some (hC.new k hk)) (hno _ ⟨_, _, hC.new k hk, by decide⟩)).trans (hC.new k hk), hC.injn, hC.low⟩
  · intro n f hm
    simp at hm
  · intro b hb
    cases hb
theorem cell_blk {w : World} {a : Addr} {v : Value} (h : w.cell? a = some v) : a.block < w.heap.size := by
  unfold World.cell? at h
  split at h
  · rename_i c t z e; exact lt_of_some e
  · cases h
theorem keep_set {w : World} {d o i j : Nat} {v u : Value} (h : w.cell? ⟨d, i, none⟩ = some v) (hne : d ≠ o) : (w.setCell ⟨o, j, none⟩ u).cell? ⟨d, i, none⟩ = some v :=
  (World.cell?_of_block (Below.heap_setCell _ _ _ _ hne)).trans h
theorem copied_nil' {w : World} {bx cb B : Nat} {addr addr' : Nat → Nat} {L : Nat → Prop} {fs : List Pd.PFile} {ks : List Nat} (h : Cps w bx cb addr addr' L fs B ks) :
    Calls Try.prog 58 #[.pointer none, ptrV bx] w fun e w' => e = .returned (.pointer none) ∧ Cps w' bx cb addr addr' L fs B ks ∧ Fr (fun i => i = cb) w w' :=
  (copied_nil h).mono fun e w' ⟨h1, h2⟩ => ⟨h1, h2 ▸ h, h2 ▸ Fr.refl _ _⟩
theorem clone_start {w : World} {F G : Nat → Prop} {d nb db : Nat} {pv : Value} {xs : List Value} {addr : Nat → Nat} {L : Nat → Prop} {left : Int} {s : Pd.PD} (h : DiskP w F G d nb db pv xs addr L left s) {W : World}
    (hW : (((w.alloc (diskObj s nb db pv left)).alloc (.map #[] 0)).alloc (.cells #[.map (some (w.heap.size + 1))] 100 (0, 0))).alloc (.cells #[.func (.func 58) #[] #[ptrV (w.heap.size + 2)]] 101 (0, 0)) = W) :
    Fr (fun _ => False) w W ∧ W.heap[w.heap.size]? = some (diskObj s nb db pv left) ∧ Cps W (w.heap.size + 2) (w.heap.size + 1) addr addr L s.files w.heap.size [] ∧
      W.heap[w.heap.size + 3]? = some (.cells #[.func (.func 58) #[] #[ptrV (w.heap.size + 2)]] 101 (0, 0)) ∧ W.heap.size = w.heap.size + 4 ∧ DiskP W F G d nb db pv xs addr L left s := by
  subst hW
  have hf : Fr (fun _ => False) w ((((w.alloc (diskObj s nb db pv left)).alloc (.map #[] 0)).alloc (.cells #[.map (some (w.heap.size + 1))] 100 (0, 0))).alloc (.cells #[.func (.func 58) #[] #[ptrV (w.heap.size + 2)]] 101 (0, 0))) := (((Fr.refl _ _).alloc _).alloc _).alloc _ |>.alloc _
  have e1 := heap_alloc_this w (diskObj s nb db pv left)
  have e2 := heap_alloc_this (w.alloc (diskObj s nb db pv left)) (.map #[] 0)
  have e3 := heap_alloc_this ((w.alloc (diskObj s nb db pv left)).alloc (.map #[] 0)) (.cells #[.map (some (w.heap.size + 1))] 100 (0, 0))
  have e4 := heap_alloc_this (((w.alloc (diskObj s nb db pv left)).alloc (.map #[] 0)).alloc (.cells #[.map (some (w.heap.size + 1))] 100 (0, 0))) (.cells #[.func (.func 58) #[] #[ptrV (w.heap.size + 2)]] 101 (0, 0))
  simp only [World.size_alloc] at e2 e3 e4
  have hp := h.kept hf (fun _ _ e => e) (fun _ _ e => e)
  refine ⟨hf, heap_alloc_old' (heap_alloc_old' (heap_alloc_old' e1)), ⟨heap_alloc_old' e3, ⟨_, _, heap_alloc_old' (heap_alloc_old' e2), rfl⟩, ?_, hp.file, hp.inj, ?_, ?_, ?_⟩, e4, by simp only [World.size_alloc], hp⟩
  all_goals intro k hk; cases hk
set_option maxRecDepth 100000 in
set_option maxHeartbeats 4000000 in
theorem clone_at {w : World} {F G : Nat → Prop} {d nb db : Nat} {pv : Value} {xs : List Value} {addr : Nat → Nat} {L : Nat → Prop} {left : Int} {s : Pd.PD} (h : DiskP w F G d nb db pv xs addr L left s) {n : Nat} (hi : Pd.Inv n s) (hn1 : n < 1000000)
    (pa : Option Addr) (pc : Nat) (hpv : pv = .slice pa s.pending.length pc) (hpl : s.pending.length ≤ pc) (hpa : (pa = none ∧ s.pending.length = 0 ∧ pc = 0) ∨ ∃ g, pa = some ⟨g, 0, none⟩) :
    Calls Try.prog 36 #[.pointer (some ⟨d, 0, none⟩)] w (DiskCloned w G s) := by
  subst hpv
  have hmm := @run_makeMap Try.prog
  obtain ⟨h0, h1, h2, h3, h4, h5, h6⟩ := h.c1
  have hlt := lt_of_some h.cell
  have HP0 := Lib.hid h
  have HI := Lib.hid hi
  clear h hi
  go_enter Try.func36, Try.ntmps36
  go_upto_region 7 with (fail)
  generalize hW : ((((w.alloc (.cells #[.int .i64 s.cap, .map (some nb), .map (some db), .slice pa s.pending.length pc, .bool s.limit.isSome, .int .i64 left, .bool s.down] 72)).alloc (.map #[] 0)).alloc (.cells #[.map (some (w.heap.size + 1))] 100)).alloc (.cells #[.func (.func 58) #[] #[.pointer (some ⟨w.heap.size + 1 + 1, 0, none⟩)]] 101)) = W
  obtain ⟨hfW, hcW, hCW, hxW, hsW, hpW⟩ := clone_start HP0.out hW
  have hls : ∀ e ∈ s.names, L e.2 ∧ e.1.size ≤ 9223372036854775807 := fun e he => ⟨HP0.out.Ln e he, by have := (Pd.isName_size (HI.out.nm e he).1).2; omega⟩
  have hld : ∀ e ∈ s.durable, L e.2 ∧ e.1.size ≤ 9223372036854775807 := fun e he => ⟨HP0.out.Ld e he, by have := (Pd.isName_size (HI.out.nd e he).1).2; omega⟩
  have hn64 : s.names.length ≤ 64 := HI.out.rep.len'
  have hd64 : s.durable.length ≤ 64 := HI.out.rep.len
  have hnl := HP0.out.Flt _ HP0.out.Fn
  have hdl := HP0.out.Flt _ HP0.out.Fb
  have q1 : W.cell? ⟨d, 1, none⟩ = some (.map (some nb)) := hpW.c1.2.1
  have q2 : W.cell? ⟨d, 2, none⟩ = some (.map (some db)) := hpW.c1.2.2.1
  have HFW := Lib.hid hfW
  have HCW := Lib.hid hCW
  have HXW := Lib.hid hxW
  have HSW := Lib.hid hsW
  have HPW := Lib.hid hpW
  have HCELL := Lib.hid hcW
  have HLS := Lib.hid hls
  have HLD := Lib.hid hld
  have hltW : d < W.heap.size := by omega
  have hdo : d ≠ w.heap.size := by omega
  clear hW hfW hcW hCW hxW hsW hpW hls hld hmm h0 h1 h2 h3 h4 h5 h6
  go_region_held3 (fun w' => w'.cell? ⟨d, 1, none⟩ = some (.map (some nb)) ∧ w'.cell? ⟨d, 2, none⟩ = some (.map (some db)))
    (first
      | exact ⟨q1'', q2''⟩
      | exact ⟨keep_set q1'' hdo, keep_set q2'' hdo⟩
      | exact ⟨keep_set (keep_set q1'' hdo) hdo, keep_set (keep_set q2'' hdo) hdo⟩
      | exact ⟨keep_set (keep_set (keep_set q1'' hdo) hdo) hdo, keep_set (keep_set (keep_set q2'' hdo) hdo) hdo⟩
      | exact ⟨q1', q2'⟩
      | go_keep)
    ((first
      | (go_at_call 59; refine (all_any (w := w5) HC5.out HX5.out HP5.out.hd HLD.out (by omega) (by omega) (by have := HF5.out.size; omega)).mono ?_; rintro e w6 ⟨tb2, addr2, ks2, rfl, ht2, hn2, hC2, hk2, hm2, hf2⟩; have q1'' := (hf2.cell (p := ⟨d, 1, none⟩) (by have := HF5.out.size; show d < _; omega) (by show ¬ d = _; omega)).trans q1'; have q2'' := (hf2.cell (p := ⟨d, 2, none⟩) (by have := HF5.out.size; show d < _; omega) (by show ¬ d = _; omega)).trans q2'; have hcell6 := (hf2.block w.heap.size (lt_of_some HCELL5.out) (by omega)).trans HCELL5.out; have HCELL6 := Lib.hid hcell6; have g1 := cell_at hcell6 1; have g2 := cell_at hcell6 2; have g3 := cell_at hcell6 3; have y1 := free_at hcell6 1; have y2 := free_at hcell6 2; have y3 := free_at hcell6 3; clear hcell6)
      | (go_at_call 59; refine (all_any (w := W.drew) (HCW.out.kept ((Fr.refl (fun _ => False) W).drew) (fun _ _ e => e) (fun e => e)) HXW.out HPW.out.hn HLS.out (by omega) (by omega) (by show w.heap.size ≤ W.heap.size; have := HSW.out; omega)).mono ?_; rintro e w5 ⟨tb1, addr1, ks1, rfl, ht1, hn1, hC1, hk1, hm1, hf1⟩; have hf05 := ((HFW.out.drew).mono (S' := fun i => i = w.heap.size + 1) (fun i e => e.elim)).trans hf1 (fun i e => .inl e); have HF5 := Lib.hid hf05; have HC5 := Lib.hid hC1; have HX5 := Lib.hid ((hf1.block (w.heap.size + 3) (by show _ < W.heap.size; have := HSW.out; omega) (by omega)).trans HXW.out); have HP5 := Lib.hid (HP0.out.kept hf05 (fun b hb e => by have := HP0.out.Flt b hb; omega) (fun b hb e => by have := HP0.out.Glt b hb; omega)); have q1' := HP5.out.c1.2.1; have q2' := HP5.out.c1.2.2.1; have HCELL5 := Lib.hid ((hf1.block w.heap.size (by show _ < W.heap.size; have := HSW.out; omega) (by omega)).trans HCELL.out))))
  have z1 : W.heap.size ≤ tb1 := ht1
  have z2 : W.heap.size ≤ w5.heap.size := hf1.size
  have z3 := HSW.out
  have z4 : tb1 < w5.heap.size := by obtain ⟨_, _, hb, _⟩ := hn1; exact lt_of_some hb
  have hst := ClInv.start (G := G) HCELL6.out hC2 ((hf2.block (w.heap.size + 3) (lt_of_some HX5.out) (by omega)).trans HX5.out) (namesAt.turn (ownsMap_fr hn1 hf2 (by omega)) hm1 hk2) hn2 (fun e he => (hk2 _ (hm1 e he)).1) hm2
    ((HF5.out.mono (S' := fun _ => False) (fun i e => .inr (by omega))).trans hf2 (fun i e => .inr (by omega))) (by omega) (by omega) (by omega)
  have HST := Lib.hid hst
  clear hst z1 z2 z3 z4 hn1 hC1 hk1 hm1 hf1 hn2 hC2 hk2 hm2 hf2 hf05 g1 g2 g3 y1 y2 y3 q1 q2 q1' q2' q1'' q2'' HF5 HC5 HX5 HP5 HCELL5 HCELL6 hdo
  generalize (((w6.setCell ⟨w.heap.size, 1, none⟩ (.map (some tb1))).setCell ⟨w.heap.size, 2, none⟩ (.map (some tb2))).setCell ⟨w.heap.size, 3, none⟩ (.slice none 0 0)) = W7 at HST ⊢
  have hp7 := HP0.out.kept HST.out.fr (fun _ _ e => e) (fun _ _ e => e)
  have k3 : W7.cell? ⟨d, 3, none⟩ = some (.slice pa s.pending.length pc) := hp7.c1.2.2.2.1
  have hlt7 := lt_of_some hp7.cell
  have hple : s.pending.length < 1000000 := by have := HI.out.pen; omega
  clear hp7
  go_upto_region 9 with (fail)
  go_loopw [37] (fun i wr => ∃ (k : Nat) (ax : Nat → Nat) (kx : List Nat) (px : Value) (yx : List Value), i = .int .i64 k ∧ k ≤ s.pending.length ∧ ClInv w wr G tb1 tb2 addr ax L kx px yx left s k) (fun i wr => s.pending.length - (intOf i).toNat)
  case atStart => exact ⟨0, addr2, ks2, _, _, rfl, Nat.zero_le _, HST.out⟩
  case round =>
    obtain ⟨k, ax, kx, px, yx, rfl, hk, hinv⟩ := hrel
    by_cases hlt1 : k < s.pending.length
    · obtain ⟨ch, hch⟩ : ∃ ch, s.pending[k]? = some ch := ⟨s.pending[k], List.getElem?_eq_getElem hlt1⟩
      rcases hpa with ⟨_, hp0, _⟩ | ⟨g, rfl⟩
      · omega
      obtain ⟨ca, cb, q0, q1, hchs⟩ := HP0.out.penCells hch
      have q0 := (hinv.fr.cell (cell_blk q0) (fun e => e)).trans q0
      have q1 := (hinv.fr.cell (cell_blk q1) (fun e => e)).trans q1
      have HINV := Lib.hid hinv
      have HCH := Lib.hid hch
      have hkn : (k : Int) < (s.pending.length : Int) := by omega
      have hszr := hinv.fr.size
      obtain ⟨i0, hi0, hz0, hz1, hz2⟩ := info_parts info_change
      have HI0 := Lib.hid hi0
      have HZ0 := Lib.hid hz0
      have HZ1 := Lib.hid hz1
      have HZ2 := Lib.hid hz2
      clear hi0 hz0 hz1 hz2
      cases ch with
      | set nm f =>
        have hLf : L f := HP0.out.Lp _ _ (List.mem_of_getElem? hch)
        obtain ⟨rfl, x, rfl, hx, hgx⟩ := hchs
        have HX := Lib.hid hx
        clear hch hinv hx
        go_upto_region 11 with (fail)
        have hWf : Fr (fun _ => False) wr (wr.alloc (.cells #[.pointer (some ⟨addr f, 0, none⟩), .func (.func 60) #[] #[ptrV x]] 80)) := (Fr.refl _ _).alloc _
        have hb0 := heap_alloc_this wr (.cells #[.pointer (some ⟨addr f, 0, none⟩), .func (.func 60) #[] #[ptrV x]] 80)
        have hw1 : (wr.alloc (.cells #[.pointer (some ⟨addr f, 0, none⟩), .func (.func 60) #[] #[ptrV x]] 80)).heap.size = wr.heap.size + 1 := World.size_alloc _ _
        generalize (wr.alloc (.cells #[.pointer (some ⟨addr f, 0, none⟩), .func (.func 60) #[] #[ptrV x]] 80)) = V at hWf hb0 hw1 ⊢
        have hcell := (hWf.block _ (lt_of_some HINV.out.cell) (fun e => e)).trans HINV.out.cell
        have hbox := (hWf.block _ (lt_of_some HINV.out.box) (fun e => e)).trans HINV.out.box
        have HC := Lib.hid (HINV.out.cps.kept (hWf.drew) (fun _ _ e => e) (fun e => e))
        have p3 := cell_at hcell 3
        have y3 := free_at hcell 3
        have pb : V.cell? ⟨w.heap.size + 1 + 1 + 1, 0, none⟩ = some (.func (.func 58) #[] #[.pointer (some ⟨w.heap.size + 1 + 1, 0, none⟩)]) := (cell_at hbox 0).trans rfl
        have r0 : V.cell? ⟨wr.heap.size, 0, none⟩ = some (.pointer (some ⟨addr f, 0, none⟩)) := (cell_at hb0 0).trans rfl
        have r1 : V.cell? ⟨wr.heap.size, 1, none⟩ = some (.func (.func 60) #[] #[ptrV x]) := (cell_at hb0 1).trans rfl
        have HCELL := Lib.hid hcell
        have HB0 := Lib.hid hb0
        have HWF := Lib.hid hWf
        have HROW := Lib.hid HINV.out.row
        obtain ⟨ces, cc, hcm, _⟩ := HC.out.map
        have HCM := Lib.hid hcm
        have hsz4 : w.heap.size + 3 < wr.heap.size := lt_of_some HINV.out.box
        have HROWV := Lib.hid (ownsRow_fr HROW.out HWF.out (fun _ _ e => e))
        have hncb : px.ownBlock ≠ some (w.heap.size + 1) := row_not_map HROWV.out HCM.out
        have hno : px.ownBlock ≠ some w.heap.size := row_other HROWV.out HCELL.out (by decide)
        have HBV : w.heap.size ≤ V.drew.heap.size := by show _ ≤ V.heap.size; omega
        have hv1 : wr.heap.size < V.heap.size := by omega
        have hv2 : w.heap.size < V.heap.size := by omega
        have hv3 : wr.heap.size ≠ w.heap.size + 1 := by omega
        have hv4 : w.heap.size ≠ w.heap.size + 1 := by omega
        have HX4 := Lib.hid (show ¬ w.heap.size + 1 + 1 + 1 = w.heap.size + 1 by omega)
        have HBOXV := Lib.hid hbox
        have HV := Lib.hid (And.intro hv1 (And.intro hv2 (And.intro hv3 hv4)))
        clear hcell hbox hb0 hWf hcm hw1 hv1 hv2 hv3 hv4
        have p3s : V.cell? ⟨w.heap.size, 3, none⟩ = some px := p3.trans rfl
        have hrlt : ∀ b, px.ownBlock = some b → b < wr.heap.size := by
          intro b hb
          rcases HROW.out.2 with ⟨rfl, _⟩ | ⟨g', cap', cur, rfl, _, hg, _⟩
          · cases hb
          · cases hb; exact lt_of_some hg
        have hnc : px.ownBlock ≠ some wr.heap.size := fun e => by have := hrlt _ e; omega
        have hnx : px.ownBlock ≠ some (w.heap.size + 1 + 1 + 1) := row_other HROWV.out (cs := _) (t := 101) HBOXV.out (by decide)
        have hox : w.heap.size + 1 + 1 + 1 ≠ w.heap.size := by omega
        have hoc : wr.heap.size ≠ w.heap.size := by omega
        have HN := Lib.hid (And.intro hnc (And.intro hnx (And.intro hox hoc)))
        clear p3 hrlt hnc hnx hox hoc
        refine region_until (T := fun w' => w'.cell? ⟨w.heap.size, 3, none⟩ = some px ∧ w'.cell? ⟨w.heap.size + 1 + 1 + 1, 0, none⟩ = some (.func (.func 58) #[] #[.pointer (some ⟨w.heap.size + 1 + 1, 0, none⟩)]) ∧ w'.cell? ⟨wr.heap.size, 0, none⟩ = some (.pointer (some ⟨addr f, 0, none⟩)) ∧ w'.cell? ⟨wr.heap.size, 1, none⟩ = some (.func (.func 60) #[] #[ptrV x])) (g := 12) (by kernel_rfl) ?_
        refine until_take (i := 0) (v := .pointer (some ⟨w.heap.size, 3, none⟩)) rfl (by kernel_rfl) (by kernel_rfl) (by kernel_rfl) (fun _ _ _ h => h) rfl (by kernel_rfl) (Or.inl ⟨by rfl, fun w' hw' => ?_⟩) ⟨p3s, pb, r0, r1⟩ ?_
        · obtain ⟨_, _, _, _⟩ := hw'
          go_simp
        try simp only [Act.put, List.setIfInBounds_toArray, List.set_cons_zero, List.set_cons_succ]
        refine until_take (i := 1) (v := px) rfl (by kernel_rfl) (by kernel_rfl) (by kernel_rfl) (fun _ _ _ h => h) rfl (by kernel_rfl) (Or.inl ⟨by rfl, fun w' hw' => ?_⟩) ⟨p3s, pb, r0, r1⟩ ?_
        · obtain ⟨_, _, _, _⟩ := hw'
          go_simp
        try simp only [Act.put, List.setIfInBounds_toArray, List.set_cons_zero, List.set_cons_succ]
        refine until_take (i := 2) (v := .func (.func 58) #[] #[.pointer (some ⟨w.heap.size + 1 + 1, 0, none⟩)]) rfl (by kernel_rfl) (by kernel_rfl) (by kernel_rfl) (fun _ _ _ h => h) rfl (by kernel_rfl) (Or.inl ⟨by rfl, fun w' hw' => ?_⟩) ⟨p3s, pb, r0, r1⟩ ?_
        · obtain ⟨_, _, _, _⟩ := hw'
          go_simp
        try simp only [Act.put, List.setIfInBounds_toArray, List.set_cons_zero, List.set_cons_succ]
        refine until_take (i := 3) (v := .pointer (some ⟨wr.heap.size, 0, none⟩)) rfl (by kernel_rfl) (by kernel_rfl) (by kernel_rfl) (fun _ _ _ h => h) rfl (by kernel_rfl) (Or.inl ⟨by rfl, fun w' hw' => ?_⟩) ⟨p3s, pb, r0, r1⟩ ?_
        · obtain ⟨_, _, _, _⟩ := hw'
          go_simp
        try simp only [Act.put, List.setIfInBounds_toArray, List.set_cons_zero, List.set_cons_succ]
        refine until_take (i := 4) (v := .pointer (some ⟨addr f, 0, none⟩)) rfl (by kernel_rfl) (by kernel_rfl) (by kernel_rfl) (fun _ _ _ h => h) rfl (by kernel_rfl) (Or.inl ⟨by rfl, fun w' hw' => ?_⟩) ⟨p3s, pb, r0, r1⟩ ?_
        · obtain ⟨_, _, _, _⟩ := hw'
          go_simp
        try simp only [Act.put, List.setIfInBounds_toArray, List.set_cons_zero, List.set_cons_succ]
        refine until_take (i := 6) (v := .pointer (some ⟨wr.heap.size, 1, none⟩)) rfl (by kernel_rfl) (by kernel_rfl) (by kernel_rfl) (fun _ _ _ h => h) rfl (by kernel_rfl) (Or.inl ⟨by rfl, fun w' hw' => ?_⟩) ⟨p3s, pb, r0, r1⟩ ?_
        · obtain ⟨_, _, _, _⟩ := hw'
          go_simp
        try simp only [Act.put, List.setIfInBounds_toArray, List.set_cons_zero, List.set_cons_succ]
        refine until_take (i := 7) (v := .func (.func 60) #[] #[ptrV x]) rfl (by kernel_rfl) (by kernel_rfl) (by kernel_rfl) (fun _ _ _ h => h) rfl (by kernel_rfl) (Or.inl ⟨by rfl, fun w' hw' => ?_⟩) ⟨p3s, pb, r0, r1⟩ ?_
        · obtain ⟨_, _, _, _⟩ := hw'
          go_simp
        try simp only [Act.put, List.setIfInBounds_toArray, List.set_cons_zero, List.set_cons_succ]
        refine until_step (j := 5) (by kernel_rfl) rfl (fun K hK => ?_)
        go_simp
        go_at_call 58
        refine (copied_any (w := V.drew) HC.out hLf HBV).mono ?_
        rintro e w2 ⟨addr3, ks3, rfl, hC3, hk3, hi3, hf3⟩
        have hsz2 : V.heap.size ≤ w2.heap.size := hf3.size
        have hc2 : wr.heap.size < w2.heap.size := Nat.lt_of_lt_of_le HV.out.1 hsz2
        have hx2 : w.heap.size + 1 + 1 + 1 < w2.heap.size := Nat.lt_trans hsz4 hc2
        have hs2 : w2.heap.size < (w2.alloc (.cells #[ptrV (addr3 f), .func (.func 60) #[] #[ptrV x]] 80)).heap.size := (by rw [World.size_alloc]; exact Nat.lt_succ_self _)
        have pb2 := (hf3.cell (p := ⟨w.heap.size + 1 + 1 + 1, 0, none⟩) (Nat.lt_trans hsz4 HV.out.1) HX4.out).trans pb
        have r02 := (hf3.cell (p := ⟨wr.heap.size, 0, none⟩) HV.out.1 HV.out.2.2.1).trans r0
        have r12 := (hf3.cell (p := ⟨wr.heap.size, 1, none⟩) HV.out.1 HV.out.2.2.1).trans r1
        have hcell2 := (hf3.block w.heap.size HV.out.2.1 HV.out.2.2.2).trans HCELL.out
        have hl2 : w.heap.size < w2.heap.size := Nat.lt_of_lt_of_le HV.out.2.1 hsz2
        have hl3 := Nat.lt_trans hl2 hs2
        have p3' : w2.cell? ⟨w.heap.size, 3, none⟩ = some px := (cell_at hcell2 3).trans rfl
        have y3' := free_at hcell2 3
        have HROW2 := Lib.hid (ownsRow_fr (w := V.drew) HROWV.out hf3 (fun b hb e => hncb (by rw [hb, e])))
        have HC3 := Lib.hid hC3
        have HK3 := Lib.hid hk3
        have HI3 := Lib.hid hi3
        have HF3 := Lib.hid hf3
        clear hC3 hk3 hi3 hf3 hcell2
        refine hK.out _ _ (fun _ => ⟨p3', pb2, r02, r12⟩) ?_
        clear hK K
        try simp only [Act.put, List.setIfInBounds_toArray, List.set_cons_zero, List.set_cons_succ]
        refine until_step (j := 8) (by kernel_rfl) rfl (fun K hK => ?_)
        go_simp
        refine hK.out _ _ (fun _ => ⟨p3', pb2, r02, r12⟩) ?_
        clear hK K
        try simp only [Act.put, List.setIfInBounds_toArray, List.set_cons_zero, List.set_cons_succ]
        refine until_step (j := 9) (by kernel_rfl) rfl (fun K hK => ?_)
        go_simp
        refine hK.out _ _ (fun _ => ⟨(World.cell?_alloc_past _ _ _ hl2).trans p3', (World.cell?_alloc_past _ _ _ hx2).trans pb2, (World.cell?_alloc_past _ _ _ hc2).trans r02, (World.cell?_alloc_past _ _ _ hc2).trans r12⟩) ?_
        clear hK K
        try simp only [Act.put, List.setIfInBounds_toArray, List.set_cons_zero, List.set_cons_succ]
        refine until_step (j := 10) (by kernel_rfl) rfl (fun K hK => ?_)
        refine step_append_own rfl (.tmp 42) (.tmp 50) 70 rfl 0 80 i0 (.agg #[.pointer none, .nilFunc]) 2 16 Try.underlying70 HI0.out HZ0.out HZ1.out HZ2.out rfl (by decide) px k yx (by rfl) (by exact (HROW2.out.alloc _)) ⟨w2.heap.size, 0, none⟩ 1 1 [ptrV (addr3 f), .func (.func 60) #[] #[ptrV x]] (by rfl) (by rfl) (by exact cell_two_new _ _ _ _) (by exact oneCells_two rfl rfl) (by unfold maxLen; omega) (by omega) (Nat.zero_le _) ?_
        intro v' w3 hown3 hg3 hloc3
        obtain ⟨gv, cv, rfl⟩ := owns_some hown3
        have m3 : w3.cell? ⟨w.heap.size, 3, none⟩ = some px := (World.cell?_of_block (hg3.block w.heap.size hl3 (fun e => hno e.symm))).trans ((World.cell?_alloc_past _ _ _ hl2).trans p3')
        have n3 : w3.frozen? ⟨w.heap.size, 3, none⟩ = false := (World.frozen?_of_block (hg3.block w.heap.size hl3 (fun e => hno e.symm))).trans ((World.frozen?_alloc_past _ _ _ hl2).trans y3')
        have pb3 : w3.cell? ⟨w.heap.size + 1 + 1 + 1, 0, none⟩ = some (.func (.func 58) #[] #[.pointer (some ⟨w.heap.size + 1 + 1, 0, none⟩)]) := (World.cell?_of_block (hg3.block (w.heap.size + 1 + 1 + 1) (Nat.lt_trans hx2 hs2) (fun e => HN.out.2.1 e.symm))).trans ((World.cell?_alloc_past _ _ _ hx2).trans pb2)
        have r03 : w3.cell? ⟨wr.heap.size, 0, none⟩ = some (.pointer (some ⟨addr f, 0, none⟩)) := (World.cell?_of_block (hg3.block wr.heap.size (Nat.lt_trans hc2 hs2) (fun e => HN.out.1 e.symm))).trans ((World.cell?_alloc_past _ _ _ hc2).trans r02)
        have r13 : w3.cell? ⟨wr.heap.size, 1, none⟩ = some (.func (.func 60) #[] #[ptrV x]) := (World.cell?_of_block (hg3.block wr.heap.size (Nat.lt_trans hc2 hs2) (fun e => HN.out.1 e.symm))).trans ((World.cell?_alloc_past _ _ _ hc2).trans r12)
        refine hK.out _ _ (fun _ => ⟨m3, pb3, r03, r13⟩) ?_
        clear hK K
        try simp only [Act.put, List.setIfInBounds_toArray, List.set_cons_zero, List.set_cons_succ]
        refine until_step (j := 11) (by kernel_rfl) rfl (fun K hK => ?_)
        go_simp
        refine hK.out _ _ (fun _ => ⟨m3, pb3, r03, r13⟩) ?_
        clear hK K
        try simp only [Act.put, List.setIfInBounds_toArray, List.set_cons_zero, List.set_cons_succ]
        refine until_step (j := 12) (by kernel_rfl) rfl (fun K hK => ?_)
        go_simp
        refine hK.out _ _ (fun h => absurd rfl h) ?_
        clear hK K
        try simp only [Act.put, List.setIfInBounds_toArray, List.set_cons_zero, List.set_cons_succ]
        refine until_done (by kernel_rfl) ?_ _
        all_goals
          have hstep := HINV.out.step (fun b hb => HP0.out.Glt b hb) HCH.out HC3.out HK3.out (((HWF.out.drew).mono (S' := fun i => i = w.heap.size + 1) (fun i e => e.elim)).trans HF3.out (fun i e => .inl e)) (show chIs w G addr3 (.set nm f) (ptrV (addr3 f)) (.func (.func 60) #[] #[ptrV x]) from ⟨rfl, x, rfl, HX.out, hgx⟩) (fun n' f' e => by cases e; exact HI3.out)
            (((Fr.refl (fun i => px.ownBlock = some i) w2).alloc _).grown hg3 (fun j e => .inl e)) hown3 (hloc3.imp id (fun e => ⟨_, e, by simp⟩))
          have HSTEP := Lib.hid hstep
          clear hstep hown3 hg3 hloc3
          go_wp2
          go_roundw
          case rel => exact ⟨k + 1, addr3, ks3, _, _, by go_num, by omega, HSTEP.out⟩
          case measure => simp [intOf]; omega
      | rem nm =>
        have HCS := Lib.hid hchs
        obtain ⟨rfl, x, rfl, hx, hgx⟩ := hchs
        clear hch hinv hx hgx
        go_upto_region 11 with (fail)
        have hWf : Fr (fun _ => False) wr (wr.alloc (.cells #[.pointer none, .func (.func 68) #[] #[ptrV x]] 80)) := (Fr.refl _ _).alloc _
        have hb0 := heap_alloc_this wr (.cells #[.pointer none, .func (.func 68) #[] #[ptrV x]] 80)
        have hw1 : (wr.alloc (.cells #[.pointer none, .func (.func 68) #[] #[ptrV x]] 80)).heap.size = wr.heap.size + 1 := World.size_alloc _ _
        generalize (wr.alloc (.cells #[.pointer none, .func (.func 68) #[] #[ptrV x]] 80)) = V at hWf hb0 hw1 ⊢
        have hcell := (hWf.block _ (lt_of_some HINV.out.cell) (fun e => e)).trans HINV.out.cell
        have hbox := (hWf.block _ (lt_of_some HINV.out.box) (fun e => e)).trans HINV.out.box
        have HC := Lib.hid (HINV.out.cps.kept (hWf.drew) (fun _ _ e => e) (fun e => e))
        have p3 := cell_at hcell 3
        have y3 := free_at hcell 3
        have pb : V.cell? ⟨w.heap.size + 1 + 1 + 1, 0, none⟩ = some (.func (.func 58) #[] #[.pointer (some ⟨w.heap.size + 1 + 1, 0, none⟩)]) := (cell_at hbox 0).trans rfl
        have r0 : V.cell? ⟨wr.heap.size, 0, none⟩ = some (.pointer none) := (cell_at hb0 0).trans rfl
        have r1 : V.cell? ⟨wr.heap.size, 1, none⟩ = some (.func (.func 68) #[] #[ptrV x]) := (cell_at hb0 1).trans rfl
        have HCELL := Lib.hid hcell
        have HB0 := Lib.hid hb0
        have HWF := Lib.hid hWf
        have HROW := Lib.hid HINV.out.row
        obtain ⟨ces, cc, hcm, _⟩ := HC.out.map
        have HCM := Lib.hid hcm
        have hsz4 : w.heap.size + 3 < wr.heap.size := lt_of_some HINV.out.box
        have HROWV := Lib.hid (ownsRow_fr HROW.out HWF.out (fun _ _ e => e))
        have hncb : px.ownBlock ≠ some (w.heap.size + 1) := row_not_map HROWV.out HCM.out
        have hno : px.ownBlock ≠ some w.heap.size := row_other HROWV.out HCELL.out (by decide)
        have HBV : w.heap.size ≤ V.drew.heap.size := by show _ ≤ V.heap.size; omega
        have hv1 : wr.heap.size < V.heap.size := by omega
        have hv2 : w.heap.size < V.heap.size := by omega
        have hv3 : wr.heap.size ≠ w.heap.size + 1 := by omega
        have hv4 : w.heap.size ≠ w.heap.size + 1 := by omega
        have HX4 := Lib.hid (show ¬ w.heap.size + 1 + 1 + 1 = w.heap.size + 1 by omega)
        have HBOXV := Lib.hid hbox
        have HV := Lib.hid (And.intro hv1 (And.intro hv2 (And.intro hv3 hv4)))
        clear hcell hbox hb0 hWf hcm hw1 hv1 hv2 hv3 hv4
        have p3s : V.cell? ⟨w.heap.size, 3, none⟩ = some px := p3.trans rfl
        have hrlt : ∀ b, px.ownBlock = some b → b < wr.heap.size := by
          intro b hb
          rcases HROW.out.2 with ⟨rfl, _⟩ | ⟨g', cap', cur, rfl, _, hg, _⟩
          · cases hb
          · cases hb; exact lt_of_some hg
        have hnc : px.ownBlock ≠ some wr.heap.size := fun e => by have := hrlt _ e; omega
        have hnx : px.ownBlock ≠ some (w.heap.size + 1 + 1 + 1) := row_other HROWV.out (cs := _) (t := 101) HBOXV.out (by decide)
        have hox : w.heap.size + 1 + 1 + 1 ≠ w.heap.size := by omega
        have hoc : wr.heap.size ≠ w.heap.size := by omega
        have HN := Lib.hid (And.intro hnc (And.intro hnx (And.intro hox hoc)))
        clear p3 hrlt hnc hnx hox hoc
        refine region_until (T := fun w' => w'.cell? ⟨w.heap.size, 3, none⟩ = some px ∧ w'.cell? ⟨w.heap.size + 1 + 1 + 1, 0, none⟩ = some (.func (.func 58) #[] #[.pointer (some ⟨w.heap.size + 1 + 1, 0, none⟩)]) ∧ w'.cell? ⟨wr.heap.size, 0, none⟩ = some (.pointer none) ∧ w'.cell? ⟨wr.heap.size, 1, none⟩ = some (.func (.func 68) #[] #[ptrV x])) (g := 12) (by kernel_rfl) ?_
        refine until_take (i := 0) (v := .pointer (some ⟨w.heap.size, 3, none⟩)) rfl (by kernel_rfl) (by kernel_rfl) (by kernel_rfl) (fun _ _ _ h => h) rfl (by kernel_rfl) (Or.inl ⟨by rfl, fun w' hw' => ?_⟩) ⟨p3s, pb, r0, r1⟩ ?_
        · obtain ⟨_, _, _, _⟩ := hw'
          go_simp
        try simp only [Act.put, List.setIfInBounds_toArray, List.set_cons_zero, List.set_cons_succ]
        refine until_take (i := 1) (v := px) rfl (by kernel_rfl) (by kernel_rfl) (by kernel_rfl) (fun _ _ _ h => h) rfl (by kernel_rfl) (Or.inl ⟨by rfl, fun w' hw' => ?_⟩) ⟨p3s, pb, r0, r1⟩ ?_
        · obtain ⟨_, _, _, _⟩ := hw'
          go_simp
        try simp only [Act.put, List.setIfInBounds_toArray, List.set_cons_zero, List.set_cons_succ]
        refine until_take (i := 2) (v := .func (.func 58) #[] #[.pointer (some ⟨w.heap.size + 1 + 1, 0, none⟩)]) rfl (by kernel_rfl) (by kernel_rfl) (by kernel_rfl) (fun _ _ _ h => h) rfl (by kernel_rfl) (Or.inl ⟨by rfl, fun w' hw' => ?_⟩) ⟨p3s, pb, r0, r1⟩ ?_
        · obtain ⟨_, _, _, _⟩ := hw'
          go_simp
        try simp only [Act.put, List.setIfInBounds_toArray, List.set_cons_zero, List.set_cons_succ]
        refine until_take (i := 3) (v := .pointer (some ⟨wr.heap.size, 0, none⟩)) rfl (by kernel_rfl) (by kernel_rfl) (by kernel_rfl) (fun _ _ _ h => h) rfl (by kernel_rfl) (Or.inl ⟨by rfl, fun w' hw' => ?_⟩) ⟨p3s, pb, r0, r1⟩ ?_
        · obtain ⟨_, _, _, _⟩ := hw'
          go_simp
        try simp only [Act.put, List.setIfInBounds_toArray, List.set_cons_zero, List.set_cons_succ]
        refine until_take (i := 4) (v := .pointer none) rfl (by kernel_rfl) (by kernel_rfl) (by kernel_rfl) (fun _ _ _ h => h) rfl (by kernel_rfl) (Or.inl ⟨by rfl, fun w' hw' => ?_⟩) ⟨p3s, pb, r0, r1⟩ ?_
        · obtain ⟨_, _, _, _⟩ := hw'
          go_simp
        try simp only [Act.put, List.setIfInBounds_toArray, List.set_cons_zero, List.set_cons_succ]
        refine until_take (i := 6) (v := .pointer (some ⟨wr.heap.size, 1, none⟩)) rfl (by kernel_rfl) (by kernel_rfl) (by kernel_rfl) (fun _ _ _ h => h) rfl (by kernel_rfl) (Or.inl ⟨by rfl, fun w' hw' => ?_⟩) ⟨p3s, pb, r0, r1⟩ ?_
        · obtain ⟨_, _, _, _⟩ := hw'
          go_simp
        try simp only [Act.put, List.setIfInBounds_toArray, List.set_cons_zero, List.set_cons_succ]
        refine until_take (i := 7) (v := .func (.func 68) #[] #[ptrV x]) rfl (by kernel_rfl) (by kernel_rfl) (by kernel_rfl) (fun _ _ _ h => h) rfl (by kernel_rfl) (Or.inl ⟨by rfl, fun w' hw' => ?_⟩) ⟨p3s, pb, r0, r1⟩ ?_
        · obtain ⟨_, _, _, _⟩ := hw'
          go_simp
        try simp only [Act.put, List.setIfInBounds_toArray, List.set_cons_zero, List.set_cons_succ]
        refine until_step (j := 5) (by kernel_rfl) rfl (fun K hK => ?_)
        go_simp
        go_at_call 58
        refine (copied_nil' (w := V.drew) HC.out).mono ?_
        rintro e w2 ⟨rfl, hC3, hf3⟩
        have hsz2 : V.heap.size ≤ w2.heap.size := hf3.size
        have hc2 : wr.heap.size < w2.heap.size := Nat.lt_of_lt_of_le HV.out.1 hsz2
        have hx2 : w.heap.size + 1 + 1 + 1 < w2.heap.size := Nat.lt_trans hsz4 hc2
        have hs2 : w2.heap.size < (w2.alloc (.cells #[.pointer none, .func (.func 68) #[] #[ptrV x]] 80)).heap.size := (by rw [World.size_alloc]; exact Nat.lt_succ_self _)
        have pb2 := (hf3.cell (p := ⟨w.heap.size + 1 + 1 + 1, 0, none⟩) (Nat.lt_trans hsz4 HV.out.1) HX4.out).trans pb
        have r02 := (hf3.cell (p := ⟨wr.heap.size, 0, none⟩) HV.out.1 HV.out.2.2.1).trans r0
        have r12 := (hf3.cell (p := ⟨wr.heap.size, 1, none⟩) HV.out.1 HV.out.2.2.1).trans r1
        have hcell2 := (hf3.block w.heap.size HV.out.2.1 HV.out.2.2.2).trans HCELL.out
        have hl2 : w.heap.size < w2.heap.size := Nat.lt_of_lt_of_le HV.out.2.1 hsz2
        have hl3 := Nat.lt_trans hl2 hs2
        have p3' : w2.cell? ⟨w.heap.size, 3, none⟩ = some px := (cell_at hcell2 3).trans rfl
        have y3' := free_at hcell2 3
        have HROW2 := Lib.hid (ownsRow_fr (w := V.drew) HROWV.out hf3 (fun b hb e => hncb (by rw [hb, e])))
        have HC3 := Lib.hid hC3
        have HF3 := Lib.hid hf3
        clear hC3 hf3 hcell2
        refine hK.out _ _ (fun _ => ⟨p3', pb2, r02, r12⟩) ?_
        clear hK K
        try simp only [Act.put, List.setIfInBounds_toArray, List.set_cons_zero, List.set_cons_succ]
        refine until_step (j := 8) (by kernel_rfl) rfl (fun K hK => ?_)
        go_simp
        refine hK.out _ _ (fun _ => ⟨p3', pb2, r02, r12⟩) ?_
        clear hK K
        try simp only [Act.put, List.setIfInBounds_toArray, List.set_cons_zero, List.set_cons_succ]
        refine until_step (j := 9) (by kernel_rfl) rfl (fun K hK => ?_)
        go_simp
        refine hK.out _ _ (fun _ => ⟨(World.cell?_alloc_past _ _ _ hl2).trans p3', (World.cell?_alloc_past _ _ _ hx2).trans pb2, (World.cell?_alloc_past _ _ _ hc2).trans r02, (World.cell?_alloc_past _ _ _ hc2).trans r12⟩) ?_
        clear hK K
        try simp only [Act.put, List.setIfInBounds_toArray, List.set_cons_zero, List.set_cons_succ]
        refine until_step (j := 10) (by kernel_rfl) rfl (fun K hK => ?_)
        refine step_append_own rfl (.tmp 42) (.tmp 50) 70 rfl 0 80 i0 (.agg #[.pointer none, .nilFunc]) 2 16 Try.underlying70 HI0.out HZ0.out HZ1.out HZ2.out rfl (by decide) px k yx (by rfl) (by exact (HROW2.out.alloc _)) ⟨w2.heap.size, 0, none⟩ 1 1 [.pointer none, .func (.func 68) #[] #[ptrV x]] (by rfl) (by rfl) (by exact cell_two_new _ _ _ _) (by exact oneCells_two rfl rfl) (by unfold maxLen; omega) (by omega) (Nat.zero_le _) ?_
        intro v' w3 hown3 hg3 hloc3
        obtain ⟨gv, cv, rfl⟩ := owns_some hown3
        have m3 : w3.cell? ⟨w.heap.size, 3, none⟩ = some px := (World.cell?_of_block (hg3.block w.heap.size hl3 (fun e => hno e.symm))).trans ((World.cell?_alloc_past _ _ _ hl2).trans p3')
        have n3 : w3.frozen? ⟨w.heap.size, 3, none⟩ = false := (World.frozen?_of_block (hg3.block w.heap.size hl3 (fun e => hno e.symm))).trans ((World.frozen?_alloc_past _ _ _ hl2).trans y3')
        have pb3 : w3.cell? ⟨w.heap.size + 1 + 1 + 1, 0, none⟩ = some (.func (.func 58) #[] #[.pointer (some ⟨w.heap.size + 1 + 1, 0, none⟩)]) := (World.cell?_of_block (hg3.block (w.heap.size + 1 + 1 + 1) (Nat.lt_trans hx2 hs2) (fun e => HN.out.2.1 e.symm))).trans ((World.cell?_alloc_past _ _ _ hx2).trans pb2)
        have r03 : w3.cell? ⟨wr.heap.size, 0, none⟩ = some (.pointer none) := (World.cell?_of_block (hg3.block wr.heap.size (Nat.lt_trans hc2 hs2) (fun e => HN.out.1 e.symm))).trans ((World.cell?_alloc_past _ _ _ hc2).trans r02)
        have r13 : w3.cell? ⟨wr.heap.size, 1, none⟩ = some (.func (.func 68) #[] #[ptrV x]) := (World.cell?_of_block (hg3.block wr.heap.size (Nat.lt_trans hc2 hs2) (fun e => HN.out.1 e.symm))).trans ((World.cell?_alloc_past _ _ _ hc2).trans r12)
        refine hK.out _ _ (fun _ => ⟨m3, pb3, r03, r13⟩) ?_
        clear hK K
        try simp only [Act.put, List.setIfInBounds_toArray, List.set_cons_zero, List.set_cons_succ]
        refine until_step (j := 11) (by kernel_rfl) rfl (fun K hK => ?_)
        go_simp
        refine hK.out _ _ (fun _ => ⟨m3, pb3, r03, r13⟩) ?_
        clear hK K
        try simp only [Act.put, List.setIfInBounds_toArray, List.set_cons_zero, List.set_cons_succ]
        refine until_step (j := 12) (by kernel_rfl) rfl (fun K hK => ?_)
        go_simp
        refine hK.out _ _ (fun h => absurd rfl h) ?_
        clear hK K
        try simp only [Act.put, List.setIfInBounds_toArray, List.set_cons_zero, List.set_cons_succ]
        refine until_done (by kernel_rfl) ?_ _
        all_goals
          have hstep := HINV.out.step (fun b hb => HP0.out.Glt b hb) HCH.out HC3.out (fun j hj => ⟨hj, rfl⟩) (((HWF.out.drew).mono (S' := fun i => i = w.heap.size + 1) (fun i e => e.elim)).trans HF3.out (fun i e => .inl e)) (show chIs w G ax (.rem nm) (.pointer none) (.func (.func 68) #[] #[ptrV x]) from HCS.out) (fun n' f' e => by cases e)
            (((Fr.refl (fun i => px.ownBlock = some i) w2).alloc _).grown hg3 (fun j e => .inl e)) hown3 (hloc3.imp id (fun e => ⟨_, e, by simp⟩))
          have HSTEP := Lib.hid hstep
          clear hstep hown3 hg3 hloc3
          go_wp2
          go_roundw
          case rel => exact ⟨k + 1, ax, kx, _, _, by go_num, by omega, HSTEP.out⟩
          case measure => simp [intOf]; omega
      | ren s1 s2 f =>
        have HCS := Lib.hid hchs
        obtain ⟨rfl, x, y, rfl, hx, hy, hgx, hgy⟩ := hchs
        clear hch hinv hx hy hgx hgy
        go_upto_region 11 with (fail)
        have hWf : Fr (fun _ => False) wr (wr.alloc (.cells #[.pointer none, .func (.func 65) #[] #[ptrV x, ptrV y]] 80)) := (Fr.refl _ _).alloc _
        have hb0 := heap_alloc_this wr (.cells #[.pointer none, .func (.func 65) #[] #[ptrV x, ptrV y]] 80)
        have hw1 : (wr.alloc (.cells #[.pointer none, .func (.func 65) #[] #[ptrV x, ptrV y]] 80)).heap.size = wr.heap.size + 1 := World.size_alloc _ _
        generalize (wr.alloc (.cells #[.pointer none, .func (.func 65) #[] #[ptrV x, ptrV y]] 80)) = V at hWf hb0 hw1 ⊢
        have hcell := (hWf.block _ (lt_of_some HINV.out.cell) (fun e => e)).trans HINV.out.cell
        have hbox := (hWf.block _ (lt_of_some HINV.out.box) (fun e => e)).trans HINV.out.box
        have HC := Lib.hid (HINV.out.cps.kept (hWf.drew) (fun _ _ e => e) (fun e => e))
        have p3 := cell_at hcell 3
        have y3 := free_at hcell 3
        have pb : V.cell? ⟨w.heap.size + 1 + 1 + 1, 0, none⟩ = some (.func (.func 58) #[] #[.pointer (some ⟨w.heap.size + 1 + 1, 0, none⟩)]) := (cell_at hbox 0).trans rfl
        have r0 : V.cell? ⟨wr.heap.size, 0, none⟩ = some (.pointer none) := (cell_at hb0 0).trans rfl
        have r1 : V.cell? ⟨wr.heap.size, 1, none⟩ = some (.func (.func 65) #[] #[ptrV x, ptrV y]) := (cell_at hb0 1).trans rfl
        have HCELL := Lib.hid hcell
        have HB0 := Lib.hid hb0
        have HWF := Lib.hid hWf
        have HROW := Lib.hid HINV.out.row
        obtain ⟨ces, cc, hcm, _⟩ := HC.out.map
        have HCM := Lib.hid hcm
        have hsz4 : w.heap.size + 3 < wr.heap.size := lt_of_some HINV.out.box
        have HROWV := Lib.hid (ownsRow_fr HROW.out HWF.out (fun _ _ e => e))
        have hncb : px.ownBlock ≠ some (w.heap.size + 1) := row_not_map HROWV.out HCM.out
        have hno : px.ownBlock ≠ some w.heap.size := row_other HROWV.out HCELL.out (by decide)
        have HBV : w.heap.size ≤ V.drew.heap.size := by show _ ≤ V.heap.size; omega
        have hv1 : wr.heap.size < V.heap.size := by omega
        have hv2 : w.heap.size < V.heap.size := by omega
        have hv3 : wr.heap.size ≠ w.heap.size + 1 := by omega
        have hv4 : w.heap.size ≠ w.heap.size + 1 := by omega
        have HX4 := Lib.hid (show ¬ w.heap.size + 1 + 1 + 1 = w.heap.size + 1 by omega)
        have HBOXV := Lib.hid hbox
        have HV := Lib.hid (And.intro hv1 (And.intro hv2 (And.intro hv3 hv4)))
        clear hcell hbox hb0 hWf hcm hw1 hv1 hv2 hv3 hv4
        have p3s : V.cell? ⟨w.heap.size, 3, none⟩ = some px := p3.trans rfl
        have hrlt : ∀ b, px.ownBlock = some b → b < wr.heap.size := by
          intro b hb
          rcases HROW.out.2 with ⟨rfl, _⟩ | ⟨g', cap', cur, rfl, _, hg, _⟩
          · cases hb
          · cases hb; exact lt_of_some hg
        have hnc : px.ownBlock ≠ some wr.heap.size := fun e => by have := hrlt _ e; omega
        have hnx : px.ownBlock ≠ some (w.heap.size + 1 + 1 + 1) := row_other HROWV.out (cs := _) (t := 101) HBOXV.out (by decide)
        have hox : w.heap.size + 1 + 1 + 1 ≠ w.heap.size := by omega
        have hoc : wr.heap.size ≠ w.heap.size := by omega
        have HN := Lib.hid (And.intro hnc (And.intro hnx (And.intro hox hoc)))
        clear p3 hrlt hnc hnx hox hoc
        refine region_until (T := fun w' => w'.cell? ⟨w.heap.size, 3, none⟩ = some px ∧ w'.cell? ⟨w.heap.size + 1 + 1 + 1, 0, none⟩ = some (.func (.func 58) #[] #[.pointer (some ⟨w.heap.size + 1 + 1, 0, none⟩)]) ∧ w'.cell? ⟨wr.heap.size, 0, none⟩ = some (.pointer none) ∧ w'.cell? ⟨wr.heap.size, 1, none⟩ = some (.func (.func 65) #[] #[ptrV x, ptrV y])) (g := 12) (by kernel_rfl) ?_
        refine until_take (i := 0) (v := .pointer (some ⟨w.heap.size, 3, none⟩)) rfl (by kernel_rfl) (by kernel_rfl) (by kernel_rfl) (fun _ _ _ h => h) rfl (by kernel_rfl) (Or.inl ⟨by rfl, fun w' hw' => ?_⟩) ⟨p3s, pb, r0, r1⟩ ?_
        · obtain ⟨_, _, _, _⟩ := hw'
          go_simp
        try simp only [Act.put, List.setIfInBounds_toArray, List.set_cons_zero, List.set_cons_succ]
        refine until_take (i := 1) (v := px) rfl (by kernel_rfl) (by kernel_rfl) (by kernel_rfl) (fun _ _ _ h => h) rfl (by kernel_rfl) (Or.inl ⟨by rfl, fun w' hw' => ?_⟩) ⟨p3s, pb, r0, r1⟩ ?_
        · obtain ⟨_, _, _, _⟩ := hw'
          go_simp
        try simp only [Act.put, List.setIfInBounds_toArray, List.set_cons_zero, List.set_cons_succ]
        refine until_take (i := 2) (v := .func (.func 58) #[] #[.pointer (some ⟨w.heap.size + 1 + 1, 0, none⟩)]) rfl (by kernel_rfl) (by kernel_rfl) (by kernel_rfl) (fun _ _ _ h => h) rfl (by kernel_rfl) (Or.inl ⟨by rfl, fun w' hw' => ?_⟩) ⟨p3s, pb, r0, r1⟩ ?_
        · obtain ⟨_, _, _, _⟩ := hw'
          go_simp
        try simp only [Act.put, List.setIfInBounds_toArray, List.set_cons_zero, List.set_cons_succ]
        refine until_take (i := 3) (v := .pointer (some ⟨wr.heap.size, 0, none⟩)) rfl (by kernel_rfl) (by kernel_rfl) (by kernel_rfl) (fun _ _ _ h => h) rfl (by kernel_rfl) (Or.inl ⟨by rfl, fun w' hw' => ?_⟩) ⟨p3s, pb, r0, r1⟩ ?_
        · obtain ⟨_, _, _, _⟩ := hw'
          go_simp
        try simp only [Act.put, List.setIfInBounds_toArray, List.set_cons_zero, List.set_cons_succ]
        refine until_take (i := 4) (v := .pointer none) rfl (by kernel_rfl) (by kernel_rfl) (by kernel_rfl) (fun _ _ _ h => h) rfl (by kernel_rfl) (Or.inl ⟨by rfl, fun w' hw' => ?_⟩) ⟨p3s, pb, r0, r1⟩ ?_
        · obtain ⟨_, _, _, _⟩ := hw'
          go_simp
        try simp only [Act.put, List.setIfInBounds_toArray, List.set_cons_zero, List.set_cons_succ]
        refine until_take (i := 6) (v := .pointer (some ⟨wr.heap.size, 1, none⟩)) rfl (by kernel_rfl) (by kernel_rfl) (by kernel_rfl) (fun _ _ _ h => h) rfl (by kernel_rfl) (Or.inl ⟨by rfl, fun w' hw' => ?_⟩) ⟨p3s, pb, r0, r1⟩ ?_
        · obtain ⟨_, _, _, _⟩ := hw'
          go_simp
        try simp only [Act.put, List.setIfInBounds_toArray, List.set_cons_zero, List.set_cons_succ]
        refine until_take (i := 7) (v := .func (.func 65) #[] #[ptrV x, ptrV y]) rfl (by kernel_rfl) (by kernel_rfl) (by kernel_rfl) (fun _ _ _ h => h) rfl (by kernel_rfl) (Or.inl ⟨by rfl, fun w' hw' => ?_⟩) ⟨p3s, pb, r0, r1⟩ ?_
        · obtain ⟨_, _, _, _⟩ := hw'
          go_simp
        try simp only [Act.put, List.setIfInBounds_toArray, List.set_cons_zero, List.set_cons_succ]
        refine until_step (j := 5) (by kernel_rfl) rfl (fun K hK => ?_)
        go_simp
        go_at_call 58
        refine (copied_nil' (w := V.drew) HC.out).mono ?_
        rintro e w2 ⟨rfl, hC3, hf3⟩
        have hsz2 : V.heap.size ≤ w2.heap.size := hf3.size
        have hc2 : wr.heap.size < w2.heap.size := Nat.lt_of_lt_of_le HV.out.1 hsz2
        have hx2 : w.heap.size + 1 + 1 + 1 < w2.heap.size := Nat.lt_trans hsz4 hc2
        have hs2 : w2.heap.size < (w2.alloc (.cells #[.pointer none, .func (.func 65) #[] #[ptrV x, ptrV y]] 80)).heap.size := (by rw [World.size_alloc]; exact Nat.lt_succ_self _)
        have pb2 := (hf3.cell (p := ⟨w.heap.size + 1 + 1 + 1, 0, none⟩) (Nat.lt_trans hsz4 HV.out.1) HX4.out).trans pb
        have r02 := (hf3.cell (p := ⟨wr.heap.size, 0, none⟩) HV.out.1 HV.out.2.2.1).trans r0
        have r12 := (hf3.cell (p := ⟨wr.heap.size, 1, none⟩) HV.out.1 HV.out.2.2.1).trans r1
        have hcell2 := (hf3.block w.heap.size HV.out.2.1 HV.out.2.2.2).trans HCELL.out
        have hl2 : w.heap.size < w2.heap.size := Nat.lt_of_lt_of_le HV.out.2.1 hsz2
        have hl3 := Nat.lt_trans hl2 hs2
        have p3' : w2.cell? ⟨w.heap.size, 3, none⟩ = some px := (cell_at hcell2 3).trans rfl
        have y3' := free_at hcell2 3
        have HROW2 := Lib.hid (ownsRow_fr (w := V.drew) HROWV.out hf3 (fun b hb e => hncb (by rw [hb, e])))
        have HC3 := Lib.hid hC3
        have HF3 := Lib.hid hf3
        clear hC3 hf3 hcell2
        refine hK.out _ _ (fun _ => ⟨p3', pb2, r02, r12⟩) ?_
        clear hK K
        try simp only [Act.put, List.setIfInBounds_toArray, List.set_cons_zero, List.set_cons_succ]
        refine until_step (j := 8) (by kernel_rfl) rfl (fun K hK => ?_)
        go_simp
        refine hK.out _ _ (fun _ => ⟨p3', pb2, r02, r12⟩) ?_
        clear hK K
        try simp only [Act.put, List.setIfInBounds_toArray, List.set_cons_zero, List.set_cons_succ]
        refine until_step (j := 9) (by kernel_rfl) rfl (fun K hK => ?_)
        go_simp
        refine hK.out _ _ (fun _ => ⟨(World.cell?_alloc_past _ _ _ hl2).trans p3', (World.cell?_alloc_past _ _ _ hx2).trans pb2, (World.cell?_alloc_past _ _ _ hc2).trans r02, (World.cell?_alloc_past _ _ _ hc2).trans r12⟩) ?_
        clear hK K
        try simp only [Act.put, List.setIfInBounds_toArray, List.set_cons_zero, List.set_cons_succ]
        refine until_step (j := 10) (by kernel_rfl) rfl (fun K hK => ?_)
        refine step_append_own rfl (.tmp 42) (.tmp 50) 70 rfl 0 80 i0 (.agg #[.pointer none, .nilFunc]) 2 16 Try.underlying70 HI0.out HZ0.out HZ1.out HZ2.out rfl (by decide) px k yx (by rfl) (by exact (HROW2.out.alloc _)) ⟨w2.heap.size, 0, none⟩ 1 1 [.pointer none, .func (.func 65) #[] #[ptrV x, ptrV y]] (by rfl) (by rfl) (by exact cell_two_new _ _ _ _) (by exact oneCells_two rfl rfl) (by unfold maxLen; omega) (by omega) (Nat.zero_le _) ?_
        intro v' w3 hown3 hg3 hloc3
        obtain ⟨gv, cv, rfl⟩ := owns_some hown3
        have m3 : w3.cell? ⟨w.heap.size, 3, none⟩ = some px := (World.cell?_of_block (hg3.block w.heap.size hl3 (fun e => hno e.symm))).trans ((World.cell?_alloc_past _ _ _ hl2).trans p3')
        have n3 : w3.frozen? ⟨w.heap.size, 3, none⟩ = false := (World.frozen?_of_block (hg3.block w.heap.size hl3 (fun e => hno e.symm))).trans ((World.frozen?_alloc_past _ _ _ hl2).trans y3')
        have pb3 : w3.cell? ⟨w.heap.size + 1 + 1 + 1, 0, none⟩ = some (.func (.func 58) #[] #[.pointer (some ⟨w.heap.size + 1 + 1, 0, none⟩)]) := (World.cell?_of_block (hg3.block (w.heap.size + 1 + 1 + 1) (Nat.lt_trans hx2 hs2) (fun e => HN.out.2.1 e.symm))).trans ((World.cell?_alloc_past _ _ _ hx2).trans pb2)
        have r03 : w3.cell? ⟨wr.heap.size, 0, none⟩ = some (.pointer none) := (World.cell?_of_block (hg3.block wr.heap.size (Nat.lt_trans hc2 hs2) (fun e => HN.out.1 e.symm))).trans ((World.cell?_alloc_past _ _ _ hc2).trans r02)
        have r13 : w3.cell? ⟨wr.heap.size, 1, none⟩ = some (.func (.func 65) #[] #[ptrV x, ptrV y]) := (World.cell?_of_block (hg3.block wr.heap.size (Nat.lt_trans hc2 hs2) (fun e => HN.out.1 e.symm))).trans ((World.cell?_alloc_past _ _ _ hc2).trans r12)
        refine hK.out _ _ (fun _ => ⟨m3, pb3, r03, r13⟩) ?_
        clear hK K
        try simp only [Act.put, List.setIfInBounds_toArray, List.set_cons_zero, List.set_cons_succ]
        refine until_step (j := 11) (by kernel_rfl) rfl (fun K hK => ?_)
        go_simp
        refine hK.out _ _ (fun _ => ⟨m3, pb3, r03, r13⟩) ?_
        clear hK K
        try simp only [Act.put, List.setIfInBounds_toArray, List.set_cons_zero, List.set_cons_succ]
        refine until_step (j := 12) (by kernel_rfl) rfl (fun K hK => ?_)
        go_simp
        refine hK.out _ _ (fun h => absurd rfl h) ?_
        clear hK K
        try simp only [Act.put, List.setIfInBounds_toArray, List.set_cons_zero, List.set_cons_succ]
        refine until_done (by kernel_rfl) ?_ _
        all_goals
          have hstep := HINV.out.step (fun b hb => HP0.out.Glt b hb) HCH.out HC3.out (fun j hj => ⟨hj, rfl⟩) (((HWF.out.drew).mono (S' := fun i => i = w.heap.size + 1) (fun i e => e.elim)).trans HF3.out (fun i e => .inl e)) (show chIs w G ax (.ren s1 s2 f) (.pointer none) (.func (.func 65) #[] #[ptrV x, ptrV y]) from HCS.out) (fun n' f' e => by cases e)
            (((Fr.refl (fun i => px.ownBlock = some i) w2).alloc _).grown hg3 (fun j e => .inl e)) hown3 (hloc3.imp id (fun e => ⟨_, e, by simp⟩))
          have HSTEP := Lib.hid hstep
          clear hstep hown3 hg3 hloc3
          go_wp2
          go_roundw
          case rel => exact ⟨k + 1, ax, kx, _, _, by go_num, by omega, HSTEP.out⟩
          case measure => simp [intOf]; omega
    · obtain rfl : k = s.pending.length := by omega
      have HINV := Lib.hid (hinv.done HP0.out)
      clear hinv
      go_wp2
      go_ret
      exact HINV.out
set_option maxRecDepth 100000 in
set_option maxHeartbeats 400000 in
theorem clone_nil (w : World) : Calls Try.prog 36 #[.pointer none] w fun e w' => e = .returned (.pointer none) ∧ w = w' := by
  go_enter Try.func36, Try.ntmps36
  go_wp2
  go_ret
  exact ⟨rfl, rfl⟩
end Go.Proofs.Ytigcokgjikkohaa
