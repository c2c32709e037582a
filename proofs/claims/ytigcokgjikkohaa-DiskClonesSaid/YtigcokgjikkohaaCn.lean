/- The walk of DiskClones. -/
import Derived.Test.YtigcokgjikkohaaCl
import Derived.Test.YtigcokgjikkohaaCa
namespace Go.Proofs.Ytigcokgjikkohaa
open Go.RowKit Go.Maps Go.Sort
set_option linter.unusedVariables false
set_option linter.unusedSimpArgs false
theorem clone_any {w : World} {F G : Nat → Prop} {d n : Nat} {s : Pd.PD} (h : DiskAt w F G d s) (hi : Pd.Inv n s) (hn1 : n < 1000000) :
    Calls Try.prog 36 #[.pointer (some ⟨d, 0, none⟩)] w (DiskCloned w G s) := by
  obtain ⟨nb, db, pv, xs, addr, L, left, p⟩ := h
  rcases p.row.2 with ⟨hv, h0⟩ | ⟨g, cap, cur, hv, _, _, hc, _⟩
  · exact clone_at p hi hn1 none 0 (by rw [hv, h0]) (by omega) (.inl ⟨rfl, h0, rfl⟩)
  · exact clone_at p hi hn1 (some ⟨g, 0, none⟩) cap hv hc (.inr ⟨g, rfl⟩)
namespace Pd
def runActs : List PAct → PD → List Int × PD
  | [], s => ([], s)
  | x :: r, s => ((x.on s).1 :: (runActs r (x.on s).2).1, (runActs r (x.on s).2).2)
theorem runActs_snoc (x : PAct) : ∀ (l : List PAct) (s : PD), runActs (l ++ [x]) s = ((runActs l s).1 ++ [(x.on (runActs l s).2).1], (x.on (runActs l s).2).2)
  | [], s => rfl
  | y :: r, s => by
    show ((y.on s).1 :: (runActs (r ++ [x]) (y.on s).2).1, (runActs (r ++ [x]) (y.on s).2).2) = _
    rw [runActs_snoc x r]
    rfl
theorem runActs_len : ∀ (l : List PAct) (s : PD), (runActs l s).1.length = l.length
  | [], s => rfl
  | x :: r, s => by
    show ((runActs r (x.on s).2).1.length + 1) = _
    rw [runActs_len r]
    rfl
theorem runActs_take {l : List PAct} {j : Nat} {x : PAct} (h : l[j]? = some x) (s : PD) : runActs (l.take (j + 1)) s = ((runActs (l.take j) s).1 ++ [(x.on (runActs (l.take j) s).2).1], (x.on (runActs (l.take j) s).2).2) := by
  rw [List.take_add_one, h]
  exact runActs_snoc x _ s
theorem runActs_get : ∀ {l : List PAct} {j : Nat} {x : PAct}, l[j]? = some x → ∀ s : PD, (runActs l s).1[j]? = some (x.on (runActs (l.take j) s).2).1
  | [], _, _, h, _ => by simp at h
  | y :: r, 0, x, h, s => by simp at h; subst h; rfl
  | y :: r, j + 1, x, h, s => by
    have := runActs_get (l := r) (j := j) (x := x) (by simpa using h) (y.on s).2
    simpa [runActs] using this
end Pd
/-- The blocks of a disk, of its clone, of a model, and others that are kept apart. -/
structure TriOk (B : Nat) (w : World) (m : Nat) (F G F2 G2 M P : Nat → Prop) : Prop where
  hF : ∀ b, F b → B ≤ b ∧ b < w.heap.size ∧ b ≠ m ∧ ¬ F2 b ∧ ¬ G2 b ∧ ¬ M b ∧ ¬ P b
  hF2 : ∀ b, F2 b → B ≤ b ∧ b < w.heap.size ∧ b ≠ m ∧ ¬ F b ∧ ¬ G b ∧ ¬ M b ∧ ¬ P b
  hG : ∀ b, G b → B ≤ b ∧ b < w.heap.size ∧ b ≠ m ∧ ¬ P b
  hG2 : ∀ b, G2 b → B ≤ b ∧ b < w.heap.size ∧ b ≠ m ∧ ¬ P b
  hM : ∀ b, M b → B ≤ b ∧ b < w.heap.size ∧ ¬ P b
  hP : ∀ b, P b → B ≤ b ∧ b < w.heap.size ∧ b ≠ m
  hm : B ≤ m ∧ m < w.heap.size
def TriAt (B : Nat) (P : Nat → Prop) (w : World) (d n c k m : Nat) (s t u : Pd.PD) : Prop :=
  ∃ F G F2 G2 M, (Pd.Inv n s ∧ DiskAt w F G d s) ∧ (Pd.Inv k t ∧ DiskAt w F2 G2 c t) ∧ ModelAt w M m u ∧ TriOk B w m F G F2 G2 M P
def TRet (B : Nat) (P : Nat → Prop) (w : World) (d n c k m : Nat) (r : Int) (s t u : Pd.PD) (e : Ending) (w' : World) : Prop :=
  e = .returned (.int .i64 r) ∧ TriAt B P w' d n c k m s t u ∧ Fr (fun i => B ≤ i ∧ ¬ P i) w w'
section
variable {w w' : World} {B d n n' c k m : Nat} {s s' t u u' : Pd.PD} {x : PAct} {P P' F G F2 G2 M : Nat → Prop}
theorem TriAt.swap (h : TriAt B P w d n c k m s t u) : TriAt B P w c k d n m t s u :=
  let ⟨F, G, F2, G2, M, h1, h2, h3, ok⟩ := h
  ⟨F2, G2, F, G, M, h2, h1, h3, ok.hF2, ok.hF, ok.hG2, ok.hG, ok.hM, ok.hP, ok.hm⟩
theorem TRet.swap {r : Int} {e : Ending} (h : TRet B P w d n c k m r s t u e w') : TRet B P w c k d n m r t s u e w' := ⟨h.1, h.2.1.swap, h.2.2⟩
theorem TriAt.disk (h : TriAt B P w d n c k m s t u) : DiskIn B w d n s :=
  let ⟨F, G, _, _, _, h1, _, _, ok⟩ := h; ⟨h1.1, F, G, h1.2, fun b hb => (ok.hF b hb).1, fun b hb => (ok.hG b hb).1⟩
theorem TriAt.kept (h : TriAt B P w d n c k m s t u) (hf : Fr (fun _ => False) w w') : TriAt B P w' d n c k m s t u :=
  let ⟨F, G, F2, G2, M, h1, h2, h3, ok⟩ := h
  ⟨F, G, F2, G2, M, ⟨h1.1, h1.2.kept hf (fun _ _ e => e) (fun _ _ e => e)⟩, ⟨h2.1, h2.2.kept hf (fun _ _ e => e) (fun _ _ e => e)⟩, h3.kept hf (fun _ _ _ e => e) (fun e => e),
    fun b hb => ⟨(ok.hF b hb).1, Nat.lt_of_lt_of_le (ok.hF b hb).2.1 hf.size, (ok.hF b hb).2.2⟩, fun b hb => ⟨(ok.hF2 b hb).1, Nat.lt_of_lt_of_le (ok.hF2 b hb).2.1 hf.size, (ok.hF2 b hb).2.2⟩,
    fun b hb => ⟨(ok.hG b hb).1, Nat.lt_of_lt_of_le (ok.hG b hb).2.1 hf.size, (ok.hG b hb).2.2⟩, fun b hb => ⟨(ok.hG2 b hb).1, Nat.lt_of_lt_of_le (ok.hG2 b hb).2.1 hf.size, (ok.hG2 b hb).2.2⟩,
    fun b hb => ⟨(ok.hM b hb).1, Nat.lt_of_lt_of_le (ok.hM b hb).2.1 hf.size, (ok.hM b hb).2.2⟩, fun b hb => ⟨(ok.hP b hb).1, Nat.lt_of_lt_of_le (ok.hP b hb).2.1 hf.size, (ok.hP b hb).2.2⟩, ok.hm.1, Nat.lt_of_lt_of_le ok.hm.2 hf.size⟩
/-- Blocks that are kept apart are written or made. -/
theorem TriAt.own (h : TriAt B P w d n c k m s t u) (hf : Fr P w w') (hP : ∀ b, P' b → (P b ∨ w.heap.size ≤ b) ∧ b < w'.heap.size) : TriAt B P' w' d n c k m s t u := by
  obtain ⟨F, G, F2, G2, M, h1, h2, h3, ok⟩ := h
  have hn : ∀ b, b < w.heap.size → ¬ P b → ¬ P' b := fun b hb hp e => by
    rcases (hP b e).1 with h | h
    · exact hp h
    · omega
  have hs := hf.size
  refine ⟨F, G, F2, G2, M, ⟨h1.1, h1.2.kept hf (fun b hb => (ok.hF b hb).2.2.2.2.2.2) (fun b hb => (ok.hG b hb).2.2.2)⟩, ⟨h2.1, h2.2.kept hf (fun b hb => (ok.hF2 b hb).2.2.2.2.2.2) (fun b hb => (ok.hG2 b hb).2.2.2)⟩,
    h3.kept hf (fun b hb _ => (ok.hM b hb).2.2) (fun e => (ok.hP m e).2.2 rfl), ?_, ?_, ?_, ?_, ?_, ?_, ok.hm.1, by have := ok.hm.2; omega⟩
  · intro b hb
    obtain ⟨a1, a2, a3, a4, a5, a6, a7⟩ := ok.hF b hb
    exact ⟨a1, by omega, a3, a4, a5, a6, hn b a2 a7⟩
  · intro b hb
    obtain ⟨a1, a2, a3, a4, a5, a6, a7⟩ := ok.hF2 b hb
    exact ⟨a1, by omega, a3, a4, a5, a6, hn b a2 a7⟩
  · intro b hb
    obtain ⟨a1, a2, a3, a4⟩ := ok.hG b hb
    exact ⟨a1, by omega, a3, hn b a2 a4⟩
  · intro b hb
    obtain ⟨a1, a2, a3, a4⟩ := ok.hG2 b hb
    exact ⟨a1, by omega, a3, hn b a2 a4⟩
  · intro b hb
    obtain ⟨a1, a2, a3⟩ := ok.hM b hb
    exact ⟨a1, by omega, hn b a2 a3⟩
  · intro b hb
    obtain ⟨h1, h2⟩ := hP b hb
    have hm := ok.hm
    rcases h1 with h1 | h1
    · obtain ⟨a1, a2, a3⟩ := ok.hP b h1
      exact ⟨a1, h2, a3⟩
    · exact ⟨by omega, h2, by omega⟩
theorem tri_disk_to (h1 : Pd.Inv n' s') (ht : DiskTo w F G d s' w') (h2 : Pd.Inv k t ∧ DiskAt w F2 G2 c t) (h3 : ModelAt w M m u) (ok : TriOk B w m F G F2 G2 M P) : TriAt B P w' d n' c k m s' t u ∧ Fr (fun i => B ≤ i ∧ ¬ P i) w w' := by
  obtain ⟨F', G', a1, a2, a3, a4⟩ := ht
  have hs := a4.size
  have hm := ok.hm
  refine ⟨⟨F', G', F2, G2, M, ⟨h1, a1⟩, ⟨h2.1, h2.2.kept a4 (fun b hb e => (ok.hF b e).2.2.2.1 hb) (fun b hb e => (ok.hF b e).2.2.2.2.1 hb)⟩, h3.kept a4 (fun b hb _ e => (ok.hF b e).2.2.2.2.2.1 hb) (fun e => (ok.hF m e).2.2.1 rfl), ?_, ?_, ?_, ?_, ?_, ?_, hm.1, by omega⟩, a4.mono fun i e => .inl ⟨(ok.hF i e).1, (ok.hF i e).2.2.2.2.2.2⟩⟩
  · intro b hb
    have hl := a1.lt.1 b hb
    rcases a2 b hb with h | h
    · obtain ⟨b1, b2, b3⟩ := ok.hF b h
      exact ⟨b1, hl, b3⟩
    · exact ⟨by omega, hl, by omega, fun e => by have := (ok.hF2 b e).2.1; omega, fun e => by have := (ok.hG2 b e).2.1; omega, fun e => by have := (ok.hM b e).2.1; omega, fun e => by have := (ok.hP b e).2.1; omega⟩
  · intro b hb
    obtain ⟨b1, b2, b3, b4, b5, b6⟩ := ok.hF2 b hb
    refine ⟨b1, by omega, b3, fun e => ?_, fun e => ?_, b6⟩
    · rcases a2 b e with h | h
      · exact b4 h
      · omega
    · rcases a3 b e with h | h
      · exact b5 h
      · omega
  · intro b hb
    have hl := a1.lt.2 b hb
    rcases a3 b hb with h | h
    · obtain ⟨b1, b2, b3⟩ := ok.hG b h
      exact ⟨b1, hl, b3⟩
    · exact ⟨by omega, hl, by omega, fun e => by have := (ok.hP b e).2.1; omega⟩
  · intro b hb
    obtain ⟨b1, b2, b3⟩ := ok.hG2 b hb
    exact ⟨b1, by omega, b3⟩
  · intro b hb
    obtain ⟨b1, b2, b3⟩ := ok.hM b hb
    exact ⟨b1, by omega, b3⟩
  · intro b hb
    obtain ⟨b1, b2, b3⟩ := ok.hP b hb
    exact ⟨b1, by omega, b3⟩
theorem tri_model_to (h1 : Pd.Inv n s ∧ DiskAt w F G d s) (h2 : Pd.Inv k t ∧ DiskAt w F2 G2 c t) (ht : ModelTo w M m u' w') (ok : TriOk B w m F G F2 G2 M P) : TriAt B P w' d n c k m s t u' ∧ Fr (fun i => B ≤ i ∧ ¬ P i) w w' := by
  obtain ⟨⟨fv, nv, dv, pv, p⟩, hf⟩ := ht
  have hs := hf.size
  have hm := ok.hm
  have hg : ∀ b, grown w M b → b < w'.heap.size → (grown w M b ∧ b < w'.heap.size) := fun b hb hl => ⟨hb, hl⟩
  refine ⟨⟨F, G, F2, G2, fun b => grown w M b ∧ b < w'.heap.size, ⟨h1.1, h1.2.kept hf (fun b hb e => (ok.hF b hb).2.2.1 e) (fun b hb e => (ok.hG b hb).2.2.1 e)⟩, ⟨h2.1, h2.2.kept hf (fun b hb e => (ok.hF2 b hb).2.2.1 e) (fun b hb e => (ok.hG2 b hb).2.2.1 e)⟩,
    ⟨fv, nv, dv, pv, p.cell, p.lim, p.hf.mono hg, p.hn.mono hg, p.hd.mono hg, p.hp.mono hg, fun e => p.hm e.1⟩, ?_, ?_, ?_, ?_, ?_, ?_, hm.1, by omega⟩, hf.mono fun i e => .inl (by subst e; exact ⟨hm.1, fun e => (ok.hP i e).2.2 rfl⟩)⟩
  · intro b hb
    obtain ⟨b1, b2, b3, b4, b5, b6, b7⟩ := ok.hF b hb
    exact ⟨b1, by omega, b3, b4, b5, fun e => e.1.elim b6 (fun h => by omega), b7⟩
  · intro b hb
    obtain ⟨b1, b2, b3, b4, b5, b6, b7⟩ := ok.hF2 b hb
    exact ⟨b1, by omega, b3, b4, b5, fun e => e.1.elim b6 (fun h => by omega), b7⟩
  · intro b hb
    obtain ⟨b1, b2, b3⟩ := ok.hG b hb
    exact ⟨b1, by omega, b3⟩
  · intro b hb
    obtain ⟨b1, b2, b3⟩ := ok.hG2 b hb
    exact ⟨b1, by omega, b3⟩
  · intro b hb
    rcases hb.1 with h | h
    · obtain ⟨b1, b2, b3⟩ := ok.hM b h
      exact ⟨b1, hb.2, b3⟩
    · exact ⟨by omega, hb.2, fun e => by have := (ok.hP b e).2.1; omega⟩
  · intro b hb
    obtain ⟨b1, b2, b3⟩ := ok.hP b hb
    exact ⟨b1, by omega, b3⟩
theorem tri_act (h : TriAt B P w d n c k m s t u) (hn : n < 1000000) (hok : ActOk w x) (hs : x.small = true) :
    Calls Try.prog 25 #[.pointer (some ⟨d, 0, none⟩), .agg #[.int .u8 x.kind, .string x.name, .string x.dst, .int .i8 x.num, .slice x.sa x.script.length x.scap]] w (TRet B P w d (n + 1) c k m (x.on s).1 (x.on s).2 t u) := by
  obtain ⟨F, G, F2, G2, M, h1, h2, h3, ok⟩ := h
  refine (act_any h1.2 h1.1 hn hok hs).mono ?_
  rintro e w' ⟨rfl, hto⟩
  exact ⟨rfl, tri_disk_to (h1.1.act _ _ _ _ _) hto h2 h3 ok⟩
theorem tri_mact {w0 : World} (h : TriAt B P w d n c k m s t u) {q : Nat} (hi : Pd.Inv q u) (hq : q < 1000000) (hfn : u.files.length ≤ 1000000) (hok : ActOk w0 x) (hf0 : Fr (fun i => w0.heap.size ≤ i) w0 w) (hB : w0.heap.size ≤ B) (hs : x.small = true) :
    Calls Try.prog 27 #[.pointer (some ⟨m, 0, none⟩), .agg #[.int .u8 x.kind, .string x.name, .string x.dst, .int .i8 x.num, .slice x.sa x.script.length x.scap]] w (TRet B P w d n c k m (x.on u).1 s t (x.on u).2) := by
  obtain ⟨F, G, F2, G2, M, h1, h2, h3, ok⟩ := h
  refine (mact_any h3 hi hq hfn hok hf0 (by have := ok.hm.1; omega) hs).mono ?_
  rintro e w' ⟨rfl, hto⟩
  exact ⟨rfl, tri_model_to h1 h2 hto ok⟩
theorem tri_agrees (h : TriAt B P w d n c k m s t s) : Calls Try.prog 26 #[.pointer (some ⟨m, 0, none⟩), .pointer (some ⟨d, 0, none⟩)] w fun e w' => e = .returned (.bool true) ∧ TriAt B P w' d n c k m s t s ∧ Fr (fun _ => False) w w' := by
  have hd := h.disk
  obtain ⟨F, G, F2, G2, M, h1, h2, h3, ok⟩ := h
  refine (agrees_any hd h3).mono ?_
  rintro e w' ⟨rfl, hf⟩
  exact ⟨rfl, TriAt.kept ⟨F, G, F2, G2, M, h1, h2, h3, ok⟩ hf, hf⟩
theorem tri_clone (h : PairAt B w d n m s u) (hn : n < 1000000) : Calls Try.prog 36 #[.pointer (some ⟨d, 0, none⟩)] w fun e w' => ∃ c, e = .returned (.pointer (some ⟨c, 0, none⟩)) ∧ TriAt B (fun _ => False) w' d n c n m s s u ∧ Fr (fun _ => False) w w' := by
  obtain ⟨D, M, F, G, ⟨h1, h2, h3, h4⟩, k1, k2, k3, k4, k5, k6, k7⟩ := h.of
  refine (clone_any h2 h1 hn).mono ?_
  rintro e w' ⟨c, F2, rfl, hc, hF2, hf⟩
  have hs := hf.size
  refine ⟨c, rfl, ⟨F, G, F2, G, M, ⟨h1, h2.kept hf (fun _ _ e => e) (fun _ _ e => e)⟩, ⟨h1, hc⟩, k1.kept hf (fun _ _ _ e => e) (fun e => e), ?_, ?_, ?_, ?_, ?_, ?_, k4, by omega⟩, hf⟩
  · intro b hb
    have hD := h3 b hb
    have hFG : ¬ G b := by obtain ⟨_, _, _, _, _, _, _, p⟩ := h2; exact p.FG b hb
    exact ⟨(k2 b hD).1, by have := (k2 b hD).2; omega, fun e => k7 (e ▸ hD), fun e => by have := hF2 b e; have := (k2 b hD).2; omega, hFG, k6 b hD, fun e => e⟩
  · intro b hb
    have hl := hF2 b hb
    exact ⟨by omega, hc.lt.1 b hb, by omega, fun e => by have := (k2 b (h3 b e)).2; omega, fun e => by have := (k2 b (h4 b e)).2; omega, fun e => by have := (k3 b e).2; omega, fun e => e⟩
  · intro b hb
    have hD := h4 b hb
    exact ⟨(k2 b hD).1, by have := (k2 b hD).2; omega, fun e => k7 (e ▸ hD), fun e => e⟩
  · intro b hb
    have hD := h4 b hb
    exact ⟨(k2 b hD).1, by have := (k2 b hD).2; omega, fun e => k7 (e ▸ hD), fun e => e⟩
  · intro b hb
    exact ⟨(k3 b hb).1, by have := (k3 b hb).2; omega, fun e => e⟩
  · intro b hb
    exact hb.elim
end
end Go.Proofs.Ytigcokgjikkohaa
namespace Go.Proofs.Ytigcokgjikkohaa
open Go.RowKit Go.Maps Go.Sort
set_option linter.unusedVariables false
set_option linter.unusedSimpArgs false
theorem info_errno : (Try.prog.info? 26).map (fun i => (i.zero, i.size, i.bytes)) = some (some (.int .i64 0), 1, 8) := by kernel_rfl
section
variable {w w' : World} {B d n c k m : Nat} {s t u t' : Pd.PD} {P : Nat → Prop} {q : Int × Pd.PD} {r : Int} {f : Nat} {args : Array Value}
theorem tr_eq (hq : q = (r, t')) (h : Calls Try.prog f args w (TRet B P w d n c k m q.1 q.2 t u)) : Calls Try.prog f args w (TRet B P w d n c k m r t' t u) := by subst hq; exact h
theorem tr_eqm (hq : q = (r, t')) (h : Calls Try.prog f args w (TRet B P w d n c k m q.1 s t q.2)) : Calls Try.prog f args w (TRet B P w d n c k m r s t t') := by subst hq; exact h
theorem tr_swap (h : Calls Try.prog f args w (TRet B P w d n c k m r s t u)) : Calls Try.prog f args w (TRet B P w c k d n m r t s u) := h.mono fun _ _ h => h.swap
theorem cn_new (w : World) : Calls Try.prog 12 #[.int .i64 100] w fun e w' => ∃ d, e = .returned (.tuple #[.pointer (some ⟨d, 0, none⟩), .int .i64 0]) ∧ DiskIn w.heap.size w' d 0 (Pd.PD.new 100) ∧ Fr (fun _ => False) w w' :=
  (new_in 100 w (by omega) (Nat.le_refl _)).mono fun e w' ⟨d, h1, _, h2, h3⟩ => ⟨d, h1, h2, h3⟩
theorem cn_pair (h : DiskIn B w d 0 (Pd.PD.new 100)) (hB : B ≤ w.heap.size) : PairAt B (w.alloc (.cells #[.int .i64 100, .int .i64 (-1), .bool false, .slice none 0 0, .slice none 0 0, .slice none 0 0, .slice none 0 0] 56 (0, 0))) d 0 w.heap.size (Pd.PD.new 100) (Pd.PD.new 100) := pair_new (cap := 100) h hB
theorem row_of_int {v : Value} {j : Nat} {l : List Int} (h : w.ownsRow 0 26 1 v j (l.map (Value.int .i64))) : ∃ a cap, v = .slice a j cap ∧ j ≤ cap := row_slice h
end
set_option maxRecDepth 100000 in
set_option maxHeartbeats 4000000 in
theorem clones_law (w : World) (a : Option Addr) (cap : Nat) (l : List PAct) (a2 : Option Addr) (cap2 : Nat) (l2 : List PAct) (h : ActsRd w (.slice a l.length cap) l) (h2 : ActsRd w (.slice a2 l2.length cap2) l2) :
    Calls Try.prog 9 #[.slice a l.length cap, .slice a2 l2.length cap2] w fun e w' => e = .returned (.bool true) ∧ Fr (fun _ => False) w w' := by
  have H := Lib.hid h
  have H2 := Lib.hid h2
  clear h h2
  by_cases hf1 : fewB l = true
  · by_cases hf2 : fewB l2 = true
    · by_cases hl1 : l.length ≤ 20
      · by_cases hl2 : l2.length ≤ 20
        · go_enter Try.func9, Try.ntmps9
          go_upto_region 5 with (first
            | (go_at_call 12; refine (cn_new w1).mono ?_; rintro e w2 ⟨d, rfl, hd2, hg2⟩; have HP := Lib.hid (cn_pair hd2 hg2.size); clear hd2)
            | (go_at_call 24; have _g := G1; refine (few_any w1 a2 cap2 l2 (H2.out.kept hg1 (fun b e => e.elim))).mono ?_; rintro e w' ⟨rfl, rfl⟩)
            | (go_at_call 24; refine (few_any w1 a cap l (H.out.kept hg1 (fun b e => e.elim))).mono ?_; rintro e w' ⟨rfl, rfl⟩; have G1 := HG.out)
            | (go_at_call 11; refine (known_any w).mono ?_; rintro e w1 ⟨rfl, hg1⟩; have HG := Lib.hid (show (0 : Nat) = 0 from rfl)))
          have hfa : Fr (fun i => w1.heap.size ≤ i) w (w2.alloc (.cells #[.int .i64 100, .int .i64 (-1), .bool false, .slice none 0 0, .slice none 0 0, .slice none 0 0, .slice none 0 0] 56 (0, 0))) := ((hg1.trans hg2 (fun i e => e.elim)).alloc _).mono (fun i e => e.elim)
          have hB := hg1.size
          have HFA := Lib.hid hfa
          have HS1 := Lib.hid hf1
          have HS2 := Lib.hid hf2
          clear hg1 hg2 hfa hf1 hf2 G1 HG
          go_upto_region 6 with (fail)
          go_loopw [8] (fun i wr => ∃ (j : Nat) (s : Pd.PD), i = .int .i64 j ∧ j ≤ l.length ∧ PairAt w1.heap.size wr d j w2.heap.size s s ∧ s.files.length ≤ j ∧ Fr (fun i => w1.heap.size ≤ i) w wr) (fun i wr => l.length - (intOf i).toNat)
          case atStart => exact ⟨0, _, rfl, Nat.zero_le _, HP.out, Nat.le_refl 0, HFA.out⟩
          case round =>
            obtain ⟨j, s, rfl, hj, hP, hfl, hF⟩ := hrel
            by_cases hlt : j < l.length
            · obtain ⟨b, c, x, rfl, hx, hok0, hc, HC0⟩ := H.out.at hlt
              have hcw := cell_lt HC0.1
              have HC := HC0.kept hF (by omega)
              have HOW := Lib.hid hok0
              have hok := hok0.kept hF (fun b e => Nat.le_trans hB e)
              have hsm : x.small = true := by
                have hf1 := HS1.out
                simp only [fewB, Bool.and_eq_true, List.all_eq_true] at hf1
                exact hf1.1 x (List.mem_of_getElem? hx)
              obtain ⟨r2, s2, q2⟩ : ∃ r s', x.on s = (r, s') := ⟨_, _, rfl⟩
              have hfl2 : s2.files.length ≤ j + 1 := by
                have := Pd.act_files s x.kind x.name x.dst x.num x.script
                have e : (s.act x.kind x.name x.dst x.num x.script).2 = s2 := congrArg (·.2) q2
                rw [e] at this
                omega
              have HOK := Lib.hid hok
              have HPR := Lib.hid hP
              have HF := Lib.hid hF
              have Q2 := Lib.hid q2
              have HCC := Lib.hid HC
              have HSM := Lib.hid hsm
              obtain ⟨c0, c1, c2, c3, c4⟩ := HC
              clear HC0 hok0 hok hP hF hx q2 hsm
              go_wp2_with (first
                | (go_at_call 27; refine (pc_eq' Q2.out (ca_mact (w0 := w) H12.out HPR.out.disk.1 (by omega) (by omega) HOW.out HF12.out hB HSM.out)).mono ?_; rintro e w13 ⟨rfl, hp13, hf13⟩; have H13 := Lib.hid hp13; have HF13 := Lib.hid hf13; clear hp13 hf13)
                | (go_at_call 25; refine (pc_eq Q2.out (ca_act HPR.out (by omega) HOK.out HSM.out)).mono ?_; rintro e w12 ⟨rfl, hp12, hf12⟩; have H12 := Lib.hid hp12; have HF12 := Lib.hid ((catC HF.out hf12).mono (S' := fun i => w.heap.size ≤ i) (fun i e => .inl (Nat.le_trans hB e))); have HFB := Lib.hid (catC HF.out hf12); obtain ⟨d0, d1, d2, d3, d4⟩ := HCC.out.kept hf12 (by omega); clear hp12 hf12))
              exact ⟨⟨j + 1, s2, by go_num, by omega, H13.out, hfl2, catC HFB.out HF13.out⟩, by simp [intOf]; omega⟩
            · obtain rfl : j = l.length := by omega
              have HPR := Lib.hid hP
              have HF := Lib.hid hF
              clear hP hF
              obtain ⟨n, hn⟩ : ∃ n, l.length = n := ⟨_, rfl⟩
              rw [hn] at HPR hfl
              have hn20 : n ≤ 20 := by omega
              have HN := Lib.hid hn
              clear hn
              go_upto_region 15 with (first
                | (go_at_call 26; refine (tri_agrees H4.out.swap).mono ?_; rintro e w5 ⟨rfl, ht5, hg5⟩; have H5 := Lib.hid ht5.swap; have HG5 := Lib.hid hg5; clear ht5 hg5)
                | (go_at_call 36; refine (tri_clone HPR.out (by omega)).mono ?_; rintro e w4 ⟨c, rfl, ht4, hg4⟩; have H4 := Lib.hid ht4; have HG4 := Lib.hid hg4; clear ht4 hg4))
              have HFR := Lib.hid (((HF.out.trans HG4.out (fun i e => e.elim)).trans HG5.out (fun i e => e.elim)))
              obtain ⟨i0, hi0, hz0, hz1, hz2⟩ := info_parts info_errno
              have HI0 := Lib.hid hi0
              have HZ0 := Lib.hid hz0
              have HZ1 := Lib.hid hz1
              have HZ2 := Lib.hid hz2
              clear hi0 hz0 hz1 hz2
              go_loopw [10, 11] (fun v i wr => ∃ (j : Nat), i = .int .i64 j ∧ j ≤ l2.length ∧ TriAt w1.heap.size (fun b => v.ownBlock = some b) wr d n c (n + j) w2.heap.size s (Pd.runActs (l2.take j) s).2 s ∧ wr.ownsRow 0 26 1 v j ((Pd.runActs (l2.take j) s).1.map (Value.int .i64)) ∧ Fr (fun i => w1.heap.size ≤ i) w wr) (fun v i wr => l2.length - (intOf i).toNat)
              case atStart => exact ⟨0, rfl, Nat.zero_le _, H5.out.own (Fr.refl _ _) (fun b hb => by cases hb), ⟨rfl, .inl ⟨rfl, rfl⟩⟩, HFR.out⟩
              case round =>
                obtain ⟨j, rfl, hj, hT, hrow, hF⟩ := hrel
                obtain ⟨av, cv, rfl, _⟩ := row_of_int hrow
                by_cases hlt : j < l2.length
                · obtain ⟨b, cA, x, rfl, hx, hok0, hc, HC0⟩ := H2.out.at hlt
                  have hcw := cell_lt HC0.1
                  have HC := HC0.kept hF (by omega)
                  have hok := hok0.kept hF (fun b e => Nat.le_trans hB e)
                  have hsm : x.small = true := by
                    have hf1 := HS2.out
                    simp only [fewB, Bool.and_eq_true, List.all_eq_true] at hf1
                    exact hf1.1 x (List.mem_of_getElem? hx)
                  have hrt := Pd.runActs_take hx s
                  obtain ⟨r2, t2, q2⟩ : ∃ r s', x.on (Pd.runActs (l2.take j) s).2 = (r, s') := ⟨_, _, rfl⟩
                  rw [q2] at hrt
                  have HRT := Lib.hid hrt
                  have HOK := Lib.hid hok
                  have HT := Lib.hid hT
                  have HROW := Lib.hid hrow
                  have HF := Lib.hid hF
                  have Q2 := Lib.hid q2
                  have HCC := Lib.hid HC
                  have HSM := Lib.hid hsm
                  obtain ⟨c0, c1, c2, c3, c4⟩ := HC
                  clear HC0 hok0 hok hT hrow hF hx q2 hsm hrt
                  go_wp2_with (first
                    | (at_builtin; refine wpList_append_own_at _ rfl (.tmp 77) (.tmp 84) 65 rfl 0 26 i0 (.int .i64 0) 1 8 Try.underlying65 HI0.out HZ0.out HZ1.out HZ2.out rfl (by decide) (.slice av j cv) j ((Pd.runActs (l2.take j) s).1.map (Value.int .i64)) (by rfl) (HROW12.out.alloc _) ⟨w12.heap.size, 0, none⟩ 1 1 [.int .i64 r2] rfl rfl (cell_one_new _ _ _) (by intro u hu; rw [List.mem_singleton.1 hu]; rfl) (by unfold maxLen; omega) (by omega) (Nat.zero_le _) ?_; intro v' w13 hown hg13 _ hloc; obtain ⟨a3, cap3, rfl, _⟩ := row_slice hown)
                    | (go_at_call 25; refine (tr_eq Q2.out (tri_act HT.out.swap (by omega) HOK.out HSM.out)).mono ?_; rintro e w12 ⟨rfl, ht12, hf12⟩; have H12 := Lib.hid ht12.swap; have HF12 := Lib.hid hf12; have HROW12 := Lib.hid (ownsRow_fr HROW.out hf12 (fun b hb e => e.2 hb)); clear ht12 hf12))
                  have hfr13 : Fr (fun b => (Value.slice av j cv).ownBlock = some b) w12 w13 := ((Fr.refl (fun b => (Value.slice av j cv).ownBlock = some b) w12).alloc _).grown hg13 (fun k hk => .inl hk)
                  have htri := H12.out.own (P' := fun b => (Value.slice a3 (j + 1) cap3).ownBlock = some b) hfr13 (fun b hb => ⟨by
                    rcases hloc with h | h
                    · exact .inl (h ▸ hb)
                    · rw [h] at hb; cases hb; exact .inr (by simp), by
                    rcases hown.2 with ⟨e, _⟩ | ⟨g', cap', cur, e, _, hg', _⟩
                    · rw [e] at hb; cases hb
                    · rw [e] at hb; cases hb; exact lt_of_some hg'⟩)
                  have hrow13 : w13.ownsRow 0 26 1 (.slice a3 (j + 1) cap3) (j + 1) ((Pd.runActs (l2.take (j + 1)) s).1.map (Value.int .i64)) := by
                    rw [HRT.out]
                    simpa using hown
                  have hst : (Pd.runActs (l2.take (j + 1)) s).2 = t2 := by rw [HRT.out]
                  have hfr := (HF.out.trans (HF12.out.mono (S' := fun i => w1.heap.size ≤ i) (fun i e => .inl e.1)) (fun i e => .inl e)).trans hfr13 (fun i e => by
                    obtain ⟨_, _, _, _, _, _, _, _, ok⟩ := H12.out
                    exact .inl (ok.hP i e).1)
                  rw [← hst] at htri
                  exact ⟨⟨j + 1, by go_num, by omega, htri, hrow13, hfr⟩, by simp [intOf]; omega⟩
                · obtain rfl : j = l2.length := by omega
                  obtain ⟨tE, hE⟩ : ∃ t, (Pd.runActs (l2.take l2.length) s).2 = t := ⟨_, rfl⟩
                  obtain ⟨rs, hrs⟩ : ∃ r, (Pd.runActs (l2.take l2.length) s).1 = r := ⟨_, rfl⟩
                  rw [hE] at hT
                  rw [hrs] at hrow
                  rw [List.take_length] at hrs hE
                  have HE := Lib.hid hE
                  have HRS := Lib.hid hrs
                  have HT := Lib.hid hT
                  have HROW := Lib.hid hrow
                  have HF := Lib.hid hF
                  clear hT hrow hF hE hrs
                  go_upto_region 21 with (go_at_call 26; refine (tri_agrees HT.out).mono ?_; rintro e w6 ⟨rfl, ht6, hg6⟩; have H6 := Lib.hid ht6; have HG6 := Lib.hid hg6; have HROW6 := Lib.hid (ownsRow_fr HROW.out hg6 (fun _ _ e => e)); clear ht6 hg6)
                  go_loopw [12] (fun i wz => ∃ (j : Nat), i = .int .i64 j ∧ j ≤ l2.length ∧ TriAt w1.heap.size (fun b => (Value.slice av l2.length cv).ownBlock = some b) wz d (n + j) c (n + l2.length) w2.heap.size (Pd.runActs (l2.take j) s).2 tE (Pd.runActs (l2.take j) s).2 ∧ (Pd.runActs (l2.take j) s).2.files.length ≤ n + j ∧ wz.ownsRow 0 26 1 (.slice av l2.length cv) l2.length (rs.map (Value.int .i64)) ∧ Fr (fun i => w1.heap.size ≤ i) w wz) (fun i wz => l2.length - (intOf i).toNat)
                  case atStart => exact ⟨0, rfl, Nat.zero_le _, H6.out, hfl, HROW6.out, HF.out.trans HG6.out (fun i e => e.elim)⟩
                  case round =>
                    obtain ⟨j, rfl, hj, hT, hflj, hrow, hF⟩ := hrel
                    by_cases hlt : j < l2.length
                    · obtain ⟨b, cA, x, rfl, hx, hok0, hc, HC0⟩ := H2.out.at hlt
                      have hcw := cell_lt HC0.1
                      have HC := HC0.kept hF (by omega)
                      have hok := hok0.kept hF (fun b e => Nat.le_trans hB e)
                      have HOW := Lib.hid hok0
                      have hsm : x.small = true := by
                        have hf1 := HS2.out
                        simp only [fewB, Bool.and_eq_true, List.all_eq_true] at hf1
                        exact hf1.1 x (List.mem_of_getElem? hx)
                      have hrt := Pd.runActs_take hx s
                      have hget := Pd.runActs_get hx s
                      obtain ⟨sj, hsj⟩ : ∃ y, (Pd.runActs (l2.take j) s).2 = y := ⟨_, rfl⟩
                      rw [hsj] at hT hflj hrt hget
                      obtain ⟨r2, t2, q2⟩ : ∃ r s', x.on sj = (r, s') := ⟨_, _, rfl⟩
                      rw [q2] at hrt hget
                      rw [HRS.out] at hget
                      have hfl2 : t2.files.length ≤ n + (j + 1) := by
                        have := Pd.act_files sj x.kind x.name x.dst x.num x.script
                        have e : (sj.act x.kind x.name x.dst x.num x.script).2 = t2 := congrArg (·.2) q2
                        rw [e] at this
                        omega
                      obtain ⟨g, cg, hv⟩ := row_some hrow (by omega)
                      simp only [Value.slice.injEq] at hv
                      obtain ⟨rfl, -, rfl⟩ := hv
                      have hst : (Pd.runActs (l2.take (j + 1)) s).2 = t2 := by rw [hrt]
                      have hgr : (rs.map (Value.int .i64))[j]? = some (.int .i64 r2) := by rw [List.getElem?_map, hget]; rfl
                      have HST := Lib.hid hst
                      have HGR := Lib.hid hgr
                      have HOK := Lib.hid hok
                      have HT := Lib.hid hT
                      have HROW := Lib.hid hrow
                      have HF := Lib.hid hF
                      have Q2 := Lib.hid q2
                      have HCC := Lib.hid HC
                      have HSM := Lib.hid hsm
                      have hji : (j : Int) < (l2.length : Int) := by omega
                      obtain ⟨c0, c1, c2, c3, c4⟩ := HC
                      clear HC0 hok0 hok hT hrow hF hx q2 hsm hrt hst hget hgr hsj
                      go_wp2_with (first
                        | (go_at_call 25; refine (tr_eq Q2.out (tri_act H12.out (by omega) HOK12.out HSM.out)).mono ?_; rintro e w13 ⟨rfl, ht13, hf13⟩; have H13 := Lib.hid ht13; have HF13 := Lib.hid hf13; have HROW13 := Lib.hid (ownsRow_fr HROW12.out hf13 (fun b hb e => e.2 hb)); have hcell := row_cell HROW13.out HGR.out; clear ht13 hf13)
                        | (go_at_call 27; refine (tr_eqm Q2.out (tri_mact (w0 := w) HT.out HT.out.disk.1 (by omega) (by omega) HOW.out (HF.out.mono (fun i e => .inl (Nat.le_trans hB e))) hB HSM.out)).mono ?_; rintro e w12 ⟨rfl, ht12, hf12⟩; have H12 := Lib.hid ht12; have HF12 := Lib.hid hf12; have HROW12 := Lib.hid (ownsRow_fr HROW.out hf12 (fun b hb e => e.2 hb)); have HF2 := Lib.hid (HF.out.trans (hf12.mono (S' := fun i => w1.heap.size ≤ i) (fun i e => .inl e.1)) (fun i e => .inl e)); have HOK12 := Lib.hid (HOW.out.kept HF2.out (fun b e => Nat.le_trans hB e)); obtain ⟨d0, d1, d2, d3, d4⟩ := HCC.out.kept hf12 (fun e => by omega); clear ht12 hf12))
                      have hfin := HF2.out.trans (HF13.out.mono (S' := fun i => w1.heap.size ≤ i) (fun i e => .inl e.1)) (fun i e => .inl e)
                      have htri := H13.out
                      have hst := HST.out
                      refine ⟨⟨j + 1, by go_num, by omega, ?_, ?_, HROW13.out, hfin⟩, by simp [intOf]; omega⟩
                      · rw [hst]; exact htri
                      · rw [hst]; exact hfl2
                    · obtain rfl : j = l2.length := by omega
                      rw [List.take_length, HE.out] at hT
                      have HT := Lib.hid hT
                      have HF := Lib.hid hF
                      clear hT hF hrow hflj
                      go_wp2_with (first
                        | (go_at_call 26; refine (tri_agrees H7.out.swap).mono ?_; rintro e w8 ⟨rfl, ht8, hg8⟩; have HG8 := Lib.hid hg8; clear ht8 hg8)
                        | (go_at_call 26; refine (tri_agrees HT.out).mono ?_; rintro e w7 ⟨rfl, ht7, hg7⟩; have H7 := Lib.hid ht7; have HG7 := Lib.hid hg7; clear ht7 hg7))
                      go_ret
                      exact ⟨rfl, ((HF.out.trans HG7.out (fun i e => e.elim)).trans HG8.out (fun i e => e.elim)).mono (fun i e => .inr (Nat.le_trans hB e))⟩
        · go_enter Try.func9, Try.ntmps9
          go_wp2_with (first
            | (go_at_call 11; refine (known_any w1).mono ?_; rintro e w2 ⟨rfl, hg2⟩)
            | (go_at_call 24; have _g := G1; refine (few_any w1 a2 cap2 l2 (H2.out.kept hg1 (fun b e => e.elim))).mono ?_; rintro e w' ⟨rfl, rfl⟩)
            | (go_at_call 24; refine (few_any w1 a cap l (H.out.kept hg1 (fun b e => e.elim))).mono ?_; rintro e w' ⟨rfl, rfl⟩; have G1 := HG.out)
            | (go_at_call 11; refine (known_any w).mono ?_; rintro e w1 ⟨rfl, hg1⟩; have HG := Lib.hid (show (0 : Nat) = 0 from rfl)))
          go_ret
          exact ⟨rfl, hg1.trans hg2 (fun i e => e.elim)⟩
      · go_enter Try.func9, Try.ntmps9
        go_wp2_with (first
            | (go_at_call 11; refine (known_any w1).mono ?_; rintro e w2 ⟨rfl, hg2⟩)
            | (go_at_call 24; have _g := G1; refine (few_any w1 a2 cap2 l2 (H2.out.kept hg1 (fun b e => e.elim))).mono ?_; rintro e w' ⟨rfl, rfl⟩)
            | (go_at_call 24; refine (few_any w1 a cap l (H.out.kept hg1 (fun b e => e.elim))).mono ?_; rintro e w' ⟨rfl, rfl⟩; have G1 := HG.out)
            | (go_at_call 11; refine (known_any w).mono ?_; rintro e w1 ⟨rfl, hg1⟩; have HG := Lib.hid (show (0 : Nat) = 0 from rfl)))
        go_ret
        exact ⟨rfl, hg1.trans hg2 (fun i e => e.elim)⟩
    · have hf2' : fewB l2 = false := by simpa using hf2
      go_enter Try.func9, Try.ntmps9
      go_wp2_with (first
            | (go_at_call 11; refine (known_any w1).mono ?_; rintro e w2 ⟨rfl, hg2⟩)
            | (go_at_call 24; have _g := G1; refine (few_any w1 a2 cap2 l2 (H2.out.kept hg1 (fun b e => e.elim))).mono ?_; rintro e w' ⟨rfl, rfl⟩)
            | (go_at_call 24; refine (few_any w1 a cap l (H.out.kept hg1 (fun b e => e.elim))).mono ?_; rintro e w' ⟨rfl, rfl⟩; have G1 := HG.out)
            | (go_at_call 11; refine (known_any w).mono ?_; rintro e w1 ⟨rfl, hg1⟩; have HG := Lib.hid (show (0 : Nat) = 0 from rfl)))
      go_ret
      exact ⟨rfl, hg1.trans hg2 (fun i e => e.elim)⟩
  · have hf1' : fewB l = false := by simpa using hf1
    go_enter Try.func9, Try.ntmps9
    go_wp2_with (first
            | (go_at_call 11; refine (known_any w1).mono ?_; rintro e w2 ⟨rfl, hg2⟩)
            | (go_at_call 24; have _g := G1; refine (few_any w1 a2 cap2 l2 (H2.out.kept hg1 (fun b e => e.elim))).mono ?_; rintro e w' ⟨rfl, rfl⟩)
            | (go_at_call 24; refine (few_any w1 a cap l (H.out.kept hg1 (fun b e => e.elim))).mono ?_; rintro e w' ⟨rfl, rfl⟩; have G1 := HG.out)
            | (go_at_call 11; refine (known_any w).mono ?_; rintro e w1 ⟨rfl, hg1⟩; have HG := Lib.hid (show (0 : Nat) = 0 from rfl)))
    go_ret
    exact ⟨rfl, hg1.trans hg2 (fun i e => e.elim)⟩
end Go.Proofs.Ytigcokgjikkohaa
