/- When blocks of memory hold a disk: the relation of the walks to the plain state. F: the blocks that are the disk's own, G: blocks that it only reads (names that changes hold). -/
import Derived.Test.YtigcokgjikkohaaBase
namespace Go.Proofs.Ytigcokgjikkohaa
open Go.RowKit Go.Maps

def strBox (w : World) (x : Nat) (s : ByteArray) : Prop := w.heap[x]? = some (.cells #[.string s] 9 (0, 0))
/-- The two cells of a pending change: the file, and the function with what it holds. -/
def chIs (w : World) (G : Nat → Prop) (addr : Nat → Nat) : Pd.PChange → Value → Value → Prop
  | .set n f, a, b => a = ptrV (addr f) ∧ ∃ x, b = .func (.func 60) #[] #[ptrV x] ∧ strBox w x n ∧ G x
  | .rem n, a, b => a = .pointer none ∧ ∃ x, b = .func (.func 68) #[] #[ptrV x] ∧ strBox w x n ∧ G x
  | .ren s d _, a, b => a = .pointer none ∧ ∃ x y, b = .func (.func 65) #[] #[ptrV x, ptrV y] ∧ strBox w x s ∧ strBox w y d ∧ G x ∧ G y
def penIs (w : World) (G : Nat → Prop) (addr : Nat → Nat) : List Pd.PChange → List Value → Prop
  | [], [] => True
  | c :: r, a :: b :: vs => chIs w G addr c a b ∧ penIs w G addr r vs
  | _, _ => False
def fileObj (f : Pd.PFile) : Obj := .cells #[.string f.data, .int .i64 f.dur] 76 (0, 0)
def diskObj (s : Pd.PD) (nb db : Nat) (pv : Value) (left : Int) : Obj :=
  .cells #[.int .i64 s.cap, .map (some nb), .map (some db), pv, .bool s.limit.isSome, .int .i64 left, .bool s.down] 72 (0, 0)

structure DiskP (w : World) (F G : Nat → Prop) (d nb db : Nat) (pv : Value) (xs : List Value) (addr : Nat → Nat) (L : Nat → Prop) (left : Int) (s : Pd.PD) : Prop where
  cell : w.heap[d]? = some (diskObj s nb db pv left)
  left_ok : ∀ n, s.limit = some n → left = n
  left_wf : -9223372036854775808 ≤ left ∧ left ≤ 9223372036854775807
  hn : w.ownsMap Try.prog 9 ptrEl nb s.names.length (toD addr s.names)
  hd : w.ownsMap Try.prog 9 ptrEl db s.durable.length (toD addr s.durable)
  row : w.ownsRow 0 80 2 pv s.pending.length xs
  pen : penIs w G addr s.pending xs
  file : ∀ k, L k → w.heap[addr k]? = some (fileObj (Pd.fileAt s.files k))
  inj : ∀ k k', L k → L k' → addr k = addr k' → k = k'
  Ln : ∀ e ∈ s.names, L e.2
  Ld : ∀ e ∈ s.durable, L e.2
  Lp : ∀ n f, Pd.PChange.set n f ∈ s.pending → L f
  Ls : ∀ k, L k → k < s.files.length
  Fd : F d
  Fn : F nb
  Fb : F db
  Fv : ∀ b, pv.ownBlock = some b → F b
  Ff : ∀ k, L k → F (addr k)
  Flt : ∀ b, F b → b < w.heap.size
  Glt : ∀ b, G b → b < w.heap.size
  FG : ∀ b, F b → ¬ G b
  ne_nd : nb ≠ db
  ne_v : pv.ownBlock ≠ some d
  ne_vf : ∀ k, L k → pv.ownBlock ≠ some (addr k)

def DiskAt (w : World) (F G : Nat → Prop) (d : Nat) (s : Pd.PD) : Prop := ∃ nb db pv xs addr L left, DiskP w F G d nb db pv xs addr L left s

/-- The disk at d has come to state s; what has turned in memory belongs to it. -/
def DiskTo (w : World) (F G : Nat → Prop) (d : Nat) (s : Pd.PD) (w' : World) : Prop :=
  ∃ F' G', DiskAt w' F' G' d s ∧ (∀ b, F' b → F b ∨ w.heap.size ≤ b) ∧ (∀ b, G' b → G b ∨ w.heap.size ≤ b) ∧ Fr F w w'

section
variable {w w' : World} {F G S : Nat → Prop} {d nb db : Nat} {pv : Value} {xs : List Value} {addr : Nat → Nat} {L : Nat → Prop} {left : Int} {s : Pd.PD}

theorem strBox_kept {x : Nat} {n : ByteArray} (h : strBox w x n) (hf : Fr S w w') (hx : ¬ S x) : strBox w' x n := (hf.block x (lt_of_some h) hx).trans h
theorem chIs_kept {c : Pd.PChange} {a b : Value} (h : chIs w G addr c a b) (hf : Fr S w w') (hg : ∀ x, G x → ¬ S x) : chIs w' G addr c a b := by
  cases c with
  | set n f => obtain ⟨h1, x, h2, h3, h4⟩ := h; exact ⟨h1, x, h2, strBox_kept h3 hf (hg _ h4), h4⟩
  | rem n => obtain ⟨h1, x, h2, h3, h4⟩ := h; exact ⟨h1, x, h2, strBox_kept h3 hf (hg _ h4), h4⟩
  | ren a b f => obtain ⟨h1, x, y, h2, h3, h4, h5, h6⟩ := h; exact ⟨h1, x, y, h2, strBox_kept h3 hf (hg _ h5), strBox_kept h4 hf (hg _ h6), h5, h6⟩
theorem penIs_kept : ∀ {l : List Pd.PChange} {xs : List Value}, penIs w G addr l xs → Fr S w w' → (∀ x, G x → ¬ S x) → penIs w' G addr l xs
  | [], [], _, _, _ => trivial
  | _ :: _, _ :: _ :: _, h, hf, hg => ⟨chIs_kept h.1 hf hg, penIs_kept h.2 hf hg⟩
  | [], _ :: _, h, _, _ => h.elim
  | _ :: _, [], h, _, _ => h.elim
  | _ :: _, [_], h, _, _ => h.elim
theorem chIs_mono {G' : Nat → Prop} {c : Pd.PChange} {a b : Value} (h : chIs w G addr c a b) (hg : ∀ x, G x → G' x) : chIs w G' addr c a b := by
  cases c with
  | set n f => obtain ⟨h1, x, h2, h3, h4⟩ := h; exact ⟨h1, x, h2, h3, hg _ h4⟩
  | rem n => obtain ⟨h1, x, h2, h3, h4⟩ := h; exact ⟨h1, x, h2, h3, hg _ h4⟩
  | ren a b f => obtain ⟨h1, x, y, h2, h3, h4, h5, h6⟩ := h; exact ⟨h1, x, y, h2, h3, h4, hg _ h5, hg _ h6⟩
theorem penIs_mono {G' : Nat → Prop} : ∀ {l : List Pd.PChange} {xs : List Value}, penIs w G addr l xs → (∀ x, G x → G' x) → penIs w G' addr l xs
  | [], [], _, _ => trivial
  | _ :: _, _ :: _ :: _, h, hg => ⟨chIs_mono h.1 hg, penIs_mono h.2 hg⟩
  | [], _ :: _, h, _ => h.elim
  | _ :: _, [], h, _ => h.elim
  | _ :: _, [_], h, _ => h.elim
theorem chIs_addr {addr' : Nat → Nat} {c : Pd.PChange} {a b : Value} (h : chIs w G addr c a b) (hc : ∀ n f, c = .set n f → addr f = addr' f) : chIs w G addr' c a b := by
  cases c with
  | set n f => obtain ⟨h1, x, h2, h3, h4⟩ := h; exact ⟨by rw [h1, hc n f rfl], x, h2, h3, h4⟩
  | rem n => exact h
  | ren a b f => exact h
theorem penIs_addr {addr' : Nat → Nat} : ∀ {l : List Pd.PChange} {xs : List Value}, penIs w G addr l xs → (∀ n f, Pd.PChange.set n f ∈ l → addr f = addr' f) → penIs w G addr' l xs
  | [], [], _, _ => trivial
  | c :: r, _ :: _ :: _, h, hg => ⟨chIs_addr h.1 (fun n f e => hg n f (by rw [e]; exact List.mem_cons_self)), penIs_addr h.2 (fun n f e => hg n f (List.mem_cons_of_mem _ e))⟩
  | [], _ :: _, h, _ => h.elim
  | _ :: _, [], h, _ => h.elim
  | _ :: _, [_], h, _ => h.elim
theorem penIs_snoc {c : Pd.PChange} {a b : Value} (hc : chIs w G addr c a b) : ∀ {l : List Pd.PChange} {xs : List Value}, penIs w G addr l xs → penIs w G addr (l ++ [c]) (xs ++ [a, b])
  | [], [], _ => ⟨hc, trivial⟩
  | _ :: _, _ :: _ :: _, h => ⟨h.1, penIs_snoc hc h.2⟩
  | [], _ :: _, h => h.elim
  | _ :: _, [], h => h.elim
  | _ :: _, [_], h => h.elim
theorem penIs_length : ∀ {l : List Pd.PChange} {xs : List Value}, penIs w G addr l xs → xs.length = 2 * l.length
  | [], [], _ => rfl
  | _ :: _, _ :: _ :: _, h => by have := penIs_length h.2; simp only [List.length_cons] at *; omega
  | [], _ :: _, h => h.elim
  | _ :: _, [], h => h.elim
  | _ :: _, [_], h => h.elim
theorem penIs_get : ∀ {l : List Pd.PChange} {xs : List Value}, penIs w G addr l xs → ∀ {i : Nat} {c : Pd.PChange}, l[i]? = some c → ∃ a b, xs[2 * i]? = some a ∧ xs[2 * i + 1]? = some b ∧ chIs w G addr c a b
  | [], [], _, _, _, hi => by simp at hi
  | c :: r, a :: b :: vs, h, 0, _, hi => by
    simp at hi; subst hi; exact ⟨a, b, rfl, rfl, h.1⟩
  | c :: r, a :: b :: vs, h, i + 1, _, hi => by
    obtain ⟨a', b', h1, h2, h3⟩ := penIs_get h.2 (i := i) (by simpa using hi)
    exact ⟨a', b', by rw [show 2 * (i + 1) = 2 * i + 1 + 1 from by omega]; simpa using h1, by rw [show 2 * (i + 1) + 1 = 2 * i + 1 + 1 + 1 from by omega]; simpa using h2, h3⟩
  | [], _ :: _, h, _, _, _ => h.elim
  | _ :: _, [], h, _, _, _ => h.elim
  | _ :: _, [_], h, _, _, _ => h.elim

/-- A map's block is not a block of cells. -/
theorem DiskP.nb_d (h : DiskP w F G d nb db pv xs addr L left s) : nb ≠ d := by
  rintro rfl
  obtain ⟨es, c, hb, _⟩ := h.hn
  have := h.cell
  rw [hb] at this
  cases this
theorem DiskP.db_d (h : DiskP w F G d nb db pv xs addr L left s) : db ≠ d := by
  rintro rfl
  obtain ⟨es, c, hb, _⟩ := h.hd
  have := h.cell
  rw [hb] at this
  cases this
theorem DiskP.nb_f (h : DiskP w F G d nb db pv xs addr L left s) {k : Nat} (hk : L k) : nb ≠ addr k := by
  intro e
  obtain ⟨es, c, hb, _⟩ := h.hn
  have := h.file k hk
  rw [← e, hb] at this
  cases this
theorem DiskP.db_f (h : DiskP w F G d nb db pv xs addr L left s) {k : Nat} (hk : L k) : db ≠ addr k := by
  intro e
  obtain ⟨es, c, hb, _⟩ := h.hd
  have := h.file k hk
  rw [← e, hb] at this
  cases this
theorem DiskP.d_f (h : DiskP w F G d nb db pv xs addr L left s) {k : Nat} (hk : L k) : d ≠ addr k := by
  intro e
  have h1 := h.cell
  have h2 := h.file k hk
  rw [e, h2] at h1
  simp [fileObj, diskObj] at h1
theorem DiskP.nb_v (h : DiskP w F G d nb db pv xs addr L left s) : pv.ownBlock ≠ some nb := by
  intro e
  obtain ⟨es, c, hb, _⟩ := h.hn
  rcases h.row.2 with ⟨rfl, _⟩ | ⟨g, cap, cur, rfl, _, hg, _⟩
  · cases e
  · simp [Value.ownBlock] at e
    subst e
    rw [hb] at hg
    cases hg
theorem DiskP.db_v (h : DiskP w F G d nb db pv xs addr L left s) : pv.ownBlock ≠ some db := by
  intro e
  obtain ⟨es, c, hb, _⟩ := h.hd
  rcases h.row.2 with ⟨rfl, _⟩ | ⟨g, cap, cur, rfl, _, hg, _⟩
  · cases e
  · simp [Value.ownBlock] at e
    subst e
    rw [hb] at hg
    cases hg

theorem ownsMap_fr {P : Program} {k b n : Nat} {R : Value → Option (DU × List MemPlace)} {D : DU} (h : w.ownsMap P k R b n D) (hf : Fr S w w') (hb : ¬ S b) : w'.ownsMap P k R b n D := by
  obtain ⟨es, c, h1, r⟩ := h
  exact ⟨es, c, (hf.block b (lt_of_some h1) hb).trans h1, r⟩
theorem ownsRow_fr {base e size n : Nat} {v : Value} {ys : List Value} (h : w.ownsRow base e size v n ys) (hf : Fr S w w') (hb : ∀ b, v.ownBlock = some b → ¬ S b) : w'.ownsRow base e size v n ys := by
  refine ⟨h.1, ?_⟩
  rcases h.2 with hn | ⟨g, cap, cur, rfl, h1, hg, rest⟩
  · exact .inl hn
  · exact .inr ⟨g, cap, cur, rfl, h1, (hf.block g (lt_of_some hg) (hb g rfl)).trans hg, rest⟩

/-- The disk stays what it is while other blocks are written. -/
theorem DiskP.kept (h : DiskP w F G d nb db pv xs addr L left s) (hf : Fr S w w') (hF : ∀ b, F b → ¬ S b) (hG : ∀ b, G b → ¬ S b) : DiskP w' F G d nb db pv xs addr L left s :=
  { h with
    cell := (hf.block d (lt_of_some h.cell) (hF _ h.Fd)).trans h.cell
    hn := ownsMap_fr h.hn hf (hF _ h.Fn)
    hd := ownsMap_fr h.hd hf (hF _ h.Fb)
    row := ownsRow_fr h.row hf (fun b hb => hF b (h.Fv b hb))
    pen := penIs_kept h.pen hf hG
    file := fun k hk => (hf.block _ (lt_of_some (h.file k hk)) (hF _ (h.Ff k hk))).trans (h.file k hk)
    Flt := fun b hb => Nat.lt_of_lt_of_le (h.Flt b hb) hf.size
    Glt := fun b hb => Nat.lt_of_lt_of_le (h.Glt b hb) hf.size }
theorem DiskAt.kept (h : DiskAt w F G d s) (hf : Fr S w w') (hF : ∀ b, F b → ¬ S b) (hG : ∀ b, G b → ¬ S b) : DiskAt w' F G d s :=
  let ⟨nb, db, pv, xs, addr, L, left, p⟩ := h; ⟨nb, db, pv, xs, addr, L, left, p.kept hf hF hG⟩
theorem DiskAt.to_refl (h : DiskAt w F G d s) : DiskTo w F G d s w := ⟨F, G, h, fun _ h => .inl h, fun _ h => .inl h, Fr.refl _ _⟩
theorem DiskAt.lt (h : DiskAt w F G d s) : (∀ b, F b → b < w.heap.size) ∧ ∀ b, G b → b < w.heap.size :=
  let ⟨_, _, _, _, _, _, _, p⟩ := h; ⟨p.Flt, p.Glt⟩
end
end Go.Proofs.Ytigcokgjikkohaa
