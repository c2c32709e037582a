/- DiskLimits, in plain terms. -/
import Derived.Test.YtigcokgjikkohaaPdInv
import Derived.Test.YtigcokgjikkohaaBase
namespace Go.Proofs.Ytigcokgjikkohaa.Pd
set_option linter.unusedVariables false
set_option linter.unusedSimpArgs false
theorem fileAt_snoc (fs : List PFile) (k : Nat) : fileAt (fs ++ [⟨ByteArray.empty, 0⟩]) k = fileAt fs k := by
  unfold fileAt
  rw [List.getD_eq_getElem?_getD, List.getD_eq_getElem?_getD]
  by_cases h : k < fs.length
  · rw [List.getElem?_append_left h]
  · rw [List.getElem?_append_right (by omega), List.getElem?_eq_none (l := fs) (by omega)]
    match hk : k - fs.length with
    | 0 => rfl
    | n + 1 => rfl
theorem usedBy_ins (fs : List PFile) (x : ByteArray × Nat) : ∀ l : Names, usedBy fs (ins x l) = (fileAt fs x.2).data.size + usedBy fs l
  | [] => rfl
  | y :: r => by
    unfold ins
    split
    · rfl
    · have := usedBy_ins fs x r
      unfold usedBy at *
      simp only [List.map_cons, List.sum_cons] at *
      omega
theorem del_none {l : Names} {k : ByteArray} (h : find l k = none) : del l k = l := by
  unfold find at h
  unfold del
  rw [List.filter_eq_self]
  intro e he
  rw [Option.map_eq_none_iff, List.find?_eq_none] at h
  have := h e he
  simpa using this
def lKey (i : Nat) : ByteArray := ⟨#[98, UInt8.ofNat (48 + i / 10), UInt8.ofNat (48 + i % 10)]⟩
def lNms : Nat → Names
  | 0 => []
  | 1 => [(⟨#[97]⟩, 0)]
  | i + 1 => put (lNms i) (lKey i) i
theorem l_table : ∀ i : Fin 64, 1 ≤ i.val → isName (lKey i.val) = true ∧ find (lNms i.val) (lKey i.val) = none ∧ (lNms i.val).length = i.val := of_decide_eq_true (by kernel_rfl)
theorem l_last : (lNms 64).length = 64 ∧ find (lNms 64) ⟨#[99]⟩ = none ∧ find (lNms 64) ⟨#[97]⟩ = some 0 ∧ isName ⟨#[99]⟩ = true ∧ isName ⟨#[97]⟩ = true := of_decide_eq_true (by kernel_rfl)
structure LimI (k i : Nat) (s : PD) : Prop where
  up : s.down = false
  lim : s.limit = none
  cap : s.cap = k
  used : s.used = k
  names : s.names = lNms i
  files : s.files.length = i
theorem tick_none {s : PD} (h : s.limit = none) : s.tick = (false, s) := by
  unfold PD.tick
  rw [h]
theorem LimI.step {k i : Nat} {s : PD} (h : LimI k i s) (h1 : 1 ≤ i) (h2 : i < 64) : (s.append (lKey i) ⟨#[]⟩).1 = 0 ∧ LimI k (i + 1) (s.append (lKey i) ⟨#[]⟩).2 := by
  obtain ⟨t1, t2, t3⟩ := l_table ⟨i, h2⟩ h1
  dsimp only at t1 t2 t3
  have hu := h.used
  have hc := h.cap
  unfold PD.append
  rw [if_neg (by rw [h.up]; simp), if_neg (by rw [t1]; simp), h.names, t2]
  dsimp only
  rw [t3, if_neg (by omega), if_neg (by have : (⟨#[]⟩ : ByteArray).size = 0 := rfl; omega), tick_none h.lim]
  refine ⟨rfl, h.up, h.lim, h.cap, ?_, ?_, ?_⟩
  · show usedBy (s.files ++ [⟨ByteArray.empty, 0⟩]) (put s.names (lKey i) s.files.length) = k
    unfold put
    rw [h.names, del_none t2, usedBy_ins, fileAt_snoc]
    have e1 : usedBy (s.files ++ [⟨ByteArray.empty, 0⟩]) (lNms i) = usedBy s.files (lNms i) := by
      unfold usedBy
      simp only [fileAt_snoc]
    have e2 : (fileAt s.files s.files.length).data.size = 0 := by
      unfold fileAt
      rw [List.getD_eq_getElem?_getD, List.getElem?_eq_none (Nat.le_refl _)]
      rfl
    rw [e1, e2, ← h.names, Nat.zero_add]
    exact hu
  · show put s.names (lKey i) s.files.length = lNms (i + 1)
    rw [h.names, h.files]
    cases i with
    | zero => omega
    | succ n => rfl
  · exact (List.length_append ..).trans (by rw [h.files]; rfl)
theorem modify_empty (fs : List PFile) (k : Nat) : (fs.modify k fun f => { f with data := f.data ++ (⟨#[]⟩ : ByteArray) }) = fs := by
  have : (fun f : PFile => { f with data := f.data ++ (⟨#[]⟩ : ByteArray) }) = id := by
    funext f
    show PFile.mk _ _ = f
    rw [show (⟨#[]⟩ : ByteArray) = ByteArray.empty from rfl, ByteArray.append_empty]
  rw [this]
  exact List.modify_id k fs
/-- Nothing is appended to a file that is there. -/
theorem append_zero {s : PD} {name : ByteArray} {j : Nat} (h1 : s.down = false) (h2 : s.limit = none) (h3 : s.used ≤ s.cap) (h4 : isName name = true) (h5 : find s.names name = some j) : s.append name ⟨#[]⟩ = (0, s) := by
  unfold PD.append
  rw [if_neg (by rw [h1]; simp), if_neg (by rw [h4]; simp), h5]
  dsimp only
  rw [if_neg (by have : (⟨#[]⟩ : ByteArray).size = 0 := rfl; omega), tick_none h2, modify_empty]
  rfl
theorem LimI.last {k : Nat} {s : PD} (h : LimI k 64 s) : s.append ⟨#[99]⟩ ⟨#[]⟩ = (6, s) ∧ s.append ⟨#[97]⟩ ⟨#[]⟩ = (0, s) ∧ s.list.length = 64 := by
  obtain ⟨t1, t2, t3, t4, t5⟩ := l_last
  refine ⟨?_, append_zero h.up h.lim (by rw [h.used, h.cap]; exact Nat.le_refl _) t5 (by rw [h.names]; exact t3), ?_⟩
  · unfold PD.append
    rw [if_neg (by rw [h.up]; simp), if_neg (by rw [t4]; simp), h.names, t2]
    dsimp only
    rw [t1, if_pos (Nat.le_refl _)]
  · unfold PD.list
    rw [if_neg (by rw [h.up]; simp), List.length_map, h.names, t1]
/-- The first file takes all the room. -/
theorem lim_first {k : Nat} {z : ByteArray} (hz : z.size = k) : ((PD.new k).append ⟨#[97]⟩ z).1 = 0 ∧ LimI k 1 ((PD.new k).append ⟨#[97]⟩ z).2 := by
  have e : (PD.new k).append ⟨#[97]⟩ z = (0, { cap := k, files := [⟨z, 0⟩], names := [(⟨#[97]⟩, 0)], durable := [], pending := [.set ⟨#[97]⟩ 0], limit := none, down := false }) := by
    unfold PD.append
    rw [if_neg (by simp [PD.new]), if_neg (by rw [l_last.2.2.2.2]; simp), show find (PD.new k).names ⟨#[97]⟩ = none from rfl]
    dsimp only
    rw [if_neg (show ¬ 64 ≤ (PD.new k).names.length from by simp [PD.new]), if_neg (show ¬ (PD.new k).cap < (PD.new k).used + z.size from by
      have h1 : (PD.new k).cap = k := rfl
      have h2 : (PD.new k).used = 0 := rfl
      omega)]
    rfl
  rw [e]
  refine ⟨rfl, rfl, rfl, rfl, ?_, rfl, rfl⟩
  show usedBy [⟨z, 0⟩] [(⟨#[97]⟩, 0)] = k
  rw [← hz]
  rfl
theorem LimI.one {k : Nat} {s : PD} (h : LimI k 1 s) : s.free = 0 ∧ s.append ⟨#[97]⟩ ⟨#[120]⟩ = (33, s) ∧ s.append ⟨#[97]⟩ ⟨#[]⟩ = (0, s) := by
  refine ⟨?_, ?_, append_zero h.up h.lim (by rw [h.used, h.cap]; exact Nat.le_refl _) l_last.2.2.2.2 (by rw [h.names]; rfl)⟩
  · unfold PD.free
    rw [if_neg (by rw [h.up]; simp), h.used, h.cap]
    omega
  · unfold PD.append
    rw [if_neg (by rw [h.up]; simp), if_neg (by rw [l_last.2.2.2.2]; simp), h.names]
    show (if s.cap < s.used + 1 then _ else _) = _
    rw [if_pos (by rw [h.used, h.cap]; omega)]
end Go.Proofs.Ytigcokgjikkohaa.Pd
