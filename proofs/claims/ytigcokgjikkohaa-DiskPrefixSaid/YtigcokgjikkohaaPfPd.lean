/- DiskPrefix, in plain terms. -/
import Derived.Test.YtigcokgjikkohaaLiPd
import Derived.Test.YtigcokgjikkohaaPdMore
namespace Go.Proofs.Ytigcokgjikkohaa.Pd
set_option linter.unusedVariables false
set_option linter.unusedSimpArgs false
def aN : ByteArray := ⟨#[97]⟩
/-- A disk with one file, whose name is durable. -/
def pfx (all : ByteArray) (dur : Nat) : PD := { cap := 600, files := [⟨all, dur⟩], names := [(⟨#[97]⟩, 0)], durable := [(⟨#[97]⟩, 0)], pending := [], limit := none, down := false }
theorem pfx_first : ((PD.new 600).append ⟨#[97]⟩ ⟨#[]⟩).1 = 0 ∧ ((PD.new 600).append ⟨#[97]⟩ ⟨#[]⟩).2.publish = (0, pfx ByteArray.empty 0) := by
  refine ⟨of_decide_eq_true (by kernel_rfl), ?_⟩
  rfl
theorem pfx_append {all part : ByteArray} {dur : Nat} (h : all.size + part.size ≤ 600) : (pfx all dur).append ⟨#[97]⟩ part = (0, pfx (all ++ part) dur) := by
  unfold PD.append
  rw [if_neg (by simp [pfx]), if_neg (by rw [l_last.2.2.2.2]; simp), show find (pfx all dur).names ⟨#[97]⟩ = some 0 from rfl]
  dsimp only
  rw [if_neg (show ¬ (pfx all dur).cap < (pfx all dur).used + part.size from by
    have h1 : (pfx all dur).cap = 600 := rfl
    have h2 : (pfx all dur).used = all.size := rfl
    omega)]
  rfl
theorem pfx_sync {all : ByteArray} {dur : Nat} : (pfx all dur).sync ⟨#[97]⟩ = (0, pfx all all.size) := rfl
theorem choice_zero (sc : List Int) : (choice sc 0).1 = 0 := by
  have := choice_le sc 0
  omega
def pfxS (all : ByteArray) (dur : Nat) (sc : List Int) : ByteArray := (startFile ⟨all, dur⟩ (choice sc 0).2).1
theorem pfx_start {all : ByteArray} {dur : Nat} (sc : List Int) : (pfx all dur).crash.start sc = pfx (pfxS all dur sc) (pfxS all dur sc).size := by
  unfold PD.start
  rw [if_neg (by simp [PD.crash])]
  show PD.mk _ _ _ _ _ _ _ = _
  have h0 : (pfx all dur).crash.pending = [] := rfl
  simp only [h0, List.take_nil, List.foldl_nil]
  rfl
theorem pfx_read {all : ByteArray} {dur : Nat} : (pfx all dur).read ⟨#[97]⟩ = (all, 0) := rfl
theorem last_byte' {T : ByteArray} {m : Nat} (hlt : m < T.size) : T.data.toList.getD m 0 = T[m]'hlt := by
  have h : m < T.data.toList.length := by rw [Array.length_toList]; exact hlt
  rw [List.getD_eq_getElem?_getD, List.getElem?_eq_getElem h, Option.getD_some, Array.getElem_toList]
  rfl
theorem flipLast_eq' {T : ByteArray} {m : Nat} (hm : T.size = m + 1) (hlt : m < T.size) : flipLast T = T.extract 0 m ++ ⟨#[255 - T[m]'hlt]⟩ := by
  unfold flipLast
  rw [hm, Nat.add_sub_cancel, last_byte' hlt]
theorem extract_take {a : ByteArray} {n m : Nat} (h : n ≤ m) : (a.extract 0 m).extract 0 n = a.extract 0 n := by
  rw [ByteArray.extract_extract]
  congr 1
  omega
theorem pfx_fin {all s : ByteArray} {dur n : Nat} (hsz : s.size = n + 1) (hd : dur ≤ n) (hle : n < all.size) (h1 : s.extract 0 n = all.extract 0 n) (h2 : s[n]'(by omega) = all[n] ∨ s[n]'(by omega) = 255 - all[n]) :
    s.extract 0 (max dur (s.size - 1)) = all.extract 0 (max dur (s.size - 1)) ∧ (s.size = max dur (s.size - 1) ∨ ∃ (h1 : max dur (s.size - 1) < s.size) (h2 : max dur (s.size - 1) < all.size),
        s[max dur (s.size - 1)] = all[max dur (s.size - 1)] ∨ s[max dur (s.size - 1)] = 255 - all[max dur (s.size - 1)]) := by
  have hn : max dur (s.size - 1) = n := by omega
  refine ⟨by rw [hn, h1], .inr ⟨by omega, by omega, ?_⟩⟩
  simp only [hn]
  exact h2
/-- What is there behind the failure. -/
theorem pfx_law {all : ByteArray} {dur : Nat} (h : dur ≤ all.size) (sc : List Int) :
    dur ≤ (pfxS all dur sc).size ∧ (pfxS all dur sc).size ≤ all.size ∧ (pfxS all dur sc).extract 0 (max dur ((pfxS all dur sc).size - 1)) = all.extract 0 (max dur ((pfxS all dur sc).size - 1)) ∧
      ((pfxS all dur sc).size = max dur ((pfxS all dur sc).size - 1) ∨ ∃ (h1 : max dur ((pfxS all dur sc).size - 1) < (pfxS all dur sc).size) (h2 : max dur ((pfxS all dur sc).size - 1) < all.size),
        (pfxS all dur sc)[max dur ((pfxS all dur sc).size - 1)] = all[max dur ((pfxS all dur sc).size - 1)] ∨ (pfxS all dur sc)[max dur ((pfxS all dur sc).size - 1)] = 255 - all[max dur ((pfxS all dur sc).size - 1)]) := by
  unfold pfxS
  generalize (choice sc 0).2 = sc
  obtain ⟨h1, h2⟩ := startFile_size ⟨all, dur⟩ sc h
  refine ⟨h1, h2, ?_⟩
  unfold startFile
  dsimp only
  have hc := choice_le sc (all.size - dur)
  by_cases hk : 0 < (choice sc (all.size - dur)).1
  · rw [if_pos hk]
    generalize (choice sc (all.size - dur)).1 = kp at hk hc ⊢
    have hs : (all.extract 0 (dur + kp)).size = dur + kp := by rw [ByteArray.size_extract]; omega
    by_cases hf : (choice (choice sc (all.size - dur)).2 1).1 = 1
    · rw [if_pos hf]
      dsimp only
      obtain ⟨m, hm⟩ : ∃ m, dur + kp = m + 1 := ⟨dur + kp - 1, by omega⟩
      rw [hm] at hs ⊢
      have hlt : m < (all.extract 0 (m + 1)).size := by omega
      rw [flipLast_eq' hs hlt]
      have he : ((all.extract 0 (m + 1)).extract 0 m).size = m := by rw [ByteArray.size_extract]; omega
      have h1 : (⟨#[255 - (all.extract 0 (m + 1))[m]'hlt]⟩ : ByteArray).size = 1 := rfl
      refine pfx_fin (n := m) (by rw [ByteArray.size_append, he, h1]) (by omega) (by omega) ?_ (.inr ?_)
      · rw [ByteArray.extract_append_eq_left (by rw [he]), extract_take (by omega)]
      · rw [ByteArray.getElem_append_right (by omega)]
        simp only [he, Nat.sub_self]
        show 255 - (all.extract 0 (m + 1))[m] = _
        rw [ByteArray.getElem_extract]
        simp only [Nat.zero_add]
    · rw [if_neg hf]
      dsimp only
      obtain ⟨m, hm⟩ : ∃ m, dur + kp = m + 1 := ⟨dur + kp - 1, by omega⟩
      rw [hm] at hs ⊢
      refine pfx_fin (n := m) hs (by omega) (by omega) (extract_take (by omega)) (.inl ?_)
      rw [ByteArray.getElem_extract]
      simp only [Nat.zero_add]
  · rw [if_neg hk]
    dsimp only
    have e0 : (choice sc (all.size - dur)).1 = 0 := by omega
    rw [e0, Nat.add_zero]
    have hs : (all.extract 0 dur).size = dur := by rw [ByteArray.size_extract]; omega
    have hm : max dur ((all.extract 0 dur).size - 1) = dur := by omega
    refine ⟨?_, .inl (by omega)⟩
    rw [hm]
    exact ByteArray.ext (by simp)
end Go.Proofs.Ytigcokgjikkohaa.Pd
