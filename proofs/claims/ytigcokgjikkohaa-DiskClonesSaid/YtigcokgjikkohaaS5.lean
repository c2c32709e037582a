/- Start, over any disk. -/
import Derived.Test.YtigcokgjikkohaaS4
namespace Go.Proofs.Ytigcokgjikkohaa
open Go.RowKit Go.Maps Go.Sort
variable {w : World} {F G : Nat → Prop} {d : Nat} {s : Pd.PD}
theorem start_any (h : DiskAt w F G d s) {n : Nat} (hi : Pd.Inv n s) (hn1 : n < 1000000) {v : Value} {sc : List Int} (hsc : IntsRd w v sc) (hlen : sc.length ≤ 1000000000000) :
    Calls Try.prog 17 #[.pointer (some ⟨d, 0, none⟩), v] w fun e w' => e = .returned (.tuple #[]) ∧ DiskTo w F G d (s.start sc) w' := by
  obtain ⟨a, m, c, rfl⟩ := rd_shape hsc
  cases hd : s.down with
  | false =>
    have hs : s.start sc = s := by unfold Pd.PD.start; rw [if_pos hd]
    obtain ⟨nb, db, pv, xs, addr, L, left, p⟩ := h
    refine (start_up p hd a m c).mono ?_
    rintro e w' ⟨rfl, hf⟩
    rw [hs]
    exact ⟨rfl, F, G, ⟨nb, db, pv, xs, addr, L, left, p.kept hf (fun _ _ e => e) (fun _ _ e => e)⟩, fun _ h => .inl h, fun _ h => .inl h, hf.mono (fun _ e => e.elim)⟩
  | true =>
    obtain ⟨nb, db, pv, xs, addr, L, left, p⟩ := h
    rcases p.row.2 with ⟨hv, h0⟩ | ⟨g, cap, cur, hv, _, _, hc, _⟩
    · exact start_down p hi hn1 hd a m c sc hsc hlen none 0 (by rw [hv, h0]) (by omega) (.inl ⟨rfl, h0, rfl⟩)
    · exact start_down p hi hn1 hd a m c sc hsc hlen (some ⟨g, 0, none⟩) cap hv hc (.inr ⟨g, rfl⟩)
end Go.Proofs.Ytigcokgjikkohaa
