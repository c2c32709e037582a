/- A file that is replaced by Append, Sync, Rename and Publish: the states on the way, and what a start leaves. -/
import Derived.Test.YtigcokgjikkohaaRdPd
namespace Go.Proofs.Ytigcokgjikkohaa.Pd
set_option linter.unusedVariables false
set_option linter.unusedSimpArgs false
def rpS (old : ByteArray) (dur : Nat) (ds : Names) (p : List PChange) (lim : Option Nat) : PD := ⟨200, [⟨old, dur⟩], [(⟨#[97]⟩, 0)], ds, p, lim, false⟩
def rp0 (old : ByteArray) (k : Nat) : PD := rpS old old.size [(⟨#[97]⟩, 0)] [] (some k)
def rpQ (old new : ByteArray) (d1 : Nat) (nm ds : Names) (p : List PChange) (lim : Nat) (dn : Bool) : PD := ⟨200, [⟨old, old.size⟩, ⟨new, d1⟩], nm, ds, p, some lim, dn⟩
def rp1 (old new : ByteArray) (d1 lim : Nat) (dn : Bool) : PD := rpQ old new d1 [(⟨#[97]⟩, 0), (⟨#[98]⟩, 1)] [(⟨#[97]⟩, 0)] [.set ⟨#[98]⟩ 1] lim dn
def rp3 (old new : ByteArray) (lim : Nat) (dn : Bool) : PD := rpQ old new new.size [(⟨#[97]⟩, 1)] [(⟨#[97]⟩, 0)] [.set ⟨#[98]⟩ 1, .ren ⟨#[98]⟩ ⟨#[97]⟩ 1] lim dn
def rp4 (old new : ByteArray) (lim : Nat) : PD := rpQ old new new.size [(⟨#[97]⟩, 1)] [(⟨#[97]⟩, 1)] [] lim false

theorem rp_setup {old : ByteArray} (h : old.size ≤ 50) (k : Nat) :
    (PD.new 200).append ⟨#[97]⟩ old = (0, rpS old 0 [] [.set ⟨#[97]⟩ 0] none) ∧ (rpS old 0 [] [.set ⟨#[97]⟩ 0] none).sync ⟨#[97]⟩ = (0, rpS old old.size [] [.set ⟨#[97]⟩ 0] none) ∧
    (rpS old old.size [] [.set ⟨#[97]⟩ 0] none).publish = (0, rpS old old.size [(⟨#[97]⟩, 0)] [] none) ∧ (rpS old old.size [(⟨#[97]⟩, 0)] [] none).setLimit (k : Int) = (0, rp0 old k) := by
  refine ⟨?_, rfl, rfl, ?_⟩
  · unfold PD.append
    rw [if_neg (by decide), if_neg (by decide)]
    show (if 64 ≤ (PD.new 200).names.length then _ else if (PD.new 200).cap < (PD.new 200).used + old.size then _ else _) = _
    rw [if_neg (by decide), if_neg (by show ¬ 200 < 0 + old.size; omega)]
    rfl
  · unfold PD.setLimit
    rw [if_neg (by show ¬ false = true; decide)]
    rw [if_neg (by omega)]
    rfl
theorem rp_append {old new : ByteArray} (h : old.size ≤ 50) (h' : new.size ≤ 50) (k : Nat) :
    (rp0 old 0).append ⟨#[98]⟩ new = (32, rp1 old new 0 0 true) ∧ (rp0 old (k + 1)).append ⟨#[98]⟩ new = (0, rp1 old new 0 k false) := by
  have hu : ∀ k, (rp0 old k).used = old.size := by intro k; show old.size + 0 = _; omega
  constructor
  · unfold PD.append
    rw [if_neg (by show ¬ false = true; decide), if_neg (by decide)]
    show (if 64 ≤ (rp0 old 0).names.length then _ else if (rp0 old 0).cap < (rp0 old 0).used + new.size then _ else _) = _
    rw [if_neg (by show ¬ 64 ≤ 1; omega), if_neg (by rw [hu]; show ¬ 200 < old.size + new.size; omega)]
    rfl
  · unfold PD.append
    rw [if_neg (by show ¬ false = true; decide), if_neg (by decide)]
    show (if 64 ≤ (rp0 old (k + 1)).names.length then _ else if (rp0 old (k + 1)).cap < (rp0 old (k + 1)).used + new.size then _ else _) = _
    rw [if_neg (by show ¬ 64 ≤ 1; omega), if_neg (by rw [hu]; show ¬ 200 < old.size + new.size; omega)]
    rfl
theorem rp_sync (old new : ByteArray) (k : Nat) : (rp1 old new 0 0 false).sync ⟨#[98]⟩ = (32, rp1 old new 0 0 true) ∧ (rp1 old new 0 (k + 1) false).sync ⟨#[98]⟩ = (0, rp1 old new new.size k false) := ⟨rfl, rfl⟩
theorem rp_rename (old new : ByteArray) (k : Nat) : (rp1 old new new.size 0 false).rename ⟨#[98]⟩ ⟨#[97]⟩ = (32, rp3 old new 0 true) ∧ (rp1 old new new.size (k + 1) false).rename ⟨#[98]⟩ ⟨#[97]⟩ = (0, rp3 old new k false) := ⟨rfl, rfl⟩
theorem rp_publish (old new : ByteArray) (k : Nat) : (rp3 old new 0 false).publish = (32, rp3 old new 0 true) ∧ (rp3 old new (k + 1) false).publish = (0, rp4 old new k) := ⟨rfl, rfl⟩
theorem rp_fin1 (old new : ByteArray) (d1 lim : Nat) (dn : Bool) (sc : List Int) : ((rp1 old new d1 lim dn).crash.start sc).read ⟨#[97]⟩ = (old, 0) := by
  have h := choice_le sc 1
  refine read_start (i := 0) sc rfl ?_ rfl
  show find (([PChange.set ⟨#[98]⟩ 1].take (choice sc 1).1).foldl PChange.on [(⟨#[97]⟩, 0)]) ⟨#[97]⟩ = some 0
  generalize (choice sc 1).1 = c at h
  match c, h with
  | 0, _ => rfl
  | 1, _ => rfl
theorem rp_fin3 (old new : ByteArray) (lim : Nat) (dn : Bool) (sc : List Int) : ((rp3 old new lim dn).crash.start sc).read ⟨#[97]⟩ = (old, 0) ∨ ((rp3 old new lim dn).crash.start sc).read ⟨#[97]⟩ = (new, 0) := by
  have h := choice_le sc 2
  have h0 : ∀ i, find (([PChange.set ⟨#[98]⟩ 1, .ren ⟨#[98]⟩ ⟨#[97]⟩ 1].take (choice sc 2).1).foldl PChange.on [(⟨#[97]⟩, 0)]) ⟨#[97]⟩ = some i → i = 0 ∨ i = 1 → ((rp3 old new lim dn).crash.start sc).read ⟨#[97]⟩ = ((fileAt (rp3 old new lim dn).files i).data, 0) :=
    fun i hi hj => read_start (i := i) sc rfl hi (by rcases hj with rfl | rfl <;> rfl)
  generalize (choice sc 2).1 = c at h h0
  match c, h, h0 with
  | 0, _, h0 => exact .inl (h0 0 rfl (.inl rfl))
  | 1, _, h0 => exact .inl (h0 0 rfl (.inl rfl))
  | 2, _, h0 => exact .inr (h0 1 rfl (.inr rfl))
theorem rp_fin4 (old new : ByteArray) (lim : Nat) (sc : List Int) : ((rp4 old new lim).crash.start sc).read ⟨#[97]⟩ = (new, 0) := by
  have h := choice_le sc 0
  refine read_start (i := 1) sc rfl ?_ rfl
  show find ((([] : List PChange).take (choice sc 0).1).foldl PChange.on [(⟨#[97]⟩, 1)]) ⟨#[97]⟩ = some 1
  rw [List.take_nil]
  rfl
end Go.Proofs.Ytigcokgjikkohaa.Pd
