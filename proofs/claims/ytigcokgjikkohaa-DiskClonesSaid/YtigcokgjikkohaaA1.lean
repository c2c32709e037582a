/- The walk of (*Disk).Append. -/
import Derived.Test.YtigcokgjikkohaaOps
import Derived.Test.YtigcokgjikkohaaPdInv
import Derived.Deep.RegionWith
import Derived.Deep.CutRange
namespace Go.Proofs.Ytigcokgjikkohaa
open Go.RowKit Go.Maps
set_option linter.unusedVariables false
set_option linter.unusedSimpArgs false

theorem wpList_len_names {ops : Array Oper} {rest : List Oper} {o : Oper} {a : Act} {Q : Exit → Act → World → Prop} {w : World} (hw : Region.wanted o (yielded ops a.tmps) = true)
    (m : Operand) (hop : o.op = Op.call { callee := Callee.builtin Builtin.len, args := #[m], argTypes := #[69] }) (b n : Nat) (addr : Nat → Nat) (l : Pd.Names) (hm : a.eval m = .map (some b)) (hown : namesAt w b n addr l)
    (hK : wpList Try.prog ops Q rest (a.put o.dst (.int .i64 l.length)) w) : wpList Try.prog ops Q (o :: rest) a w := by
  unfold wpList
  rw [if_pos hw]
  refine .inl ?_
  unfold Oper.wp
  simp [execOp, hop, resolve, invoke, builtin, hm, len_names hown o.type, Result.andThen]
  exact hK

/-- A method has returned a number, and the disk has come to a state. -/
def DRet (w : World) (F G : Nat → Prop) (d : Nat) (r : Int × Pd.PD) (e : Ending) (w' : World) : Prop := e = .returned (.int .i64 r.1) ∧ DiskTo w F G d r.2 w'

section
variable {w w' : World} {F G : Nat → Prop} {d nb db : Nat} {pv : Value} {xs : List Value} {addr : Nat → Nat} {L : Nat → Prop} {left : Int} {s : Pd.PD}
theorem DiskP.at (h : DiskP w F G d nb db pv xs addr L left s) : DiskAt w F G d s := ⟨_, _, _, _, _, _, _, h⟩
/-- Nothing but new blocks. -/
theorem DiskP.to_new (h : DiskP w F G d nb db pv xs addr L left s) (hf : Fr (fun _ => False) w w') : DiskTo w F G d s w' :=
  ⟨F, G, (h.kept hf (fun _ _ e => e) (fun _ _ e => e)).at, fun _ h => .inl h, fun _ h => .inl h, hf.mono (fun _ e => e.elim)⟩

set_option maxRecDepth 100000 in
set_option maxHeartbeats 1000000 in
theorem append_down (h : DiskP w F G d nb db pv xs addr L left s) (hd : s.down = true) (name data : ByteArray) :
    Calls Try.prog 13 #[.pointer (some ⟨d, 0, none⟩), .string name, .string data] w (DRet w F G d (s.append name data)) := by
  obtain ⟨h0, h1, h2, h3, h4, h5, h6⟩ := h.c1
  have hr : s.append name data = (18, s) := by unfold Pd.PD.append; rw [if_pos hd]
  rw [hr]
  rw [hd] at h6
  have H := Lib.hid h
  clear h hr hd
  go_enter Try.func13, Try.ntmps13
  go_wp2_with (go_at_call 37; refine (ready_down h6).mono ?_; rintro e w' ⟨rfl, rfl⟩)
  go_ret
  exact ⟨rfl, H.out.to_new (Fr.refl _ _)⟩
set_option maxRecDepth 100000 in
set_option maxHeartbeats 1000000 in
theorem append_name (h : DiskP w F G d nb db pv xs addr L left s) (hd : s.down = false) (name data : ByteArray) (hns : name.size ≤ 9223372036854775807) (hnm : Pd.isName name = false) :
    Calls Try.prog 13 #[.pointer (some ⟨d, 0, none⟩), .string name, .string data] w (DRet w F G d (s.append name data)) := by
  obtain ⟨h0, h1, h2, h3, h4, h5, h6⟩ := h.c1
  have hr : s.append name data = (11, s) := by unfold Pd.PD.append; rw [if_neg (by simp [hd]), if_pos hnm]
  rw [hr]
  rw [hd] at h6
  have hlk := look_names h.hn hns
  obtain ⟨o1, ho1⟩ : ∃ o, optPtr ((Pd.find s.names name).map addr) = o := ⟨_, rfl⟩
  obtain ⟨o2, ho2⟩ : ∃ o, (Pd.find s.names name).isSome = o := ⟨_, rfl⟩
  rw [ho1, ho2] at hlk
  have H := Lib.hid h
  clear h hr hd ho1 ho2
  go_enter Try.func13, Try.ntmps13
  go_wp2_with (first
    | (go_at_call 37; refine (ready_up h6).mono ?_; rintro e w' ⟨rfl, rfl⟩)
    | (go_at_call 38; refine (isName_any name _ hns).mono ?_; rintro e w' ⟨rfl, rfl⟩))
  go_ret
  exact ⟨rfl, H.out.to_new (Fr.refl _ _)⟩
set_option maxRecDepth 100000 in
set_option maxHeartbeats 1000000 in
theorem append_limit (h : DiskP w F G d nb db pv xs addr L left s) (hd : s.down = false) (name data : ByteArray) (hns : name.size ≤ 9223372036854775807) (hnm : Pd.isName name = true) (hf : Pd.find s.names name = none) (hl : 64 ≤ s.names.length) :
    Calls Try.prog 13 #[.pointer (some ⟨d, 0, none⟩), .string name, .string data] w (DRet w F G d (s.append name data)) := by
  obtain ⟨h0, h1, h2, h3, h4, h5, h6⟩ := h.c1
  have hr : s.append name data = (6, s) := by unfold Pd.PD.append; rw [if_neg (by simp [hd]), if_neg (by simp [hnm]), hf]; dsimp only; rw [if_pos hl]
  rw [hr]
  rw [hd] at h6
  have hlk := look_names h.hn hns
  rw [hf] at hlk
  have hlk' : (Instr.lookup 69 (.map (some nb)) (.string name) true).run Try.prog w = .ok (.tuple #[.pointer none, .bool false]) w := hlk
  have hn := h.hn
  have hg : decide ((64 : Int) ≤ (s.names.length : Int)) = true := by simp; omega
  have H := Lib.hid h
  clear h hr hd hlk hf
  go_enter Try.func13, Try.ntmps13
  go_wp2_with (first
    | (go_at_call 37; refine (ready_up h6).mono ?_; rintro e w' ⟨rfl, rfl⟩)
    | (go_at_call 38; refine (isName_any name _ hns).mono ?_; rintro e w' ⟨rfl, rfl⟩)
    | (at_len; refine wpList_len_names rfl _ rfl nb _ addr s.names rfl hn ?_))
  go_ret
  exact ⟨rfl, H.out.to_new (Fr.refl _ _)⟩
end
end Go.Proofs.Ytigcokgjikkohaa
