/- known: the first and the third example. -/
import Derived.Test.YtigcokgjikkohaaIn
namespace Go.Proofs.Ytigcokgjikkohaa
open Go.RowKit Go.Maps Go.Sort
set_option linter.unusedVariables false
set_option linter.unusedSimpArgs false
namespace Pd
def kn0 : PD := PD.new 10
def kn1 : Int × PD := kn0.append ⟨#[97]⟩ ⟨#[97, 98, 99]⟩
def kn2 : Int × PD := kn1.2.sync ⟨#[97]⟩
def kn3 : Int × PD := kn2.2.append ⟨#[97]⟩ ⟨#[100, 101]⟩
def kn4 : Int × PD := kn3.2.publish
def kn5 : PD := kn4.2.crash
def kn6 : PD := kn5.start [0, 1, 1]
def kn7 : ByteArray × Int := kn6.read ⟨#[97]⟩
def kn8 : Int × PD := kn6.setLimit 1
def kn9 : Int × PD := kn8.2.append ⟨#[98]⟩ ⟨#[97, 98, 99]⟩
def kn10 : Int × PD := kn9.2.sync ⟨#[98]⟩
theorem kn_all : kn1.1 = 0 ∧ kn2.1 = 0 ∧ kn3.1 = 0 ∧ kn4.1 = 0 ∧ kn5.down = true ∧ kn7 = (⟨#[97, 98, 99, 155]⟩, 0) ∧ kn8.1 = 0 ∧ kn9.1 = 0 ∧ kn10.1 = 32 := of_decide_eq_true (by kernel_rfl)
end Pd
end Go.Proofs.Ytigcokgjikkohaa
