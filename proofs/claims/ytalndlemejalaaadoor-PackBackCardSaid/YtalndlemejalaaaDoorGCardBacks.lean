/- PackBack tells true for every input (no condition of ours): the tied card of the given row. -/
import Derived.Test.YtalndlemejalaaaDoorGBacks
import Derived.Test.YtalndlemejalaaaDoorTie
import Derived.Test.YtalndlemejalaaaDoorCards
import Derived.SevenTiedAt
namespace Go.Proofs.YtalndlemejalaaaDoor
open Go
theorem packBack_card : Rows.PackBackCardSaid :=
  Claim7.holds_tied_plain_at .later [] [.data, .pinned] true (true, "54529eb23776f700dcaca41db426fec7da9ce3ccc06c57e9835fe81a656c2c57") true
    packBack.said (fun _ h => by cases h) (by kernel_rfl) (fun _ h => by cases h) packBack_row_tie rfl ⟨rfl, rfl⟩ (by kernel_rfl) rfl
    (fun f fn hf hfn => by
      obtain rfl : f = 5 := Option.some.inj ((show Tryd.prog.funcNamed "groupage/groupagelaw03.PackBack" = some 5 by kernel_rfl).symm.trans hf) |>.symm
      obtain rfl : fn = Tryd.f5 := (Option.some.inj (Tryd.func5.symm.trans hfn)).symm
      exact ⟨by kernel_rfl, fun j t ht => by
        rw [Tryd.params5] at ht
        have hm : t ∈ [9, 22, 25] := by simpa using Array.mem_of_getElem? ht
        have hall : ([9, 22, 25].all fun u => !Tryd.prog.wantsStandIn u) = true := by kernel_rfl
        exact (show Tryd.prog.wantsStandIn t = false by simpa using List.all_eq_true.1 hall t hm)⟩)
    (by kernel_rfl)
#print axioms packBack_card
end Go.Proofs.YtalndlemejalaaaDoor
