/- PackWrites tells true for every input (no condition of ours): the tied card of the given row. -/
import Derived.Test.YtalndlemejalaaaDoorGWrites
import Derived.Test.YtalndlemejalaaaDoorTie
import Derived.Test.YtalndlemejalaaaDoorCards
import Derived.SevenTiedAt
namespace Go.Proofs.YtalndlemejalaaaDoor
open Go
theorem packWrites_card : Rows.PackWritesCardSaid :=
  Claim7.holds_tied_plain_at .later [] [.data, .pinned] true (true, "54529eb23776f700dcaca41db426fec7da9ce3ccc06c57e9835fe81a656c2c57") true
    packWrites.said (fun _ h => by cases h) (by kernel_rfl) (fun _ h => by cases h) packWrites_row_tie rfl ⟨rfl, rfl⟩ (by kernel_rfl) rfl
    (fun f fn hf hfn => by
      obtain rfl : f = 3 := Option.some.inj ((show Tryd.prog.funcNamed "groupage/groupagelaw03.PackWrites" = some 3 by kernel_rfl).symm.trans hf) |>.symm
      obtain rfl : fn = Tryd.f3 := (Option.some.inj (Tryd.func3.symm.trans hfn)).symm
      exact ⟨by kernel_rfl, fun j t ht => by
        rw [Tryd.params3] at ht
        have hm : t ∈ [9, 22, 2, 9] := by simpa using Array.mem_of_getElem? ht
        have hall : ([9, 22, 2, 9].all fun u => !Tryd.prog.wantsStandIn u) = true := by kernel_rfl
        exact (show Tryd.prog.wantsStandIn t = false by simpa using List.all_eq_true.1 hall t hm)⟩)
    (by kernel_rfl)
#print axioms packWrites_card
end Go.Proofs.YtalndlemejalaaaDoor
