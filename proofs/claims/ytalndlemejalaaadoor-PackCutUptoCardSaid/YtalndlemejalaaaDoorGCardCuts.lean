/- PackCut tells true for every input whose arguments hold at most 1048576 values and letters: the tied card of the given row. -/
import Derived.Test.YtalndlemejalaaaDoorGCuts
import Derived.Test.YtalndlemejalaaaDoorTie
import Derived.Test.YtalndlemejalaaaDoorCards
import Derived.SevenTiedAt
namespace Go.Proofs.YtalndlemejalaaaDoor
open Go
theorem packCut_card : Rows.PackCutUptoCardSaid :=
  Claim7.holds_tied_plain_at .later [] [.data, .pinned] true (true, "54529eb23776f700dcaca41db426fec7da9ce3ccc06c57e9835fe81a656c2c57") true
    packCut.said (fun _ h => by cases h) (by kernel_rfl) (fun _ h => by cases h) packCutUpto_row_tie rfl ⟨rfl, rfl⟩ (by kernel_rfl) rfl
    (fun f fn hf hfn => by
      obtain rfl : f = 6 := Option.some.inj ((show Tryd.prog.funcNamed "groupage/groupagelaw03.PackCut" = some 6 by kernel_rfl).symm.trans hf) |>.symm
      obtain rfl : fn = Tryd.f6 := (Option.some.inj (Tryd.func6.symm.trans hfn)).symm
      exact ⟨by kernel_rfl, fun j t ht => by
        rw [Tryd.params6] at ht
        have hm : t ∈ [9, 22, 3, 5] := by simpa using Array.mem_of_getElem? ht
        have hall : ([9, 22, 3, 5].all fun u => !Tryd.prog.wantsStandIn u) = true := by kernel_rfl
        exact (show Tryd.prog.wantsStandIn t = false by simpa using List.all_eq_true.1 hall t hm)⟩)
    (by kernel_rfl)
#print axioms packCut_card
end Go.Proofs.YtalndlemejalaaaDoor
