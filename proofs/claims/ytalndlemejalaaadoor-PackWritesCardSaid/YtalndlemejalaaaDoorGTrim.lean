/- strings.Trim at the cutset 'nt': by the shelf's contract, in the form that the printed callers ask. -/
import Derived.Test.YtalndlemejalaaaDoorPx0
import Derived.Test.YtalndlemejalaaaDoorGShelf
namespace Go.Proofs.YtalndlemejalaaaDoor.P
open Go.RowKit Go.Shelf Go.Lib Go.Proofs.YtalndlemejalaaaDoorW.PrintWords

def strings_Trim.f (a0 : ByteArray) (a1 : ByteArray) : Option (ByteArray) :=
  if a0.size ≤ 9223372036854775807 ∧ a1.data.toList = [110, 116] then some ⟨(Lib.trimS a0.data.toList [110, 116]).toArray⟩ else none
theorem strings_Trim.calls (a0 : ByteArray) (a1 : ByteArray) (r : ByteArray) (w : World) (h : strings_Trim.f a0 a1 = some r) :
    Calls Tryd.prog 29 #[.string a0, .string a1] w fun e w' => e = .returned (.string r) ∧ Below w.heap.size w w' := by
  unfold strings_Trim.f at h
  split at h
  · rename_i hc
    obtain ⟨hs, h1⟩ := hc
    have e1 : a1 = ⟨#[110, 116]⟩ := by
      have : a1.data = #[110, 116] := by rw [← Array.toArray_toList (xs := a1.data), h1]
      cases a1; simp_all
    subst e1
    have hcon := Any.strings_Trim_laid Tryd.lays160 (by kernel_rfl) a0 ⟨#[110, 116]⟩ w hs (by decide) (ascii_of_all (by decide))
    change Calls Tryd.prog 29 _ _ (fun e w' => e = .returned (.string ⟨(Lib.trimS a0.data.toList [110, 116]).toArray⟩) ∧ Below w.heap.size w w') at hcon
    rw [Option.some.inj h] at hcon
    exact hcon
  · cases h
end Go.Proofs.YtalndlemejalaaaDoor.P
