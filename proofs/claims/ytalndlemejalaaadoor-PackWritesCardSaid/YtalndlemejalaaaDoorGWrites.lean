/- PackWrites: the law's plain function tells true. -/
import Derived.Test.YtalndlemejalaaaDoorGReads
import Derived.Test.YtalndlemejalaaaDoorLWrites
namespace Go.Proofs.YtalndlemejalaaaDoor.P
open Go.RowKit Go.Proofs.YtalndlemejalaaaDoor.Box Go.Proofs.YtalndlemejalaaaDoorW.PrintWords Go.Proofs.YtalndlemejalaaaDoorW.PrintLast Go.Proofs.YtalndlemejalaaaDoorW.PrintMore
set_option linter.unusedVariables false
theorem conv_pr (l : List S34) : (l.map conv).map pr51 = l.map pr34 := by
  rw [List.map_map]; rfl
theorem encs_len {s : ByteArray} : ∀ (vs : List S34) (i : Nat), fitAll s i vs → (encs s i vs).length ≤ vs.length * 1010
  | [], _, _ => by simp [encs]
  | v :: vs, i, h => by
    have h1 := encs_len vs (i + 1) h.2
    have h2 := encV_len h.1
    rw [encs, List.length_append, List.length_cons]; omega
theorem wcode_len (a0 : ByteArray) (l : List S34) : (wcode a0 (l.map pr34)).1.length ≤ l.length * 1010 := by
  unfold wcode
  split
  · simp
  · split
    · simp
    · split
      · simp
      · rename_i c hc
        obtain ⟨h1, h2⟩ := wgo_none l 0 [] c hc
        split
        · simp
        · simp only
          rw [h2, List.nil_append]
          exact encs_len l 0 h1
theorem write_f {a0 : ByteArray} (ha : a0.size ≤ 140737488351232) {l : List S34} (hl : l.length ≤ 1048576) : pack_Write.f a0 l = some (wcode a0 (l.map pr34)) := by
  unfold pack_Write.f
  rw [if_pos ⟨ha, hl⟩]
theorem rwrite_f {a0 : ByteArray} (ha : a0.size ≤ 140737488351232) {l : List S34} (hl : l.length ≤ 1048576) : groupageref03_Write.f a0 (l.map conv) = some (wcode a0 (l.map pr34)) := by
  unfold groupageref03_Write.f
  rw [if_pos ⟨ha, by rw [List.length_map]; exact hl⟩, conv_pr]
end Go.Proofs.YtalndlemejalaaaDoor.P
namespace Go.Proofs.YtalndlemejalaaaDoor.packWrites
open Go.Proofs.YtalndlemejalaaaDoor.P Go.RowKit Go.Proofs.YtalndlemejalaaaDoorW.PrintWords
theorem pure : Pure := by
  intro a0 l1 a2 a3 ha hl hw h2 h3
  obtain ⟨b, hb1, hb2⟩ := large_f a0 l1 (by omega) (fun y hy => (hw y hy).2)
  refine ⟨l1.length + 1000000, ?_⟩
  unfold groupagelaw03_PackWrites.f
  rw [awake_f, Option.bind_some, if_pos rfl, hb1 _ (by omega), Option.bind_some]
  cases b with
  | true => rfl
  | false =>
    obtain ⟨hl3, ha4⟩ := hb2 rfl
    have hc := wcode_len a0 l1
    rw [if_neg (by simp), write_f ha (by omega), Option.bind_some, own_f _ (by omega) (by omega), Option.bind_some, rwrite_f ha (by omega), Option.bind_some, bytes_f _ (by omega) (by omega), Option.bind_some, if_pos rfl, if_pos rfl]
    unfold pack_Number.f pack_Text.f
    simp
theorem said : Rows.PackWritesSaid := proved pure
#print axioms said
end Go.Proofs.YtalndlemejalaaaDoor.packWrites
