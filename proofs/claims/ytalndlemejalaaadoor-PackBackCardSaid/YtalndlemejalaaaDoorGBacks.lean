/- PackBack: the law's plain function tells true. -/
import Derived.Test.YtalndlemejalaaaDoorGFits
import Derived.Test.YtalndlemejalaaaDoorLBack
namespace Go.Proofs.YtalndlemejalaaaDoor.packBack
open Go.Proofs.YtalndlemejalaaaDoor.P Go.RowKit Go.Proofs.YtalndlemejalaaaDoorW.PrintWords
theorem pure : Pure := by
  intro a0 l1 l2 ha hl hw h2 hw2
  have hb := bytes_of hw2
  obtain ⟨b, hb1, hb2⟩ := large_f a0 l1 (by omega) (fun y hy => (hw y hy).2)
  refine ⟨l1.length + 1000000, ?_⟩
  unfold groupagelaw03_PackBack.f
  rw [awake_f, Option.bind_some, if_pos rfl, hb1 _ (by omega), Option.bind_some]
  have key : ∀ x : Bool, (x = false → b = false ∧ l2.length ≤ 21000) → groupagelaw03_PackBack.j0 (l1.length + 1000000) a0 l1 l2 x = some true := by
    intro x hx
    rw [groupagelaw03_PackBack.j0]
    cases x with
    | true => rfl
    | false =>
      obtain ⟨hbf, hl2⟩ := hx rfl
      obtain ⟨hl3, ha4⟩ := hb2 hbf
      have last : groupagelaw03_PackBack.j2 (l1.length + 999998) a0 l2 = some true := by
        rw [groupagelaw03_PackBack.j2, read_f ha hb (by omega), Option.bind_some]
        by_cases h0 : (rcode a0 l2).2 = 0
        · obtain ⟨hf, h20⟩ := rcode_ok hb h0
          have hw := wcode_of hf
          have h200 := hf.2.2.2.2
          rw [if_pos h0, write_f ha (by omega), Option.bind_some, hw, if_pos rfl, bytes_f _ (by omega) (by omega), Option.bind_some]
        · rw [if_neg h0, rcode_none h0]; rfl
      have key2 : ∀ y : Bool, (y = true → (wcode a0 (l1.map pr34)).2 = 0 ∧ (wcode a0 (l1.map pr34)).1.length ≤ 20000) → groupagelaw03_PackBack.j1 (l1.length + 999999) a0 l1 l2 (wcode a0 (l1.map pr34)).1 y = some true := by
        intro y hy
        rw [groupagelaw03_PackBack.j1]
        cases y with
        | false => rw [if_neg (by simp)]; exact last
        | true =>
          obtain ⟨hy1, hy2⟩ := hy rfl
          have hf := wcode_ok hy1
          have hr := rcode_of hf hy2
          have hbb : Bytes (wcode a0 (l1.map pr34)).1 := by rw [hf.2.2.2.1]; exact encs_bytes _ _
          rw [if_pos rfl, read_f ha hbb (by omega), Option.bind_some, hr, if_pos rfl]
          simp only
          rw [own_f _ (by omega) (by omega), Option.bind_some, Option.bind_some, same3_f _ (by rw [List.length_map]; omega) (by rw [List.length_map]; omega), Option.bind_some, if_pos rfl]
          exact last
      rw [if_neg (by simp), write_f ha (by omega), Option.bind_some]
      by_cases h0 : (wcode a0 (l1.map pr34)).2 = 0
      · rw [if_pos h0]; exact key2 _ (fun h => ⟨h0, by simp at h; omega⟩)
      · rw [if_neg h0]; exact key2 false (fun h => by cases h)
  cases b with
  | true => rw [if_pos rfl]; exact key true (fun h => by cases h)
  | false => rw [if_neg (by simp)]; exact key _ (fun h => ⟨rfl, by simp at h; omega⟩)
theorem said : Rows.PackBackSaid := proved pure
#print axioms said
end Go.Proofs.YtalndlemejalaaaDoor.packBack
