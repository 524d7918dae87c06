/- PackReads, PackWrites: the laws' plain functions tell true. -/
import Derived.Test.YtalndlemejalaaaDoorGRef
import Derived.Test.YtalndlemejalaaaDoorLReads
namespace Go.Proofs.YtalndlemejalaaaDoor.P
open Go.RowKit Go.Proofs.YtalndlemejalaaaDoor.Box Go.Proofs.YtalndlemejalaaaDoorW.PrintWords Go.Proofs.YtalndlemejalaaaDoorW.PrintLast Go.Proofs.YtalndlemejalaaaDoorW.PrintMore
set_option linter.unusedVariables false
theorem fine_pos {a0 : ByteArray} (h : fineB a0 = true) : 0 < (lettersOf a0).1.size ∧ a0.size ≤ 20 := by
  unfold fineB at h
  simp only [Bool.and_eq_true, decide_eq_true_eq] at h
  exact ⟨h.1.2, h.1.1⟩
theorem letters_f {a0 : ByteArray} (h : a0.size ≤ 140737488351232) : groupageref03_Letters.f a0 = some ((lettersOf a0).1, (lettersOf a0).2, fineB a0) := by
  unfold groupageref03_Letters.f
  first
    | rw [if_pos h]
    | simp [h]
theorem rread_f {a0 : ByteArray} (ha : a0.size ≤ 140737488351232) {l : List Int} (hb : Bytes l) (hl : l.length ≤ 21000) (k : Nat) (hk : 100000 ≤ k) : groupageref03_Read.f k a0 l = some (conv2 (rcode a0 l)) := by
  unfold groupageref03_Read.f rcode
  rw [letters_f ha, Option.bind_some]
  cases hf : fineB a0 with
  | false => rfl
  | true =>
    have hsz := letters_size a0
    rw [if_pos rfl]
    simp only [Bool.true_eq_false, if_false]
    by_cases h2 : 20000 < l.length
    · rw [if_pos (by omega), if_pos h2]; rfl
    · rw [if_neg (by omega), if_neg h2]
      have h := read_l0 (lettersOf a0).1 (lettersOf a0).2 (fine_pos hf).1 (by omega) l hb (by omega) l.length 0 (l.length + 1) k [] (by omega) (by omega) (by omega) (by omega) (by simp) (by simp)
      rw [List.drop_zero] at h
      exact h
theorem rall_len {s : ByteArray} {ag : Bool} {l : List Int} {r : List S34} (hb : Bytes l) (h : rall s ag (l.length + 1) 0 l [] = .ok r) : r.length ≤ l.length := by
  obtain ⟨vs, e1, e2, _, _⟩ := rall_canon (l.length + 1) 0 l [] r hb (fun _ => Nat.zero_le _) h
  rw [e1, List.nil_append, e2]
  clear e1 e2 h
  have : ∀ (vs : List S34) (i : Nat), vs.length ≤ (encs s i vs).length := by
    intro vs
    induction vs with
    | nil => intro i; simp [encs]
    | cons v vs ih =>
      intro i
      have h1 := ih (i + 1)
      have h2 := encV_pos (letter s i) (pr34 v)
      rw [encs, List.length_append, List.length_cons]; omega
  exact this vs 0
theorem rcode_len {a0 : ByteArray} {l : List Int} (hb : Bytes l) : (rcode a0 l).1.length ≤ 200 := by
  unfold rcode
  split
  · simp
  · split
    · simp
    · split
      · simp
      · split
        · simp
        · simp only; omega
end Go.Proofs.YtalndlemejalaaaDoor.P
namespace Go.Proofs.YtalndlemejalaaaDoor.packReads
open Go.Proofs.YtalndlemejalaaaDoor.P Go.RowKit Go.Proofs.YtalndlemejalaaaDoorW.PrintWords
theorem bytes_of {l : List Int} (h : ∀ y ∈ l, (fun y => (Lit.int .u8 y).wf = true) y) : Bytes l := fun x hx => by
  have := h x hx
  simp [Lit.wf] at this
  have e1 : IntKind.u8.min = 0 := by decide
  have e2 : IntKind.u8.max = 255 := by decide
  rw [e1, e2] at this
  exact ⟨by omega, by omega⟩
theorem pure : Pure := by
  intro a0 l1 ha hl hw
  have hb := bytes_of hw
  refine ⟨200000, ?_⟩
  unfold groupagelaw03_PackReads.f
  rw [awake_f, Option.bind_some, if_pos rfl]
  have key : ∀ x : Bool, (x = false → l1.length ≤ 21000) → groupagelaw03_PackReads.j0 200000 a0 l1 x = some true := by
    intro x hx
    rw [groupagelaw03_PackReads.j0]
    cases x with
    | true => rfl
    | false =>
      have hl2 := hx rfl
      have hread : pack_Read.f a0 l1 = some (rcode a0 l1) := by
        unfold pack_Read.f
        rw [if_pos ⟨ha, by omega, by
          rw [List.all_eq_true]
          intro x hx
          have := hb x hx
          simpa using this⟩]
      have hrl := rcode_len (a0 := a0) hb
      rw [if_neg (by simp), hread, Option.bind_some, rread_f ha hb hl2 _ (by omega), Option.bind_some, own_f _ (by omega) (by omega), Option.bind_some]
      simp only [conv2]
      rw [same3_f _ (by simp; omega) (by simp; omega), Option.bind_some, if_pos rfl]
      simp
  by_cases h1 : (l1.length : Int) > 21000
  · rw [if_pos h1]; exact key true (fun h => by cases h)
  · rw [if_neg h1]; exact key _ (fun _ => by omega)
theorem said : Rows.PackReadsSaid := proved pure
#print axioms said
end Go.Proofs.YtalndlemejalaaaDoor.packReads
