/- pack: values and bytes that fit one another. -/
import Derived.Test.YtalndlemejalaaaDoorGRef
namespace Go.Proofs.YtalndlemejalaaaDoor.P
open Go.RowKit Go.Proofs.YtalndlemejalaaaDoor.Box Go.Proofs.YtalndlemejalaaaDoorW.PrintWords Go.Proofs.YtalndlemejalaaaDoorW.PrintLast Go.Proofs.YtalndlemejalaaaDoorW.PrintMore
set_option linter.unusedVariables false
theorem fine_pos {a0 : ByteArray} (h : fineB a0 = true) : 0 < (lettersOf a0).1.size ∧ a0.size ≤ 20 := by
  unfold fineB at h
  simp only [Bool.and_eq_true, decide_eq_true_eq] at h
  exact ⟨h.1.2, h.1.1⟩
theorem bytes_of {l : List Int} (h : ∀ y ∈ l, (fun y => (Lit.int .u8 y).wf = true) y) : Bytes l := fun x hx => by
  have := h x hx
  simp [Lit.wf] at this
  have e1 : IntKind.u8.min = 0 := by decide
  have e2 : IntKind.u8.max = 255 := by decide
  rw [e1, e2] at this
  exact ⟨by omega, by omega⟩
theorem write_f {a0 : ByteArray} (ha : a0.size ≤ 140737488351232) {l : List S34} (hl : l.length ≤ 1048576) : pack_Write.f a0 l = some (wcode a0 (l.map pr34)) := by
  unfold pack_Write.f
  rw [if_pos ⟨ha, hl⟩]
/-- What bytes and values of a form have to do with one another. -/
def Fits (a0 : ByteArray) (l : List S34) (c : List Int) : Prop :=
  fineB a0 = true ∧ ends (lettersOf a0).1 (lettersOf a0).2 l.length ∧ fitAll (lettersOf a0).1 0 l ∧ c = encs (lettersOf a0).1 0 l ∧ l.length ≤ 200
theorem count_ends (a0 : ByteArray) (n : Nat) : countBad a0 n = false ↔ ends (lettersOf a0).1 (lettersOf a0).2 n := by
  unfold countBad ends
  cases (lettersOf a0).2 <;> simp
theorem wcode_ok {a0 : ByteArray} {l : List S34} (h : (wcode a0 (l.map pr34)).2 = 0) : Fits a0 l (wcode a0 (l.map pr34)).1 := by
  unfold wcode at h ⊢
  split at h
  · simp at h
  · rename_i h1
    split at h
    · simp at h
    · rename_i h2
      split at h
      · simp at h
      · rename_i c hc
        split at h
        · simp at h
        · rename_i h3
          rw [if_neg h1, if_neg h2]
          rw [if_neg h3]
          obtain ⟨e1, e2⟩ := wgo_none l 0 [] c hc
          rw [List.length_map] at h2 h3
          exact ⟨by simpa using h1, (count_ends a0 _).1 (by simpa using h2), e1, by simpa using e2, by omega⟩
theorem wcode_of {a0 : ByteArray} {l : List S34} {c : List Int} (h : Fits a0 l c) : wcode a0 (l.map pr34) = (c, 0) := by
  obtain ⟨h1, h2, h3, rfl, h5⟩ := h
  unfold wcode
  rw [if_neg (by simp [h1]), List.length_map, if_neg (by rw [(count_ends a0 _).2 h2]; simp), wgo_some l 0 [] h3]
  simp only
  rw [if_neg (by omega)]; rfl
theorem rcode_ok {a0 : ByteArray} {b : List Int} (hb : Bytes b) (h : (rcode a0 b).2 = 0) : Fits a0 (rcode a0 b).1 b ∧ b.length ≤ 20000 := by
  unfold rcode at h ⊢
  split at h
  · simp at h
  · rename_i h1
    split at h
    · simp at h
    · rename_i h2
      split at h
      · rename_i x hx
        rcases rall_code _ _ _ _ x (by omega) hx with rfl | rfl <;> simp at h
      · rename_i r hr
        split at h
        · simp at h
        · rename_i h3
          rw [if_neg h1, if_neg h2]
          rw [if_neg h3]
          obtain ⟨vs, e1, e2, e3, e4⟩ := rall_canon (b.length + 1) 0 b [] r hb (fun _ => Nat.zero_le _) hr
          simp only [List.nil_append] at e1
          subst e1
          exact ⟨⟨by simpa using h1, by simpa using e4, e3, e2, by simp only; omega⟩, by omega⟩
theorem rcode_none {a0 : ByteArray} {b : List Int} (h : ¬ (rcode a0 b).2 = 0) : (rcode a0 b).1 = [] := by
  unfold rcode at h ⊢
  split
  · rfl
  · rename_i h1
    split
    · rfl
    · rename_i h2
      rw [if_neg h1, if_neg h2] at h
      cases hr : rall (lettersOf a0).1 (lettersOf a0).2 (b.length + 1) 0 b [] with
      | error e => rfl
      | ok r =>
        simp only
        split
        · rfl
        · rename_i h3
          simp only [hr] at h
          rw [if_neg h3] at h
          exact absurd rfl h
theorem encs_many {s : ByteArray} : ∀ (vs : List S34) (i : Nat), vs.length ≤ (encs s i vs).length
  | [], i => by simp [encs]
  | v :: vs, i => by
    have h1 := encs_many (s := s) vs (i + 1)
    have h2 := encV_pos (letter s i) (pr34 v)
    rw [encs, List.length_append, List.length_cons]; omega
theorem rcode_of {a0 : ByteArray} {l : List S34} {b : List Int} (h : Fits a0 l b) (hl : b.length ≤ 20000) : rcode a0 b = (l, 0) := by
  obtain ⟨h1, h2, h3, rfl, h5⟩ := h
  have hm := encs_many (s := (lettersOf a0).1) l 0
  unfold rcode
  rw [if_neg (by simp [h1]), if_neg (by omega), rall_enc (fine_pos h1).1 l _ 0 [] h3 (by simpa using h2) (by omega)]
  simp only [List.nil_append]
  rw [if_neg (by omega)]
theorem bytesOf_bytes (s : ByteArray) : Bytes (bytesOf s) := by
  intro x hx
  unfold bytesOf at hx
  obtain ⟨c, _, rfl⟩ := List.mem_map.1 hx
  have := c.toNat_lt
  omega
theorem encs_bytes {s : ByteArray} : ∀ (vs : List S34) (i : Nat), Bytes (encs s i vs)
  | [], i => by intro x hx; simp [encs] at hx
  | v :: vs, i => by
    intro x hx
    rw [encs] at hx
    rcases List.mem_append.1 hx with hx | hx
    · unfold encV at hx
      split at hx
      · exact vb_bytes _ x hx
      · rcases List.mem_append.1 hx with hx | hx
        · exact vb_bytes _ x hx
        · exact bytesOf_bytes _ x hx
    · exact encs_bytes vs (i + 1) x hx
theorem read_f {a0 : ByteArray} (ha : a0.size ≤ 140737488351232) {b : List Int} (hb : Bytes b) (hl : b.length ≤ 1048576) : pack_Read.f a0 b = some (rcode a0 b) := by
  unfold pack_Read.f
  rw [if_pos ⟨ha, hl, by
    rw [List.all_eq_true]
    intro x hx
    have := hb x hx
    simpa using this⟩]
end Go.Proofs.YtalndlemejalaaaDoor.P
