/- PackCut: the law's plain function tells true, of arguments of bounded bulk. -/
import Derived.Test.YtalndlemejalaaaDoorGFits
import Derived.Test.YtalndlemejalaaaDoorLCut
namespace Go.Proofs.YtalndlemejalaaaDoor.P
open Go.RowKit Go.Proofs.YtalndlemejalaaaDoor.Box Go.Proofs.YtalndlemejalaaaDoorW.PrintWords Go.Proofs.YtalndlemejalaaaDoorW.PrintLast Go.Proofs.YtalndlemejalaaaDoorW.PrintMore
set_option linter.unusedVariables false
/-- A form that comes again ends with '+'. -/
theorem again_last {a0 : ByteArray} (h : (lettersOf a0).2 = true) : 0 < a0.size ∧ (a0.size < 9223372036854775807 → bt a0 (wrap64 ((a0.size : Int) - 1)) = 43) := by
  have hl : a0.data.toList.getLast? = some 43 := by
    unfold lettersOf at h
    split at h
    · assumption
    · cases h
  have hp : 0 < a0.size := by
    rcases Nat.eq_zero_or_pos a0.size with h0 | h0
    · have : a0.data.toList = [] := by apply List.eq_nil_of_length_eq_zero; simpa using h0
      rw [this] at hl; cases hl
    · exact h0
  refine ⟨hp, fun hsz => ?_⟩
  rw [last_of a0 hp] at hl
  have e := Option.some.inj hl
  have hw : wrap64 ((a0.size : Int) - 1) = ((a0.size - 1 : Nat) : Int) := by unfold wrap64; omega
  have hb := bt_at a0 ((a0.size - 1 : Nat) : Int) (by omega)
  rw [hw, ← hb]
  simp only [Int.toNat_natCast, e]
  rfl
/-- What a longer list of bytes tells begins with what a shorter one tells; in a form that does not come again there is none such. -/
theorem fits_front {a0 : ByteArray} {m l : List S34} {b d : List Int} (hm : Fits a0 m b) (hl : Fits a0 l (b ++ d)) (hd : d ≠ []) : (∃ l', l = m ++ l' ∧ l' ≠ []) ∧ (lettersOf a0).2 = true := by
  obtain ⟨h1, h2, h3, h4, h5⟩ := hm
  obtain ⟨_, g2, g3, g4, g5⟩ := hl
  obtain ⟨l', e1, e2⟩ := encs_front m l 0 d h3 g3 (by rw [← h4]; exact g4.symm)
  have hne : l' ≠ [] := by rintro rfl; exact hd (by rw [← e2]; rfl)
  refine ⟨⟨l', e1, hne⟩, ?_⟩
  have hp : 0 < l'.length := List.length_pos_iff.2 hne
  cases hag : (lettersOf a0).2 with
  | true => rfl
  | false =>
    unfold ends at h2 g2
    rw [hag] at h2 g2
    simp at h2 g2
    rw [e1, List.length_append] at g2
    omega
end Go.Proofs.YtalndlemejalaaaDoor.P
namespace Go.Proofs.YtalndlemejalaaaDoor.packCut
open Go.Proofs.YtalndlemejalaaaDoor.P Go.RowKit Go.Proofs.YtalndlemejalaaaDoorW.PrintWords
theorem pure : Pure := by
  intro a0 l1 a2 a3 ha0 ha hl0 hl hw h2 h3
  obtain ⟨b, hb1, hb2⟩ := large_f a0 l1 (by omega) (fun y hy => (hw y hy).2)
  have h3 : 0 ≤ a3 ∧ a3 ≤ 255 := by
    have e1 : IntKind.u8.min = 0 := by decide
    have e2 : IntKind.u8.max = 255 := by decide
    simp [Lit.wf, e1, e2] at h3
    omega
  refine ⟨l1.length + 1000000, ?_⟩
  unfold groupagelaw03_PackCut.f
  rw [awake_f, Option.bind_some, if_pos rfl, write_f ha hl0, Option.bind_some, hb1 _ (by omega), Option.bind_some]
  generalize hc : wcode a0 (l1.map pr34) = c
  have skip : groupagelaw03_PackCut.j0 (l1.length + 1000000) a0 l1 a2 a3 c.1 true = some true := by
    rw [groupagelaw03_PackCut.j0, if_pos rfl]
  have key : b = false → c.2 = 0 → ¬ a2 < 0 → ¬ a2 ≥ (c.1.length : Int) → groupagelaw03_PackCut.j0 (l1.length + 1000000) a0 l1 a2 a3 c.1 (decide ((c.1.length : Int) ≥ 20000)) = some true := by
    intro hbf hc2 hn hm
    by_cases h20 : (c.1.length : Int) ≥ 20000
    · simp only [h20, decide_true]; exact skip
    · simp only [h20, decide_false]
      obtain ⟨hl3, ha4⟩ := hb2 hbf
      have hf : Fits a0 l1 c.1 := by have := wcode_ok (a0 := a0) (l := l1) (by rw [hc]; exact hc2); rwa [hc] at this
      have hbb : Bytes c.1 := by rw [hf.2.2.2.1]; exact encs_bytes _ _
      have h200 := hf.2.2.2.2
      have last : groupagelaw03_PackCut.j1 (l1.length + 999999) a0 l1 a3 c.1 false = some true := by
        rw [groupagelaw03_PackCut.j1, if_neg (by simp)]
        simp only [Option.bind_some, List.nil_append, List.length_nil]
        have hb1 : Bytes (c.1 ++ [a3]) := fun x hx => by
          rcases List.mem_append.1 hx with hx | hx
          · exact hbb x hx
          · rw [List.mem_singleton.1 hx]; exact h3
        rw [if_pos (by omega), if_pos (by omega), read_f ha hb1 (by simp; omega), Option.bind_some]
        by_cases h0 : (rcode a0 (c.1 ++ [a3])).2 = 0
        · obtain ⟨hg, _⟩ := rcode_ok hb1 h0
          obtain ⟨⟨l', e1, e2⟩, hag⟩ := fits_front hf hg (by simp)
          have hp : 0 < l'.length := List.length_pos_iff.2 e2
          have hg200 := hg.2.2.2.2
          obtain ⟨hpos, h43⟩ := again_last hag
          have hwr : wrap64 ((a0.size : Int) - 1) = ((a0.size - 1 : Nat) : Int) := by unfold wrap64; omega
          generalize (rcode a0 (c.1 ++ [a3])).1 = r at e1 hg200
          subst e1
          rw [List.length_append] at hg200
          rw [if_pos h0, if_pos (by rw [List.length_append]; omega), if_pos (by rw [hwr]; omega), if_pos (by rw [hwr]; omega), if_pos (h43 (by omega)), if_pos (by omega), if_pos (by rw [List.length_append]; omega)]
          rw [Int.toNat_natCast, List.take_left, own_f _ (by omega) (by omega), Option.bind_some, Option.bind_some, same3_f _ (by rw [List.length_map]; omega) (by rw [List.length_map]; omega)]
          rfl
        · rw [if_neg h0]
      rw [groupagelaw03_PackCut.j0, if_neg (by simp), if_pos (by omega), if_pos (by omega)]
      have hb1 : Bytes (c.1.take a2.toNat) := fun x hx => hbb x (List.mem_of_mem_take hx)
      rw [read_f ha hb1 (by rw [List.length_take]; omega), Option.bind_some]
      by_cases h0 : (rcode a0 (c.1.take a2.toNat)).2 = 0
      · obtain ⟨hg, _⟩ := rcode_ok hb1 h0
        have hd : c.1.drop a2.toNat ≠ [] := by
          intro h
          have := congrArg List.length h
          rw [List.length_drop, List.length_nil] at this
          omega
        obtain ⟨⟨l', e1, e2⟩, hag⟩ := fits_front (l := l1) (d := c.1.drop a2.toNat) hg (by rw [List.take_append_drop]; exact hf) hd
        have hp : 0 < l'.length := List.length_pos_iff.2 e2
        have hg200 := hg.2.2.2.2
        obtain ⟨hpos, h43⟩ := again_last hag
        have hwr : wrap64 ((a0.size : Int) - 1) = ((a0.size - 1 : Nat) : Int) := by unfold wrap64; omega
        generalize hr : (rcode a0 (c.1.take a2.toNat)).1 = r at e1 hg200
        have hll : r.length + l'.length = l1.length := by rw [e1, List.length_append]
        rw [if_pos h0, if_neg (by omega), own_f _ (by omega) (by omega), Option.bind_some, if_pos (by omega), if_pos (by omega), Int.toNat_natCast]
        have ht : l1.take r.length = r := by rw [e1, List.take_left]
        rw [ht, own_f _ (by omega) (by omega), Option.bind_some, same3_f _ (by rw [List.length_map]; omega) (by rw [List.length_map]; omega), Option.bind_some, if_pos rfl, if_pos (by rw [hwr]; omega), if_pos (by rw [hwr]; omega), h43 (by omega)]
        exact last
      · rw [if_neg h0]; exact last
  cases b with
  | true => rw [if_pos rfl]; exact skip
  | false =>
    rw [if_neg (by simp)]
    by_cases hc2 : c.2 = 0
    · rw [if_pos hc2]
      by_cases hn : a2 < 0
      · rw [if_pos hn]; exact skip
      · rw [if_neg hn]
        by_cases hm : a2 ≥ (c.1.length : Int)
        · rw [if_pos hm]; exact skip
        · rw [if_neg hm]; exact key rfl hc2 hn hm
    · rw [if_neg hc2]; exact skip
theorem said : Rows.PackCutUptoSaid := proved pure
#print axioms said
end Go.Proofs.YtalndlemejalaaaDoor.packCut
