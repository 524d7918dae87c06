/- What Write lays, of values in a form, as a plain Lean function (of pairs: a number, a text), and what 'parted' tells. -/
import Derived.Test.YtalndlemejalaaaDoorGLetters
namespace Go.Proofs.YtalndlemejalaaaDoor.P
open Go.RowKit Go.Proofs.YtalndlemejalaaaDoorW.PrintWords Go.Proofs.YtalndlemejalaaaDoorW.PrintLast Go.Proofs.YtalndlemejalaaaDoorW.PrintMore
set_option linter.unusedVariables false

/-- Does a value stand at a letter? -/
def fitB (c : Int) (v : Int × ByteArray) : Bool :=
  if c = 110 then decide (v.2.size = 0) && decide (-4611686018427387904 ≤ v.1) && decide (v.1 ≤ 4611686018427387904) else decide (v.1 = 0) && decide (v.2.size ≤ 1000)
/-- A value's bytes at a letter. -/
def encV (c : Int) (v : Int × ByteArray) : List Int := if c = 110 then numB v.1 else numB (v.2.size : Int) ++ bytesOf v.2
/-- Values' bytes behind acc, from place i on; none: a value that isn't one of its letter. -/
def wgo (s : ByteArray) : Nat → List (Int × ByteArray) → List Int → Option (List Int)
  | _, [], acc => some acc
  | i, v :: t, acc => if fitB (bt s ((i % s.size : Nat) : Int)) v = true then wgo s (i + 1) t (acc ++ encV (bt s ((i % s.size : Nat) : Int)) v) else none
def countBad (a0 : ByteArray) (n : Nat) : Bool :=
  ((lettersOf a0).2 && decide (n % (lettersOf a0).1.size ≠ 0)) || (!(lettersOf a0).2 && decide (n ≠ (lettersOf a0).1.size))
/-- What Write tells. -/
def wcode (a0 : ByteArray) (l : List (Int × ByteArray)) : List Int × Int :=
  if fineB a0 = false then ([], 1) else if countBad a0 l.length = true then ([], 2)
  else match wgo (lettersOf a0).1 0 l [] with | none => ([], 2) | some b => if 200 < l.length then ([], 4) else (b, 0)

theorem fits_f (f0 : Int) (f1 : ByteArray) (c : Int) : pack_Value_fits.f f0 f1 c = some (fitB c (f0, f1)) := by
  unfold pack_Value_fits.f fitB
  by_cases hc : c = 110
  · rw [if_pos hc, if_pos hc]
    by_cases h1 : f1.toList = []
    · rw [if_pos h1]
      have := bl_nil.1 h1
      by_cases h2 : f0 ≥ -4611686018427387904
      · rw [if_pos h2]; simp [this, h2]
      · rw [if_neg h2]; simp [h2]
    · rw [if_neg h1]
      have : ¬ f1.size = 0 := fun h => h1 (bl_nil.2 h)
      simp only [this, decide_false, Bool.false_and]
  · rw [if_neg hc, if_neg hc]
    by_cases h1 : f0 = 0
    · rw [if_pos h1]; simp only [h1, decide_true, Bool.true_and]; congr 2; apply propext; omega
    · rw [if_neg h1]; simp [h1]
theorem may_f (f0 : Int) (f1 : ByteArray) (c : Int) : groupageref03_may.f f0 f1 c = some (fitB c (f0, f1)) := fits_f f0 f1 c
theorem encV_len {c : Int} {v : Int × ByteArray} (h : fitB c v = true) : (encV c v).length ≤ 1010 := by
  unfold fitB at h; unfold encV
  split at h
  · rename_i hc
    rw [if_pos hc]
    simp only [Bool.and_eq_true, decide_eq_true_eq] at h
    have := numB_len h.1.2 h.2; omega
  · rename_i hc
    rw [if_neg hc]
    simp only [Bool.and_eq_true, decide_eq_true_eq] at h
    have := numB_len (n := (v.2.size : Int)) (by omega) (by omega)
    rw [List.length_append, bytesOf_length]; omega

theorem all_of_drop {p : UInt8 → Bool} : ∀ l : List UInt8, (∀ x ∈ l.dropWhile p, p x = true) → ∀ x ∈ l, p x = true
  | [], _ => by simp
  | a :: t, h => by
    by_cases ha : p a = true
    · rw [List.dropWhile_cons_of_pos ha] at h
      intro x hx
      rcases List.mem_cons.1 hx with rfl | hx
      · exact ha
      · exact all_of_drop t h x hx
    · rw [List.dropWhile_cons_of_neg ha] at h
      exact absurd (h a List.mem_cons_self) ha
theorem drop_nil_of_all {p : UInt8 → Bool} (l : List UInt8) (h : ∀ x ∈ l, p x = true) : l.dropWhile p = [] := by
  induction l with
  | nil => rfl
  | cons a t ih => rw [List.dropWhile_cons_of_pos (h a List.mem_cons_self)]; exact ih (fun x hx => h x (List.mem_cons_of_mem _ hx))
theorem all_of_drop_nil {p : UInt8 → Bool} (l : List UInt8) (h : l.dropWhile p = []) : ∀ x ∈ l, p x = true := all_of_drop l (by rw [h]; simp)
theorem trim_nil (l : List UInt8) : (Lib.trimS l [110, 116] = []) ↔ l.all okC = true := by
  have hp : (fun x => ([110, 116] : List UInt8).contains x) = okC := by
    funext x; show ((x == 110) || ((x == 116) || false)) = _; rw [Bool.or_false]; rfl
  unfold Lib.trimS Lib.trimLeftS Lib.trimRightS
  rw [hp, List.all_eq_true]
  constructor
  · intro h
    have h1 := all_of_drop_nil _ h
    have h2 := all_of_drop (p := okC) l.reverse (fun x hx => h1 x (by simpa using hx))
    exact fun x hx => h2 x (by simpa using hx)
  · intro h
    rw [drop_nil_of_all l.reverse (fun x hx => h x (by simpa using hx))]; rfl
theorem last_drop (a0 : ByteArray) (h : 0 < a0.size) : ((a0.extract (a0.size - 1) a0.size).toList == ([43] : List UInt8)) = decide (a0.data.toList.getLast? = some 43) := by
  have e : (a0.extract (a0.size - 1) a0.size).toList = [a0[a0.size - 1]'(by omega)] := by
    rw [ByteArray.toList_eq, Lib.extract_to_end]
    have hl : a0.data.toList.length = a0.size := by simp
    rw [List.drop_eq_getElem_cons (by omega), List.drop_eq_nil_of_le (by omega)]
    rfl
  rw [e, last_of a0 h]
  by_cases h43 : a0[a0.size - 1]'(by omega) = 43
  · rw [h43]; decide
  · simp [h43]
theorem suffix_f (a0 : ByteArray) (h : a0.size ≤ 140737488351232) : strings_CutSuffix.f a0 (⟨#[43]⟩ : ByteArray) = some (lettersOf a0) := by
  have e1 : (((⟨#[43]⟩ : ByteArray).size : Nat) : Int) = 1 := rfl
  have e2 : (⟨#[43]⟩ : ByteArray).toList = [43] := by rw [ByteArray.toList_eq]
  unfold strings_CutSuffix.f stringslite_CutSuffix.f stringslite_HasSuffix.f lettersOf
  simp only [e1, e2]
  by_cases hz : a0.size = 0
  · have hl : a0.data.toList = [] := by apply List.eq_nil_of_length_eq_zero; simpa using hz
    rw [if_neg (by omega), hl]; simp
  · have hw : wrap64 ((a0.size : Int) - 1) = ((a0.size - 1 : Nat) : Int) := by unfold wrap64; omega
    rw [if_pos (by omega), hw, if_pos (by omega), if_pos (by omega), Int.toNat_natCast, last_drop a0 (by omega)]
    simp only [Option.bind_some, decide_eq_true_eq]
    by_cases h43 : a0.data.toList.getLast? = some 43
    · rw [if_pos h43, if_pos h43, if_pos (by omega), if_pos (by omega)]; rfl
    · rw [if_neg h43, if_neg h43]; rfl
theorem letters_size (a0 : ByteArray) : (lettersOf a0).1.size ≤ a0.size := by
  unfold lettersOf; split
  · simp
  · exact Nat.le_refl _
theorem parted_f (a0 : ByteArray) (h : a0.size ≤ 140737488351232) : pack_parted.f a0 = some ((lettersOf a0).1, (lettersOf a0).2, fineB a0) := by
  have hs := letters_size a0
  unfold pack_parted.f fineB
  rw [suffix_f a0 h]
  simp only [Option.bind_some]
  by_cases h1 : (lettersOf a0).1.toList = []
  · rw [if_pos h1]
    have := bl_nil.1 h1
    simp [this]
  · rw [if_neg h1]
    have h2 : 0 < (lettersOf a0).1.size := by have h3 : ¬ (lettersOf a0).1.size = 0 := fun h4 => h1 (bl_nil.2 h4); omega
    by_cases h20 : a0.size ≤ 20
    · rw [if_pos (by omega)]
      unfold strings_Trim.f
      rw [if_pos ⟨by omega, rfl⟩]
      simp only [Option.bind_some, ByteArray.toList_mk, h20, h2, decide_true, Bool.true_and]
      congr 3
      rw [Bool.eq_iff_iff, beq_iff_eq]
      exact trim_nil _
    · rw [if_neg (by omega)]; simp [h20]
end Go.Proofs.YtalndlemejalaaaDoor.P
