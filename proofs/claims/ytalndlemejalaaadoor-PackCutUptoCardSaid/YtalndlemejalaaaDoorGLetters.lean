/- The reference's 'Letters' tells a form's letters, whether they come again, and whether it may be: its walk by hand. -/
import Derived.Test.YtalndlemejalaaaDoorGPlain
import Derived.Outline
namespace Go.Proofs.YtalndlemejalaaaDoor.P
open Go.RowKit Go.Proofs.YtalndlemejalaaaDoorW.PrintWords Go.Proofs.YtalndlemejalaaaDoorW.PrintLast Go.Proofs.YtalndlemejalaaaDoorW.PrintMore
set_option linter.unusedVariables false
set_option linter.unusedSimpArgs false

def groupageref03_Letters.f (a0 : ByteArray) : Option (ByteArray × Bool × Bool) := if a0.size ≤ 140737488351232 then some ((lettersOf a0).1, (lettersOf a0).2, fineB a0) else none
def okC (c : UInt8) : Bool := c == 110 || c == 116
def okTo (F : Bool) (s : ByteArray) (k : Nat) : Bool := F && (s.data.toList.take k).all okC
theorem okTo_zero (F : Bool) (s : ByteArray) : F = okTo F s 0 := by simp [okTo]
theorem okTo_succ (F : Bool) (s : ByteArray) (k : Nat) (h : k < s.size) : okTo F s (k + 1) = (okTo F s k && okC s[k]) := by
  unfold okTo
  have e : s.data.toList.take (k + 1) = s.data.toList.take k ++ [s[k]] := by
    rw [List.take_succ_eq_append_getElem (by simpa using h)]; rfl
  rw [e]; simp [Bool.and_assoc]
theorem okTo_end (F : Bool) (s : ByteArray) : okTo F s s.size = (F && s.data.toList.all okC) := by
  unfold okTo; rw [List.take_of_length_le (by simp)]
theorem okC_true {c : UInt8} (h : ((c.toNat : Int) == 110) = true ∨ ((c.toNat : Int) == 116) = true) : okC c = true := by
  unfold okC
  have e : ∀ n : Nat, n < 256 → ((c.toNat : Int) == (n : Int)) = true → c = UInt8.ofNat n := by
    intro n hn hc
    have h3 : (c.toNat : Int) = (n : Int) := by simpa using hc
    have : c.toNat = n := by omega
    rw [← this]; simp
  rcases h with h | h
  · rw [e 110 (by omega) h]; decide
  · rw [e 116 (by omega) h]; decide
theorem okC_false {c : UInt8} (h1 : ((c.toNat : Int) == 110) = false) (h2 : ((c.toNat : Int) == 116) = false) : okC c = false := by
  unfold okC
  have e1 : c ≠ 110 := by rintro rfl; simp at h1
  have e2 : c ≠ 116 := by rintro rfl; simp at h2
  simp [e1, e2]

theorem bl_nil {a : ByteArray} : a.toList = [] ↔ a.size = 0 := by
  rw [ByteArray.toList_eq]
  constructor
  · intro h; have h1 := congrArg List.length h; simpa using h1
  · intro h; apply List.eq_nil_of_length_eq_zero; simpa using h

theorem pos_dec (S : ByteArray) : decide (0 < S.size) = !decide (S.toList = []) := by
  by_cases h : S.size = 0
  · rw [decide_eq_false (by omega), decide_eq_true (bl_nil.2 h)]; rfl
  · rw [decide_eq_true (by omega), decide_eq_false (fun e => h (bl_nil.1 e))]; rfl

set_option maxHeartbeats 8000000 in
set_option maxRecDepth 100000 in
theorem letters_nil (a0 S : ByteArray) (F r : Bool) (w : World) (hs : a0.size ≤ 140737488351232) (hr : (F && a0.data.toList.all okC) = r) (hz : a0.size = 0) (hF : F = false) :
    Calls Tryd.prog 21 #[.string a0] w fun e w' => e = .returned (.tuple #[.string a0, .bool false, .bool r]) ∧ Drawn0 w w' := by
  have e0 : a0.toList = [] := bl_nil.2 hz
  have HZ := Aside0.mk hz
  have HF := Aside0.mk hF
  clear hF
  have HR := Aside0.mk hr
  clear hr
  clear hz
  by_cases h20 : a0.size ≤ 20
  all_goals
    go_enter Tryd.func21, Tryd.ntmps21
    go_wp2
    go_loop [7, 8] (fun f i => ∃ k : Nat, k ≤ a0.size ∧ i = .int .i64 k ∧ f = .bool (okTo F a0 k)) (fun _ i => a0.size - (intOf i).toNat)
    case atStart => exact ⟨0, Nat.zero_le _, rfl, congrArg Value.bool (by rw [← okTo_zero, HF.out]; try rfl)⟩
    case round =>
      obtain ⟨k, hk, rfl, rfl⟩ := hrel
      by_cases hlt : k < a0.size
      · have HS := Aside0.mk (okTo_succ F a0 k hlt)
        obtain hb2 | hb2 : okTo F a0 k = true ∨ okTo F a0 k = false := by cases okTo F a0 k <;> simp
        · by_cases h1 : (((a0[k]'hlt).toNat : Int) == 110) = true
          · go_wp2
            go_round
            case rel => exact ⟨k + 1, by omega, by go_num, by rw [HS.out, okC_true (Or.inl h1), hb2]; rfl⟩
            case measure => first | (simp [intOf]; done) | (simp [intOf]; omega)
          · replace h1 := Bool.eq_false_iff.2 h1
            by_cases h2 : (((a0[k]'hlt).toNat : Int) == 116) = true
            · go_wp2
              go_round
              case rel => exact ⟨k + 1, by omega, by go_num, by rw [HS.out, okC_true (Or.inr h2), hb2]; rfl⟩
              case measure => first | (simp [intOf]; done) | (simp [intOf]; omega)
            · replace h2 := Bool.eq_false_iff.2 h2
              go_wp2
              go_round
              case rel => exact ⟨k + 1, by omega, by go_num, by rw [HS.out, okC_false h1 h2, hb2]; rfl⟩
              case measure => first | (simp [intOf]; done) | (simp [intOf]; omega)
        · go_wp2
          go_round
          case rel => exact ⟨k + 1, by omega, by go_num, by rw [HS.out, hb2]; rfl⟩
          case measure => first | (simp [intOf]; done) | (simp [intOf]; omega)
      · obtain rfl : k = a0.size := by omega
        have HE := Aside0.mk ((okTo_end F a0).trans HR.out)
        go_wp2
        go_ret3
        exact ⟨by first | (rw [HE.out]; done) | (rw [HE.out]; rfl), Drawn0.refl _⟩

set_option maxHeartbeats 8000000 in
set_option maxRecDepth 100000 in
theorem letters_plus (a0 S : ByteArray) (F r : Bool) (w : World) (hs : a0.size ≤ 140737488351232) (hr : (F && S.data.toList.all okC) = r) (hz : 0 < a0.size) (hb : (((a0[a0.size - 1]'(by omega)).toNat : Int) == 43) = true) (hS : a0.extract 0 (a0.size - 1) = S) (hF : F = (decide (a0.size ≤ 20) && decide (0 < S.size))) :
    Calls Tryd.prog 21 #[.string a0] w fun e w' => e = .returned (.tuple #[.string S, .bool true, .bool r]) ∧ Drawn0 w w' := by
  have e0 : ¬ (a0.toList = []) := fun h => by have := bl_nil.1 h; omega
  have e1 : (!a0.toList.isEmpty) = true := by simp [e0]
  have hsS : S.size ≤ 140737488351232 := by rw [← hS]; simp; omega
  have HSZ := Aside0.mk hS
  have HF := Aside0.mk hF
  clear hF
  have HR := Aside0.mk hr
  clear hr
  by_cases h20 : a0.size ≤ 20
  all_goals
  by_cases hS0 : S.toList = []
  all_goals
    have H0 := Aside0.mk hS0
    have e2 : S.toList.isEmpty = decide (S.toList = []) := by cases h : S.toList <;> simp
    have HD := Aside0.mk (pos_dec S)
    simp only [hS0, decide_true, decide_false] at e2
    go_enter Tryd.func21, Tryd.ntmps21
    go_wp2
    go_loop [7, 8] (fun f i => ∃ k : Nat, k ≤ S.size ∧ i = .int .i64 k ∧ f = .bool (okTo F S k)) (fun _ i => S.size - (intOf i).toNat)
    case atStart => exact ⟨0, Nat.zero_le _, rfl, congrArg Value.bool (by rw [← okTo_zero, HF.out]; rw [HD.out]; simp [h20, H0.out])⟩
    case round =>
      obtain ⟨k, hk, rfl, rfl⟩ := hrel
      by_cases hlt : k < S.size
      · have HS := Aside0.mk (okTo_succ F S k hlt)
        obtain hb2 | hb2 : okTo F S k = true ∨ okTo F S k = false := by cases okTo F S k <;> simp
        · by_cases h1 : (((S[k]'hlt).toNat : Int) == 110) = true
          · go_wp2
            go_round
            case rel => exact ⟨k + 1, by omega, by go_num, by rw [HS.out, okC_true (Or.inl h1), hb2]; rfl⟩
            case measure => first | (simp [intOf]; done) | (simp [intOf]; omega)
          · replace h1 := Bool.eq_false_iff.2 h1
            by_cases h2 : (((S[k]'hlt).toNat : Int) == 116) = true
            · go_wp2
              go_round
              case rel => exact ⟨k + 1, by omega, by go_num, by rw [HS.out, okC_true (Or.inr h2), hb2]; rfl⟩
              case measure => first | (simp [intOf]; done) | (simp [intOf]; omega)
            · replace h2 := Bool.eq_false_iff.2 h2
              go_wp2
              go_round
              case rel => exact ⟨k + 1, by omega, by go_num, by rw [HS.out, okC_false h1 h2, hb2]; rfl⟩
              case measure => first | (simp [intOf]; done) | (simp [intOf]; omega)
        · go_wp2
          go_round
          case rel => exact ⟨k + 1, by omega, by go_num, by rw [HS.out, hb2]; rfl⟩
          case measure => first | (simp [intOf]; done) | (simp [intOf]; omega)
      · obtain rfl : k = S.size := by omega
        have HE := Aside0.mk ((okTo_end F S).trans HR.out)
        go_wp2
        go_ret3
        exact ⟨by first | (rw [HE.out]; done) | (rw [HE.out]; rfl), Drawn0.refl _⟩

set_option maxHeartbeats 8000000 in
set_option maxRecDepth 100000 in
theorem letters_none (a0 S : ByteArray) (F r : Bool) (w : World) (hs : a0.size ≤ 140737488351232) (hr : (F && a0.data.toList.all okC) = r) (hz : 0 < a0.size) (hb : (((a0[a0.size - 1]'(by omega)).toNat : Int) == 43) = false) (hF : F = (decide (a0.size ≤ 20) && decide (0 < a0.size))) :
    Calls Tryd.prog 21 #[.string a0] w fun e w' => e = .returned (.tuple #[.string a0, .bool false, .bool r]) ∧ Drawn0 w w' := by
  have e0 : ¬ (a0.toList = []) := fun h => by have := bl_nil.1 h; omega
  have e1 : (!a0.toList.isEmpty) = true := by simp [e0]
  have HF := Aside0.mk hF
  clear hF
  have HR := Aside0.mk hr
  clear hr
  by_cases h20 : a0.size ≤ 20
  all_goals
    go_enter Tryd.func21, Tryd.ntmps21
    go_wp2
    go_loop [7, 8] (fun f i => ∃ k : Nat, k ≤ a0.size ∧ i = .int .i64 k ∧ f = .bool (okTo F a0 k)) (fun _ i => a0.size - (intOf i).toNat)
    case atStart => exact ⟨0, Nat.zero_le _, rfl, congrArg Value.bool (by rw [← okTo_zero, HF.out]; simp [h20]; try omega)⟩
    case round =>
      obtain ⟨k, hk, rfl, rfl⟩ := hrel
      by_cases hlt : k < a0.size
      · have HS := Aside0.mk (okTo_succ F a0 k hlt)
        obtain hb2 | hb2 : okTo F a0 k = true ∨ okTo F a0 k = false := by cases okTo F a0 k <;> simp
        · by_cases h1 : (((a0[k]'hlt).toNat : Int) == 110) = true
          · go_wp2
            go_round
            case rel => exact ⟨k + 1, by omega, by go_num, by rw [HS.out, okC_true (Or.inl h1), hb2]; rfl⟩
            case measure => first | (simp [intOf]; done) | (simp [intOf]; omega)
          · replace h1 := Bool.eq_false_iff.2 h1
            by_cases h2 : (((a0[k]'hlt).toNat : Int) == 116) = true
            · go_wp2
              go_round
              case rel => exact ⟨k + 1, by omega, by go_num, by rw [HS.out, okC_true (Or.inr h2), hb2]; rfl⟩
              case measure => first | (simp [intOf]; done) | (simp [intOf]; omega)
            · replace h2 := Bool.eq_false_iff.2 h2
              go_wp2
              go_round
              case rel => exact ⟨k + 1, by omega, by go_num, by rw [HS.out, okC_false h1 h2, hb2]; rfl⟩
              case measure => first | (simp [intOf]; done) | (simp [intOf]; omega)
        · go_wp2
          go_round
          case rel => exact ⟨k + 1, by omega, by go_num, by rw [HS.out, hb2]; rfl⟩
          case measure => first | (simp [intOf]; done) | (simp [intOf]; omega)
      · obtain rfl : k = a0.size := by omega
        have HE := Aside0.mk ((okTo_end F a0).trans HR.out)
        go_wp2
        go_ret3
        exact ⟨by first | (rw [HE.out]; done) | (rw [HE.out]; rfl), Drawn0.refl _⟩


theorem last_of (a0 : ByteArray) (h : 0 < a0.size) : a0.data.toList.getLast? = some (a0[a0.size - 1]'(by omega)) := by
  rw [List.getLast?_eq_getElem?, List.getElem?_eq_getElem (by simpa using Nat.sub_lt (show 0 < a0.data.toList.length by simpa using h) (by omega))]
  rfl

theorem groupageref03_Letters.calls (a0 : ByteArray) (r1 : ByteArray) (r2 : Bool) (r3 : Bool) (w : World) (h : groupageref03_Letters.f a0 = some (r1, r2, r3)) :
    Calls Tryd.prog 21 #[.string a0] w fun e w' => e = .returned (.tuple #[.string r1, .bool r2, .bool r3]) ∧ Drawn0 w w' := by
  unfold groupageref03_Letters.f at h
  split at h
  · rename_i hc
    simp only [Option.some.injEq, Prod.mk.injEq] at h
    obtain ⟨rfl, rfl, rfl⟩ := h
    by_cases hz : a0.size = 0
    · have hl : a0.data.toList = [] := by
        apply List.eq_nil_of_length_eq_zero; simpa using hz
      have e1 : lettersOf a0 = (a0, false) := by unfold lettersOf; rw [hl]; simp
      have e2 : fineB a0 = false := by unfold fineB; rw [e1]; simp [hz]
      rw [e1, e2]
      refine (letters_nil a0 a0 false false w hc rfl hz rfl).mono ?_
      rintro e w' ⟨rfl, hd⟩
      exact ⟨rfl, hd⟩
    · have hp : 0 < a0.size := by omega
      have hlast := last_of a0 hp
      have key : ∀ c : UInt8, (c = 43) ↔ ((c.toNat : Int) == 43) = true := by
        intro c
        constructor
        · rintro rfl; rfl
        · intro hc2
          have h3 : (c.toNat : Int) = 43 := by simpa using hc2
          have : c.toNat = 43 := by omega
          exact UInt8.toNat_inj.1 this
      by_cases h43 : a0[a0.size - 1]'(by omega) = 43
      · have e1 : lettersOf a0 = (a0.extract 0 (a0.size - 1), true) := by unfold lettersOf; rw [hlast, h43]; simp
        rw [e1]
        have hb := (key _).1 h43
        refine (letters_plus a0 (a0.extract 0 (a0.size - 1)) (decide (a0.size ≤ 20) && decide (0 < (a0.extract 0 (a0.size - 1)).size)) (fineB a0) w hc (by unfold fineB; rw [e1]; rfl) hp hb rfl rfl).mono ?_
        rintro e w' ⟨rfl, hd⟩
        exact ⟨rfl, hd⟩
      · have e1 : lettersOf a0 = (a0, false) := by
          unfold lettersOf; rw [hlast, if_neg]; intro hh; exact h43 (Option.some.inj hh)
        rw [e1]
        have hb : (((a0[a0.size - 1]'(by omega)).toNat : Int) == 43) = false := by
          rw [Bool.eq_false_iff]; intro hh; exact h43 ((key _).2 hh)
        refine (letters_none a0 a0 (decide (a0.size ≤ 20) && decide (0 < a0.size)) (fineB a0) w hc (by unfold fineB; rw [e1]; rfl) hp hb rfl).mono ?_
        rintro e w' ⟨rfl, hd⟩
        exact ⟨rfl, hd⟩
  · cases h
end Go.Proofs.YtalndlemejalaaaDoor.P
