/- pack.Write tells 'wcode': its walk by hand (up to 1048576 values). -/
import Derived.Test.YtalndlemejalaaaDoorGVals
import Derived.Test.YtalndlemejalaaaDoorBox
import Derived.Outline
import Derived.Deep.RegionHeld3
namespace Go.Proofs.YtalndlemejalaaaDoor.P
open Go.RowKit Go.Proofs.YtalndlemejalaaaDoor.Box Go.Proofs.YtalndlemejalaaaDoorW.PrintWords Go.Proofs.YtalndlemejalaaaDoorW.PrintLast Go.Proofs.YtalndlemejalaaaDoorW.PrintMore
set_option linter.unusedVariables false
set_option linter.unusedSimpArgs false

def pr34 (v : S34) : Int × ByteArray := (v.f0, v.f1)
def pack_Write.f (a0 : ByteArray) (l1 : List (S34)) : Option (List Int × Int) := if a0.size ≤ 140737488351232 ∧ l1.length ≤ 1048576 then some (wcode a0 (l1.map pr34)) else none

set_option maxHeartbeats 8000000 in
set_option maxRecDepth 100000 in
theorem write_walk (a0 : ByteArray) (A1 : Option Addr) (c1 : Nat) (l1 : List (S34)) (r1 : List Int) (r2 : Int) (s : ByteArray) (ag fine bad : Bool) (w : World) (hr1 : Kd.C k34 w A1 l1.length l1) (hc1 : l1.length ≤ c1)
    (hp : pack_parted.f a0 = some (s, ag, fine)) (hf : fine = true → 0 < s.size) (hn : l1.length ≤ 1048576) (hs : s.size ≤ 140737488351232)
    (hbad : ((ag && decide (l1.length % s.size ≠ 0)) || (!ag && decide (l1.length ≠ s.size))) = bad)
    (hres : (if fine = false then ([], 1) else if bad = true then ([], 2) else match wgo s 0 (l1.map pr34) [] with | none => ([], 2) | some b => if 200 < l1.length then ([], 4) else (b, (0 : Int))) = (r1, r2)) :
    Calls Tryd.prog 9 #[.string a0, .slice A1 l1.length c1] w fun e w' => ∃ v0_ : Value, e = .returned (.tuple #[v0_, .int .i64 r2]) ∧ Kd.R (Kd.int .u8) 5 w' w.heap.size (fun _ => True) v0_ r1 ∧ Below w.heap.size w w' := by
  have HP := Aside0.mk hp
  have HR := Aside0.mk hr1
  have HRES := Aside0.mk hres
  have HBAD := Aside0.mk hbad
  have HF := Aside0.mk hf
  clear hp hr1 hres hbad hf
  cases fine with
  | false =>
    go_enter Tryd.func9, Tryd.ntmps9
    go_wp2_with (first | (go_at_call 18; (with_reducible refine (pack_parted.calls a0 s ag false _ HP.out).mono ?_); rintro e w' ⟨rfl, hb⟩; have HB := Aside0.mk hb; clear hb))
    go_ret2
    obtain ⟨rfl, rfl⟩ := Prod.mk.inj HRES.out
    exact ⟨_, rfl, Kd.R_nil _ _ _ _ _, HB.out⟩
  | true =>
    have hs0 : 0 < s.size := HF.out rfl
    have hsne : ¬ ((s.size : Int) = 0) := by omega
    cases bad with
    | true =>
      cases ag
      · have hm : ¬ l1.length = s.size := by have := HBAD.out; simpa using this
        have hm1 : ((l1.length : Int) != (s.size : Int)) = true := by simp; omega
        clear hm
        go_enter Tryd.func9, Tryd.ntmps9
        go_wp2_with (first | (go_at_call 18; (with_reducible refine (pack_parted.calls a0 s false true _ HP.out).mono ?_); rintro e w' ⟨rfl, hb⟩; have HB := Aside0.mk hb; clear hb))
        go_ret2
        obtain ⟨rfl, rfl⟩ := Prod.mk.inj HRES.out
        exact ⟨_, rfl, Kd.R_nil _ _ _ _ _, HB.out⟩
      · have hm : ¬ l1.length % s.size = 0 := by have := HBAD.out; simpa using this
        have hm1 : ¬ ((l1.length : Int) % (s.size : Int) = 0) := by omega
        clear hm
        go_enter Tryd.func9, Tryd.ntmps9
        go_wp2_with (first | (go_at_call 18; (with_reducible refine (pack_parted.calls a0 s true true _ HP.out).mono ?_); rintro e w' ⟨rfl, hb⟩; have HB := Aside0.mk hb; clear hb))
        go_ret2
        obtain ⟨rfl, rfl⟩ := Prod.mk.inj HRES.out
        exact ⟨_, rfl, Kd.R_nil _ _ _ _ _, HB.out⟩
    | false =>
      have HRES2 : Aside0 ((match wgo s 0 (l1.map pr34) [] with | none => ([], 2) | some b => if 200 < l1.length then ([], 4) else (b, (0 : Int))) = (r1, r2)) := ⟨by have := HRES.out; simpa using this⟩
      clear HRES
      cases ag
      case' false =>
        have hm : l1.length = s.size := by have := HBAD.out; simpa using this
        have hm1 : ((l1.length : Int) != (s.size : Int)) = false := by simp; omega
        clear hm
      case' true =>
        have hm : l1.length % s.size = 0 := by have := HBAD.out; simpa using this
        have hm1 : (l1.length : Int) % (s.size : Int) = 0 := by omega
        clear hm
      all_goals
        go_enter Tryd.func9, Tryd.ntmps9
        go_wp2_with (first | (go_at_call 18; (with_reducible refine (pack_parted.calls a0 s _ true _ HP.out).mono ?_); rintro e w' ⟨rfl, hb⟩; have HB := Aside0.mk hb; clear hb))
        clear hm1
        go_loopw [9, 45] (fun b i wr => ∃ (k : Nat) (acc : List Int), i = .int .i64 k ∧ k ≤ l1.length ∧ Aside0 (wgo s k ((l1.map pr34).drop k) acc = wgo s 0 (l1.map pr34) []) ∧ Aside0 (acc.length ≤ k * 1010) ∧ Aside0 (Kd.R (Kd.int .u8) 5 wr w.heap.size (fun _ => True) b acc) ∧ Aside0 (Below w.heap.size w wr)) (fun _ i _ => l1.length - (intOf i).toNat)
        case atStart => exact ⟨0, [], rfl, Nat.zero_le _, ⟨rfl⟩, ⟨Nat.zero_le _⟩, ⟨Kd.R_nil _ _ _ _ _⟩, HB⟩
        case round =>
          clear HB
          obtain ⟨k, acc, rfl, hk, HA, HL, HO, HB⟩ := hrel
          by_cases hlt : k < l1.length
          · obtain ⟨ad, hA, hc0, hc1⟩ := at_T34 (Kd.C_below HR.out HB.out) (k : Int) (by omega) (by omega)
            simp only [Int.toNat_natCast] at hc0 hc1
            obtain ⟨f0, hf0⟩ : ∃ f0, f0 = (rd_T34 l1 (k : Int)).f0 := ⟨_, rfl⟩
            obtain ⟨f1, hf1⟩ : ∃ f1, f1 = (rd_T34 l1 (k : Int)).f1 := ⟨_, rfl⟩
            rw [← hf0] at hc0
            rw [← hf1] at hc1
            obtain ⟨c, hc⟩ : ∃ c, c = bt s ((k % s.size : Nat) : Int) := ⟨_, rfl⟩
            have hcr := bt_range s ((k % s.size : Nat) : Int)
            rw [← hc] at hcr
            have hstep : Aside0 (wgo s k ((l1.map pr34).drop k) acc = if fitB c (f0, f1) = true then wgo s (k + 1) ((l1.map pr34).drop (k + 1)) (acc ++ encV c (f0, f1)) else none) := ⟨by
              rw [List.drop_eq_getElem_cons (by simpa using hlt), wgo, ← hc]
              have : (l1.map pr34)[k]'(by simpa using hlt) = (f0, f1) := by
                rw [hf0, hf1, rd_T34, Int.toNat_natCast, List.getElem_map, List.getD_eq_getElem?_getD, List.getElem?_eq_getElem hlt]; rfl
              rw [this]⟩
            have hmod : k % s.size < s.size := Nat.mod_lt _ hs0
            obtain ⟨j, hj⟩ : ∃ j : Int, (k : Int) % (s.size : Int) = j := ⟨_, rfl⟩
            have hj2 : j = ((k % s.size : Nat) : Int) := by rw [← hj]; exact (Int.natCast_emod k s.size).symm
            have hj0 : 0 ≤ j := by omega
            have hj1 : j < (s.size : Int) := by omega
            have hbt : ∀ h : j.toNat < s.size, ((s[j.toNat]'h).toNat : Int) = c := fun h => by have := bt_at s j h; rw [hc, ← hj2]; exact this
            clear hj2 hmod
            have hbl := World.block_lt_of_cell? wr _ hc0
            clear hf0 hf1 hc
            subst hA
            cases hfit : fitB c (f0, f1) with
            | false =>
              go_wp2_with (first | (go_at_call 19; (with_reducible refine (pack_Value_fits.calls f0 f1 c false _ (by rw [fits_f, hfit])).mono ?_); rintro e w5 ⟨rfl, hb5⟩))
              go_ret2
              have hn2 : wgo s 0 (l1.map pr34) [] = none := by rw [← HA.out, hstep.out, if_neg (by rw [hfit]; simp)]
              have := HRES2.out
              rw [hn2] at this
              obtain ⟨rfl, rfl⟩ := Prod.mk.inj this
              exact ⟨_, rfl, Kd.R_nil _ _ _ _ _, below_then (below_alloc HB.out _) (below_size (below_alloc HB.out _)) hb5⟩
            | true =>
              have HA2 : Aside0 (wgo s (k + 1) ((l1.map pr34).drop (k + 1)) (acc ++ encV c (f0, f1)) = wgo s 0 (l1.map pr34) []) := ⟨by rw [← HA.out, hstep.out, if_pos hfit]⟩
              have HL2 : Aside0 ((acc ++ encV c (f0, f1)).length ≤ (k + 1) * 1010) := ⟨by have h1 := HL.out; have h2 := encV_len hfit; rw [List.length_append]; omega⟩
              have HFIT := Aside0.mk hfit
              clear HA hstep
              by_cases hc110 : c = 110
              · have hcb : (c == 110) = true := by simp [hc110]
                have hnum : Aside0 (pack_number.f 10 acc f0 = some (acc ++ encV c (f0, f1))) := ⟨by
                  have hv := HFIT.out
                  unfold fitB at hv
                  rw [if_pos hc110] at hv
                  simp only [Bool.and_eq_true, decide_eq_true_eq] at hv
                  have h1 := HL.out
                  rw [number_f hv.1.2 hv.2 acc (by omega), encV, if_pos hc110]⟩
                have HC := Aside0.mk hc110
                clear hc110 hfit
                go_wp2_with (first | (go_at_call 19; (with_reducible refine (pack_Value_fits.calls f0 f1 c true _ (by rw [fits_f, HFIT.out])).mono ?_); rintro e w5 ⟨rfl, hb5⟩; have B5 := Aside0.mk (below_then (below_alloc HB.out _) (below_size (below_alloc HB.out _)) hb5); have O5 := Aside0.mk (Kd.R_below (Kd.R_alloc HO.out _) hb5); have c5 : w5.cell? ⟨wr.heap.size, 0, none⟩ = some (.int .i64 f0) := (hb5.cell (p := ⟨wr.heap.size, 0, none⟩) (by simp)).trans (by simp)) | (go_at_call 20; (with_reducible refine (pack_number.calls 10 (fun _ => True) _ acc f0 (acc ++ encV c (f0, f1)) w _ B5.out O5.out hnum.out).mono ?_); rintro e w6 ⟨v6, rfl, hR6, hB6, hK6⟩))
                go_roundw
                case rel => exact ⟨k + 1, _, by go_num, by omega, HA2, HL2, ⟨Kd.R_mono hR6 (fun _ _ => trivial)⟩, ⟨hB6⟩⟩
                case measure => first | (simp [intOf]; done) | (simp [intOf]; omega)
              · have hcb : (c == 110) = false := by simp [hc110]
                have hsz : Aside0 (f1.size ≤ 1000) := ⟨by
                  have hv := HFIT.out
                  unfold fitB at hv
                  rw [if_neg hc110] at hv
                  simp only [Bool.and_eq_true, decide_eq_true_eq] at hv
                  exact hv.2⟩
                have hnum : Aside0 (pack_number.f 10 acc (f1.size : Int) = some (acc ++ numB (f1.size : Int))) := ⟨by
                  have h1 := HL.out
                  have h2 := hsz.out
                  rw [number_f (by omega) (by omega) acc (by omega)]⟩
                have HE : Aside0 (encV c (f0, f1) = numB (f1.size : Int) ++ bytesOf f1) := ⟨by rw [encV, if_neg hc110]⟩
                clear hc110 hfit
                go_wp2_with (first | (go_at_call 19; (with_reducible refine (pack_Value_fits.calls f0 f1 c true _ (by rw [fits_f, HFIT.out])).mono ?_); rintro e w5 ⟨rfl, hb5⟩; have B5 := Aside0.mk (below_then (below_alloc HB.out _) (below_size (below_alloc HB.out _)) hb5); have O5 := Aside0.mk (Kd.R_below (Kd.R_alloc HO.out _) hb5); have c5 : w5.cell? ⟨wr.heap.size, 1, none⟩ = some (.string f1) := (hb5.cell (p := ⟨wr.heap.size, 1, none⟩) (by simp)).trans (by simp)))
                have hk5 : w5.heap[wr.heap.size]? = some (.cells #[.int .i64 f0, .string f1] 34 (0, 0)) := (hb5.block wr.heap.size (by simp)).trans (heap_alloc_new _ _)
                have l5 : wr.heap.size < w5.heap.size := (Array.getElem?_eq_some_iff.1 hk5).1
                have T5 := Aside0.mk (Kd.R_types (ok := fun _ => True) O5.out hk5 (by decide))
                have K5 := Aside0.mk hk5
                clear hk5 O5 HO HB
                go_region_held3 (fun W => W.cell? ⟨wr.heap.size, 1, none⟩ = some (.string f1)) (first | go_keep | assumption) ((first | (go_at_call 20; (with_reducible refine (pack_number.calls 10 (fun k_ => True ∧ k_ ≠ wr.heap.size) _ acc (f1.size : Int) (acc ++ numB (f1.size : Int)) w _ (below_drew B5.out) (Kd.R_drew T5.out) hnum.out).mono ?_); rintro e w6 ⟨v6, rfl, hR6, hB6, hK6⟩; have c6 : w6.cell? ⟨wr.heap.size, 1, none⟩ = some (.string f1) := cell_of_heap (hK6.2 wr.heap.size (by simpa using l5) (by simp)) (by simpa using c5); have R6 := Aside0.mk hR6; have B6 := Aside0.mk hB6; clear hR6 hB6 hK6) | (refine step_append_str (w0 := w) w.heap.size rfl (.tmp 70) (.tmp 72) 25 9 5 rfl Tryd.underlying25 Tryd.underlying9 info5 v6 (acc ++ numB (f1.size : Int)) f1 rfl rfl (Kd.own_of_R R6.out) B6.out (below_size B6.out) (by have h1 := HL2.out; rw [HE.out, ← List.append_assoc] at h1; simp only [List.length_append, bytesOf_length] at h1 ⊢; omega) ?_; intro v7 w7 ho7 hb7 hg7; have c7 : w7.cell? ⟨wr.heap.size, 1, none⟩ = some (.string f1) := cell_of_heap (hg7.block wr.heap.size (World.block_lt_of_cell? w6 _ c6) (fun he => (R6.out.1 _ he.symm).elim (fun h1 => h1.2 rfl) (fun h1 => by simp at h1; omega))) c6; have R7 := Aside0.mk (Kd.R_of_own (h1 := fun _ => rfl) (ok := fun _ => True) (enc := Value.int .u8) ho7 (fun _ _ => trivial)); have B7 := Aside0.mk hb7; clear ho7 hb7 hg7)))
                go_wp2
                go_roundw
                case rel => exact ⟨k + 1, _, by go_num, by omega, HA2, HL2, ⟨by rw [HE.out, ← List.append_assoc]; exact R7.out⟩, B7⟩
                case measure => first | (simp [intOf]; done) | (simp [intOf]; omega)
          · have hke : k = l1.length := by omega
            have hn2 : Aside0 (wgo s 0 (l1.map pr34) [] = some acc) := ⟨by rw [← HA.out, List.drop_of_length_le (by simp; omega), wgo]⟩
            subst hke
            by_cases h200 : 200 < l1.length
            · go_wp2
              go_ret2
              have := HRES2.out
              rw [hn2.out] at this
              simp only [h200, if_true] at this
              obtain ⟨rfl, rfl⟩ := Prod.mk.inj this
              exact ⟨_, rfl, Kd.R_nil _ _ _ _ _, HB.out⟩
            · go_wp2
              go_ret2
              have := HRES2.out
              rw [hn2.out] at this
              simp only [h200, if_false] at this
              obtain ⟨rfl, rfl⟩ := Prod.mk.inj this
              exact ⟨_, rfl, HO.out, HB.out⟩
theorem pack_Write.calls (a0 : ByteArray) (A1 : Option Addr) (c1 : Nat) (l1 : List (S34)) (r1 : List Int) (r2 : Int) (w : World) (hr1 : Kd.C k34 w A1 l1.length l1) (hc1 : l1.length ≤ c1) (h : pack_Write.f a0 l1 = some (r1, r2)) :
    Calls Tryd.prog 9 #[.string a0, .slice A1 l1.length c1] w fun e w' => ∃ v0_ : Value, e = .returned (.tuple #[v0_, .int .i64 r2]) ∧ Kd.R (Kd.int .u8) 5 w' w.heap.size (fun _ => True) v0_ r1 ∧ Below w.heap.size w w' := by
  unfold pack_Write.f at h
  split at h
  · rename_i hc
    have hsz := letters_size a0
    refine write_walk a0 A1 c1 l1 r1 r2 (lettersOf a0).1 (lettersOf a0).2 (fineB a0) (countBad a0 l1.length) w hr1 hc1 (parted_f a0 hc.1) ?_ hc.2 (by omega) rfl ?_
    · intro hf
      unfold fineB at hf
      simp only [Bool.and_eq_true, decide_eq_true_eq] at hf
      exact hf.1.2
    · rw [← Option.some.inj h, wcode]
      simp only [List.length_map]
      rfl
  · cases h
end Go.Proofs.YtalndlemejalaaaDoor.P
