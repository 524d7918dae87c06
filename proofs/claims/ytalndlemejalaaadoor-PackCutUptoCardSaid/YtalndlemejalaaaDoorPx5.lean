-- PRINTED by print.py (a twelfth state) out of the translation. Not trusted: Lean checks it.
import Derived.Test.YtalndlemejalaaaDoorPx0
import Derived.Test.YtalndlemejalaaaDoorPx2
import Derived.Test.YtalndlemejalaaaDoorPx3
import Derived.Test.YtalndlemejalaaaDoorPx4
import Derived.Test.YtalndlemejalaaaDoorGLetters
import Derived.Test.YtalndlemejalaaaDoorGRead
namespace Go.Proofs.YtalndlemejalaaaDoor.P
open Go.RowKit Go.Proofs.YtalndlemejalaaaDoorW.PrintWords Go.Proofs.YtalndlemejalaaaDoorW.PrintLast Go.Proofs.YtalndlemejalaaaDoorW.PrintMore
attribute [local go_sem] max2_int min2_int max_two min_two max_three min_three max_four min_four   -- for this text's walks alone
set_option linter.unusedVariables false
set_option linter.unusedSimpArgs false

attribute [local go_sem high] eqA51
/-! ### groupageref03_Read: function 16 -/
mutual
def groupageref03_Read.l0 : Nat → List Int → ByteArray → Bool → List (S51) → Int → Option ((List (S51)) × Int)
  | 0, _, _, _, _, _ => none
  | k + 1, x1, x6, x7, x9, x10 => if x7 = true then (if (x6.size : Int) = 0 then (none) else (if ((x9.length : Int) % (x6.size : Int)) = 0 then (if x10 = (x1.length : Int) then (groupageref03_Read.j1 k x1 x6 x7 x9 x10 (x9.length : Int) true) else (groupageref03_Read.j1 k x1 x6 x7 x9 x10 (x9.length : Int) false)) else (groupageref03_Read.j1 k x1 x6 x7 x9 x10 (x9.length : Int) false))) else (groupageref03_Read.j1 k x1 x6 x7 x9 x10 (x9.length : Int) ((x9.length : Int) == (x6.size : Int)))
def groupageref03_Read.j1 : Nat → List Int → ByteArray → Bool → List (S51) → Int → Int → Bool → Option ((List (S51)) × Int)
  | 0, _, _, _, _, _, _, _ => none
  | k + 1, x1, x6, x7, x9, x10, x11, x52 => if x52 = true then (if x10 < (x1.length : Int) then (some (([] : List (S51)), 2)) else (if (x9.length : Int) > 200 then (some (([] : List (S51)), 4)) else (some (x9, 0)))) else ((groupageref03_take.f k x1 x10).bind fun bt191 => (if bt191.2.2 = 0 then (if (x6.size : Int) = 0 then (none) else (if 0 ≤ (Int.tmod x11 (x6.size : Int)) then (if (Int.tmod x11 (x6.size : Int)) < (x6.size : Int) then (if (bt x6 (Int.tmod x11 (x6.size : Int))) = 110 then (if x9.length < 5864062014805 then (groupageref03_Read.l0 k x1 x6 x7 (x9 ++ [(⟨bt191.1, (⟨#[]⟩ : ByteArray)⟩ : S51)]) bt191.2.1) else (none)) else (if bt191.1 < 0 then (groupageref03_Read.j2 k x1 x6 x7 x9 bt191.1 bt191.2.1 true) else (groupageref03_Read.j2 k x1 x6 x7 x9 bt191.1 bt191.2.1 (decide (bt191.1 > 1000))))) else (none)) else (none))) else (some (([] : List (S51)), bt191.2.2))))
def groupageref03_Read.j2 : Nat → List Int → ByteArray → Bool → List (S51) → Int → Int → Bool → Option ((List (S51)) × Int)
  | 0, _, _, _, _, _, _, _ => none
  | k + 1, x1, x6, x7, x9, x12, x13, x81 => if x81 = true then (some (([] : List (S51)), 2)) else (if (wrap64 (x13 + x12)) > (x1.length : Int) then (some (([] : List (S51)), 3)) else (if 0 ≤ x13 then (if x13 ≤ (wrap64 (x13 + x12)) then (if (wrap64 (x13 + x12)) ≤ (x1.length : Int) then (if x9.length < 5864062014805 then (groupageref03_Read.l0 k x1 x6 x7 (x9 ++ [(⟨0, strOfNums ((x1.take ((wrap64 (x13 + x12)) : Int).toNat).drop (x13 : Int).toNat)⟩ : S51)]) (wrap64 (x13 + x12))) else (none)) else (none)) else (none)) else (none)))
end
def groupageref03_Read.f (k : Nat) (a0 : ByteArray) (l1 : List Int) : Option ((List (S51)) × Int) := (groupageref03_Letters.f a0).bind fun bt185 => (if bt185.2.2 = true then (if (l1.length : Int) > 20000 then (some (([] : List (S51)), 4)) else (groupageref03_Read.l0 k l1 bt185.1 bt185.2.1 (([] : List (S51))) 0)) else (some (([] : List (S51)), 1)))
theorem groupageref03_Read.mono_l : ∀ k, (∀ y0 y1 y2 y3 y4, LeO (groupageref03_Read.l0 k y0 y1 y2 y3 y4) (groupageref03_Read.l0 (k + 1) y0 y1 y2 y3 y4)) ∧ (∀ y0 y1 y2 y3 y4 y5 y6, LeO (groupageref03_Read.j1 k y0 y1 y2 y3 y4 y5 y6) (groupageref03_Read.j1 (k + 1) y0 y1 y2 y3 y4 y5 y6)) ∧ (∀ y0 y1 y2 y3 y4 y5 y6, LeO (groupageref03_Read.j2 k y0 y1 y2 y3 y4 y5 y6) (groupageref03_Read.j2 (k + 1) y0 y1 y2 y3 y4 y5 y6))
  | 0 => ⟨fun _ _ _ _ _ r h => by simp [groupageref03_Read.l0] at h, fun _ _ _ _ _ _ _ r h => by simp [groupageref03_Read.j1] at h, fun _ _ _ _ _ _ _ r h => by simp [groupageref03_Read.j2] at h⟩
  | k + 1 => by
    obtain ⟨ih0, ih1, ih2⟩ := groupageref03_Read.mono_l k
    refine ⟨?_, ?_, ?_⟩
    · intro y0 y1 y2 y3 y4
      unfold groupageref03_Read.l0
      repeat' first
      | (with_reducible exact ih0 _ _ _ _ _)
      | (with_reducible exact ih1 _ _ _ _ _ _ _)
      | (with_reducible exact ih2 _ _ _ _ _ _ _)
      | (with_reducible exact groupageref03_take.mono _ _ _)
      | (with_reducible exact LeO.refl _)
      | (with_reducible exact LeO.none _)
      | (with_reducible refine LeO.ite ?_ ?_)
      | (with_reducible refine LeO.bind ?_ (fun _ => ?_))
      | exact ih0 _ _ _ _ _
      | exact ih1 _ _ _ _ _ _ _
      | exact ih2 _ _ _ _ _ _ _
      | exact groupageref03_take.mono _ _ _
      | exact LeO.none _
      | refine LeO.ite ?_ ?_
      | refine LeO.bind ?_ (fun _ => ?_)
    · intro y0 y1 y2 y3 y4 y5 y6
      unfold groupageref03_Read.j1
      repeat' first
      | (with_reducible exact ih0 _ _ _ _ _)
      | (with_reducible exact ih1 _ _ _ _ _ _ _)
      | (with_reducible exact ih2 _ _ _ _ _ _ _)
      | (with_reducible exact groupageref03_take.mono _ _ _)
      | (with_reducible exact LeO.refl _)
      | (with_reducible exact LeO.none _)
      | (with_reducible refine LeO.ite ?_ ?_)
      | (with_reducible refine LeO.bind ?_ (fun _ => ?_))
      | exact ih0 _ _ _ _ _
      | exact ih1 _ _ _ _ _ _ _
      | exact ih2 _ _ _ _ _ _ _
      | exact groupageref03_take.mono _ _ _
      | exact LeO.none _
      | refine LeO.ite ?_ ?_
      | refine LeO.bind ?_ (fun _ => ?_)
    · intro y0 y1 y2 y3 y4 y5 y6
      unfold groupageref03_Read.j2
      repeat' first
      | (with_reducible exact ih0 _ _ _ _ _)
      | (with_reducible exact ih1 _ _ _ _ _ _ _)
      | (with_reducible exact ih2 _ _ _ _ _ _ _)
      | (with_reducible exact groupageref03_take.mono _ _ _)
      | (with_reducible exact LeO.refl _)
      | (with_reducible exact LeO.none _)
      | (with_reducible refine LeO.ite ?_ ?_)
      | (with_reducible refine LeO.bind ?_ (fun _ => ?_))
      | exact ih0 _ _ _ _ _
      | exact ih1 _ _ _ _ _ _ _
      | exact ih2 _ _ _ _ _ _ _
      | exact groupageref03_take.mono _ _ _
      | exact LeO.none _
      | refine LeO.ite ?_ ?_
      | refine LeO.bind ?_ (fun _ => ?_)
theorem groupageref03_Read.mono : ∀ a0 a1 k, LeO (groupageref03_Read.f k a0 a1) (groupageref03_Read.f (k + 1) a0 a1) := by
  intro a0 a1 k
  obtain ⟨ih0, ih1, ih2⟩ := groupageref03_Read.mono_l k
  unfold groupageref03_Read.f
  repeat' first
      | (with_reducible exact ih0 _ _ _ _ _)
      | (with_reducible exact ih1 _ _ _ _ _ _ _)
      | (with_reducible exact ih2 _ _ _ _ _ _ _)
      | (with_reducible exact groupageref03_take.mono _ _ _)
      | (with_reducible exact LeO.refl _)
      | (with_reducible exact LeO.none _)
      | (with_reducible refine LeO.ite ?_ ?_)
      | (with_reducible refine LeO.bind ?_ (fun _ => ?_))
      | exact ih0 _ _ _ _ _
      | exact ih1 _ _ _ _ _ _ _
      | exact ih2 _ _ _ _ _ _ _
      | exact groupageref03_take.mono _ _ _
      | exact LeO.none _
      | refine LeO.ite ?_ ?_
      | refine LeO.bind ?_ (fun _ => ?_)
set_option maxHeartbeats 8000000 in
set_option maxRecDepth 100000 in
theorem groupageref03_Read.calls (k : Nat) (a0 : ByteArray) (A1 : Option Addr) (c1 : Nat) (l1 : List Int) (r1 : List (S51)) (r2 : Int) (w : World) (hr1 : Kd.C (Kd.int .u8) w A1 l1.length l1) (hc1 : l1.length ≤ c1) (h : groupageref03_Read.f k a0 l1 = some (r1, r2)) :
    Calls Tryd.prog 16 #[.string a0, .slice A1 l1.length c1] w fun e w' => ∃ v0_ : Value, e = .returned (.tuple #[v0_, .int .i64 r2]) ∧ Kd.R k51 51 w' w.heap.size (fun _ => True) v0_ r1 ∧ Below w.heap.size w w' := by
  have hu51 := Tryd.underlying51
  have HR1 := Aside0.mk hr1
  have HC1 := Aside0.mk hc1
  clear hr1 hc1
  have HB := Aside0.mk (Below.refl w.heap.size w)
  have H : ((groupageref03_Letters.f a0).bind fun bt185 => (if bt185.2.2 = true then (if (l1.length : Int) > 20000 then (some (([] : List (S51)), 4)) else (groupageref03_Read.l0 k l1 bt185.1 bt185.2.1 (([] : List (S51))) 0)) else (some (([] : List (S51)), 1)))) = some (r1, r2) := h
  clear h
  replace H := Option.bind_eq_some_iff.mp H
  obtain ⟨⟨t185, t186, t187⟩, A30, H⟩ := H
  replace H : (if t187 = true then (if (l1.length : Int) > 20000 then (some (([] : List (S51)), 4)) else (groupageref03_Read.l0 k l1 t185 t186 (([] : List (S51))) 0)) else (some (([] : List (S51)), 1))) = some (r1, r2) := H
  have A3 := Aside0.mk A30
  clear A30
  by_cases c4 : t187 = true
  · subst c4
    have H1 : (if (l1.length : Int) > 20000 then (some (([] : List (S51)), 4)) else (groupageref03_Read.l0 k l1 t185 t186 (([] : List (S51))) 0)) = some (r1, r2) := by rw [if_pos rfl] at H; exact H
    clear H
    have H := H1
    clear H1
    by_cases c5 : (l1.length : Int) > 20000
    · rw [if_pos c5] at H
      have c5b0 : decide (20000 < (l1.length : Int)) = true := decide_eq_true c5
      have c5b1 : decide (20000 < l1.length) = true := decide_eq_true (by omega)
      clear c5
      simp only [Option.some.injEq, Prod.mk.injEq] at H
      obtain ⟨rfl, rfl⟩ := H
      go_enter Tryd.func16, Tryd.ntmps16
      go_wp2_with (first | ((with_reducible refine gate_callee (f := 21) rfl ?_); refine goesL_ (some 17) rfl rfl Tryd.func21 (by kernel_rfl) rfl #[.string a0] rfl (by (try simp only [List.map_toArray, List.map_cons, List.map_nil]); first | done | rfl | (simp only [List.length_drop, List.length_take]; rfl)) ?_; (with_reducible refine (groupageref03_Letters.calls a0 t185 t186 true _ A3.out).mono ?_); rintro e w' ⟨rfl, ⟨nd, rfl⟩⟩; refine ⟨_, rfl, ?_⟩))
      go_ret2
      exact ⟨_, by first | rfl | (simp [errW_none, errW_some] <;> rfl) | (simp [*, errW_none, errW_some] <;> rfl), by first | exact Kd.R_nil _ _ _ _ _ | exact Kd.N_nil _ _ _ _ _ | exact Kd.V_nil _ _ _ _ _ | exact Kd.Q_nil _ _ _ _ _ | exact Kd.S_nil _ _ _ _ _, by repeat (first | (with_reducible first | exact HB.out | apply below_alloc | apply pw_below_drewN | apply below_drew1) | exact HB.out)⟩
    · rw [if_neg c5] at H
      have c5b0 : decide (20000 < (l1.length : Int)) = false := decide_eq_false c5
      have c5b1 : decide (20000 < l1.length) = false := decide_eq_false (by omega)
      clear c5
      obtain ⟨y188, hy188⟩ : ∃ y_ : List (S51), y_ = (([] : List (S51))) := ⟨_, rfl⟩
      replace H : (groupageref03_Read.l0 k l1 t185 t186 y188 0) = some (r1, r2) := by first | (rw [hy188]; with_reducible exact H) | (have H2_ := (Option.bind_some _ _).symm.trans H; rw [hy188]; with_reducible exact H2_) | (have H2_ := (Option.bind_some _ _).symm.trans H; with_reducible exact H2_) | with_reducible exact H | (rw [hy188]; exact H) | exact H
      have Ny188 := Aside0.mk hy188
      clear hy188
      have H' := Aside0.mk H
      clear H
      go_enter Tryd.func16, Tryd.ntmps16
      go_wp2_with (first | ((with_reducible refine gate_callee (f := 21) rfl ?_); refine goesL_ (some 17) rfl rfl Tryd.func21 (by kernel_rfl) rfl #[.string a0] rfl (by (try simp only [List.map_toArray, List.map_cons, List.map_nil]); first | done | rfl | (simp only [List.length_drop, List.length_take]; rfl)) ?_; (with_reducible refine (groupageref03_Letters.calls a0 t185 t186 true _ A3.out).mono ?_); rintro e w' ⟨rfl, ⟨nd, rfl⟩⟩; refine ⟨_, rfl, ?_⟩) | ((with_reducible refine gate_dst (N := 26) rfl ?_); (try (refine gate_guard (by rfl) ?_; dsimp only)); refine Kd.R_lit k51 _ 51 ?hg (N := 26) ?hd (xs := ([] : List (S51))) (inner := []) (ok := fun _ => True) (okp := fun _ => True) ?hr ?hp (fun _ hk => hk) trivial (Below.refl _ _) (Nat.le_refl _) (by simp) ?_; (case hd => rfl); (case hg => rfl); (case hr => first | (go_simp; done) | (go_simp; rfl)); (case hp => exact (Reps.none _ _)); intro v189 w6 ho7 hb hg_ hnew_; clear hg_ hnew_; (first | rw [← Ny188.out] at ho7 | (simp only [Int.reduceToNat] at ho7; rw [← Ny188.out] at ho7)); have n0_ := Aside0.mk (Kd.R_lower ho7 (below_size (by repeat (first | (with_reducible first | exact HB.out | apply below_alloc | apply pw_below_drewN | apply below_drew1) | exact HB.out)))); have n1_ := Aside0.mk (below_step (by repeat (first | (with_reducible first | exact HB.out | apply below_alloc | apply pw_below_drewN | apply below_drew1) | exact HB.out)) hb); clear HB; have HO190 := n0_; have HB := n1_; clear n0_ n1_; clear hb ho7))
      go_loopg [9, 10] k (fun kq v9 v10 w' => ∃ (x9_1 : List (S51)) (x10_1 : Int), v10 = .int .i64 x10_1 ∧ Aside0 (groupageref03_Read.l0 kq l1 t185 t186 x9_1 x10_1 = some (r1, r2)) ∧ Aside0 (kq ≤ k) ∧ Aside0 (Kd.R k51 51 w' w.heap.size (fun _ => True) v9 x9_1) ∧ Aside0 (Below w.heap.size w w'))
      case atStart => exact ⟨(y188), (0), (by first | rfl | (simp; done) | (simp [*]; done)), H', ⟨Nat.le_refl _⟩, ⟨by (with_reducible repeat (first | apply Kd.R_alloc | apply Kd.R_drewN | apply Kd.R_drew)); exact HO190.out⟩, ⟨by repeat (first | (with_reducible first | exact HB.out | apply below_alloc | apply pw_below_drewN | apply below_drew1) | exact HB.out)⟩⟩
      case round =>
        clear H'
        try clear c1
        try clear c2
        try clear p2
        try clear c4
        try clear c5
        try clear c5b0
        try clear c5b1
        obtain ⟨x9_1, x10_1, rfl, HA, HK1, HO_9, HB⟩ := hrel
        cases gk with
        | zero => exact absurd HA.out (by simp [groupageref03_Read.l0])
        | succ k1 =>
          have H := HA.out
          clear HA
          simp only [groupageref03_Read.l0] at H
          have HC8 := Aside0.mk H
          clear H
          obtain ⟨Ao9, co9, eo9⟩ := Kd.R_slice HO_9.out
          subst eo9
          go_upto_region 9 with (fail)
          go_cut [52] (fun v52 wc => ∃ (kq : Nat) (x52_7 : Bool), v52 = .bool x52_7 ∧ Aside0 (groupageref03_Read.j1 kq l1 t185 t186 x9_1 x10_1 (x9_1.length : Int) x52_7 = some (r1, r2)) ∧ Aside0 (kq ≤ k1) ∧ Aside0 (Kd.R k51 51 wc w.heap.size (fun _ => True) (.slice Ao9 x9_1.length co9) x9_1) ∧ Aside0 (Below w.heap.size w wc))
          case first =>
            have H := HC8.out
            clear HC8
            by_cases c10 : t186 = true
            · subst c10
              have H1 : (if (t185.size : Int) = 0 then (none) else (if ((x9_1.length : Int) % (t185.size : Int)) = 0 then (if x10_1 = (l1.length : Int) then (groupageref03_Read.j1 k1 l1 t185 true x9_1 x10_1 (x9_1.length : Int) true) else (groupageref03_Read.j1 k1 l1 t185 true x9_1 x10_1 (x9_1.length : Int) false)) else (groupageref03_Read.j1 k1 l1 t185 true x9_1 x10_1 (x9_1.length : Int) false))) = some (r1, r2) := by rw [if_pos rfl] at H; exact H
              clear H
              have H := H1
              clear H1
              by_cases c11 : (t185.size : Int) = 0
              · rw [if_pos c11] at H
                exact absurd H (by simp)
              · rw [if_neg c11] at H
                have c11b0 : ((t185.size : Int) == 0) = false := beq_eq_false_iff_ne.mpr c11
                have c11b1 : ((t185.size : Int) != 0) = true := bne_iff_ne.mpr c11
                (first | rw [c11b0] | (simp only [i64_w, i32_w]; rw [c11b0]) | skip)
                by_cases c12 : ((x9_1.length : Int) % (t185.size : Int)) = 0
                · rw [if_pos c12] at H
                  have c12b0 : (((x9_1.length : Int) % (t185.size : Int)) == 0) = true := beq_iff_eq.mpr c12
                  have c12b1 : (((x9_1.length : Int) % (t185.size : Int)) != 0) = false := bne_eq_false_iff_eq.mpr c12
                  clear c12
                  by_cases c13 : x10_1 = (l1.length : Int)
                  · rw [if_pos c13] at H
                    have c13b0 : (x10_1 == (l1.length : Int)) = true := beq_iff_eq.mpr c13
                    have c13b1 : (x10_1 != (l1.length : Int)) = false := bne_eq_false_iff_eq.mpr c13
                    clear c13
                    have H' := Aside0.mk H
                    clear H
                    go_wp2
                    go_meet
                    case rel => exact ⟨_, (true), (by first | rfl | (simp; done) | (simp [*]; done)), H', ⟨by have := HK1.out; first | omega | exact Nat.le_refl _⟩, ⟨by (with_reducible repeat (first | apply Kd.R_alloc | apply Kd.R_drewN | apply Kd.R_drew)); exact HO_9.out⟩, ⟨by repeat (first | (with_reducible first | exact HB.out | apply below_alloc | apply pw_below_drewN | apply below_drew1) | exact HB.out)⟩⟩
                  · rw [if_neg c13] at H
                    have c13b0 : (x10_1 == (l1.length : Int)) = false := beq_eq_false_iff_ne.mpr c13
                    have c13b1 : (x10_1 != (l1.length : Int)) = true := bne_iff_ne.mpr c13
                    have H' := Aside0.mk H
                    clear H
                    go_wp2
                    go_meet
                    case rel => exact ⟨_, (false), (by first | rfl | (simp; done) | (simp [*]; done)), H', ⟨by have := HK1.out; first | omega | exact Nat.le_refl _⟩, ⟨by (with_reducible repeat (first | apply Kd.R_alloc | apply Kd.R_drewN | apply Kd.R_drew)); exact HO_9.out⟩, ⟨by repeat (first | (with_reducible first | exact HB.out | apply below_alloc | apply pw_below_drewN | apply below_drew1) | exact HB.out)⟩⟩
                · rw [if_neg c12] at H
                  have c12b0 : (((x9_1.length : Int) % (t185.size : Int)) == 0) = false := beq_eq_false_iff_ne.mpr c12
                  have c12b1 : (((x9_1.length : Int) % (t185.size : Int)) != 0) = true := bne_iff_ne.mpr c12
                  have H' := Aside0.mk H
                  clear H
                  go_wp2
                  go_meet
                  case rel => exact ⟨_, (false), (by first | rfl | (simp; done) | (simp [*]; done)), H', ⟨by have := HK1.out; first | omega | exact Nat.le_refl _⟩, ⟨by (with_reducible repeat (first | apply Kd.R_alloc | apply Kd.R_drewN | apply Kd.R_drew)); exact HO_9.out⟩, ⟨by repeat (first | (with_reducible first | exact HB.out | apply below_alloc | apply pw_below_drewN | apply below_drew1) | exact HB.out)⟩⟩
            · replace c10 := Bool.eq_false_iff.mpr c10
              subst c10
              have H1 : (groupageref03_Read.j1 k1 l1 t185 false x9_1 x10_1 (x9_1.length : Int) ((x9_1.length : Int) == (t185.size : Int))) = some (r1, r2) := by rw [if_neg (show ¬ (false = true) by decide)] at H; exact H
              clear H
              have H := H1
              clear H1
              have H' := Aside0.mk H
              clear H
              go_wp2
              go_meet
              case rel => exact ⟨_, (((x9_1.length : Int) == (t185.size : Int))), (by first | rfl | (simp; done) | (simp [*]; done)), H', ⟨by have := HK1.out; first | omega | exact Nat.le_refl _⟩, ⟨by (with_reducible repeat (first | apply Kd.R_alloc | apply Kd.R_drewN | apply Kd.R_drew)); exact HO_9.out⟩, ⟨by repeat (first | (with_reducible first | exact HB.out | apply below_alloc | apply pw_below_drewN | apply below_drew1) | exact HB.out)⟩⟩
          case rest =>
            clear HC8
            try clear c1
            try clear c2
            try clear p2
            try clear c4
            try clear c5
            try clear c5b0
            try clear c5b1
            try clear c10
            try clear c11
            try clear c11b0
            try clear c11b1
            try clear c12
            try clear c12b0
            try clear c12b1
            try clear c13
            try clear c13b0
            try clear c13b1
            try clear p2
            obtain ⟨kq, x52_7, rfl, HA, HJ7, HO_9, HB⟩ := hcut
            cases kq with
            | zero => exact absurd HA.out (by simp [groupageref03_Read.j1])
            | succ kj7 =>
              have H := HA.out
              clear HA
              simp only [groupageref03_Read.j1] at H
              by_cases c14 : x52_7 = true
              · subst c14
                have H1 : (if x10_1 < (l1.length : Int) then (some (([] : List (S51)), 2)) else (if (x9_1.length : Int) > 200 then (some (([] : List (S51)), 4)) else (some (x9_1, 0)))) = some (r1, r2) := by rw [if_pos rfl] at H; exact H
                clear H
                have H := H1
                clear H1
                by_cases c15 : x10_1 < (l1.length : Int)
                · rw [if_pos c15] at H
                  have c15b0 : decide (x10_1 < (l1.length : Int)) = true := decide_eq_true c15
                  clear c15
                  simp only [Option.some.injEq, Prod.mk.injEq] at H
                  obtain ⟨rfl, rfl⟩ := H
                  go_wp2
                  go_ret2
                  exact ⟨_, by first | rfl | (simp [errW_none, errW_some] <;> rfl) | (simp [*, errW_none, errW_some] <;> rfl), by first | exact Kd.R_nil _ _ _ _ _ | exact Kd.N_nil _ _ _ _ _ | exact Kd.V_nil _ _ _ _ _ | exact Kd.Q_nil _ _ _ _ _ | exact Kd.S_nil _ _ _ _ _, by repeat (first | (with_reducible first | exact HB.out | apply below_alloc | apply pw_below_drewN | apply below_drew1) | exact HB.out)⟩
                · rw [if_neg c15] at H
                  have c15b0 : decide (x10_1 < (l1.length : Int)) = false := decide_eq_false c15
                  clear c15
                  by_cases c16 : (x9_1.length : Int) > 200
                  · rw [if_pos c16] at H
                    have c16b0 : decide (200 < (x9_1.length : Int)) = true := decide_eq_true c16
                    have c16b1 : decide (200 < x9_1.length) = true := decide_eq_true (by omega)
                    clear c16
                    simp only [Option.some.injEq, Prod.mk.injEq] at H
                    obtain ⟨rfl, rfl⟩ := H
                    go_wp2
                    go_ret2
                    exact ⟨_, by first | rfl | (simp [errW_none, errW_some] <;> rfl) | (simp [*, errW_none, errW_some] <;> rfl), by first | exact Kd.R_nil _ _ _ _ _ | exact Kd.N_nil _ _ _ _ _ | exact Kd.V_nil _ _ _ _ _ | exact Kd.Q_nil _ _ _ _ _ | exact Kd.S_nil _ _ _ _ _, by repeat (first | (with_reducible first | exact HB.out | apply below_alloc | apply pw_below_drewN | apply below_drew1) | exact HB.out)⟩
                  · rw [if_neg c16] at H
                    have c16b0 : decide (200 < (x9_1.length : Int)) = false := decide_eq_false c16
                    have c16b1 : decide (200 < x9_1.length) = false := decide_eq_false (by omega)
                    clear c16
                    simp only [Option.some.injEq, Prod.mk.injEq] at H
                    obtain ⟨rfl, rfl⟩ := H
                    go_wp2
                    go_ret2
                    exact ⟨_, by first | rfl | (simp [errW_none, errW_some] <;> rfl) | (simp [*, errW_none, errW_some] <;> rfl), by (with_reducible repeat (first | apply Kd.R_alloc | apply Kd.R_drewN | apply Kd.R_drew)); exact HO_9.out, by repeat (first | (with_reducible first | exact HB.out | apply below_alloc | apply pw_below_drewN | apply below_drew1) | exact HB.out)⟩
              · replace c14 := Bool.eq_false_iff.mpr c14
                subst c14
                have H1 : ((groupageref03_take.f kj7 l1 x10_1).bind fun bt191 => (if bt191.2.2 = 0 then (if (t185.size : Int) = 0 then (none) else (if 0 ≤ (Int.tmod (x9_1.length : Int) (t185.size : Int)) then (if (Int.tmod (x9_1.length : Int) (t185.size : Int)) < (t185.size : Int) then (if (bt t185 (Int.tmod (x9_1.length : Int) (t185.size : Int))) = 110 then (if x9_1.length < 5864062014805 then (groupageref03_Read.l0 kj7 l1 t185 t186 (x9_1 ++ [(⟨bt191.1, (⟨#[]⟩ : ByteArray)⟩ : S51)]) bt191.2.1) else (none)) else (if bt191.1 < 0 then (groupageref03_Read.j2 kj7 l1 t185 t186 x9_1 bt191.1 bt191.2.1 true) else (groupageref03_Read.j2 kj7 l1 t185 t186 x9_1 bt191.1 bt191.2.1 (decide (bt191.1 > 1000))))) else (none)) else (none))) else (some (([] : List (S51)), bt191.2.2)))) = some (r1, r2) := by rw [if_neg (show ¬ (false = true) by decide)] at H; exact H
                clear H
                have H := H1
                clear H1
                replace H := Option.bind_eq_some_iff.mp H
                obtain ⟨⟨t191, t192, t193⟩, A170, H⟩ := H
                replace H : (if t193 = 0 then (if (t185.size : Int) = 0 then (none) else (if 0 ≤ (Int.tmod (x9_1.length : Int) (t185.size : Int)) then (if (Int.tmod (x9_1.length : Int) (t185.size : Int)) < (t185.size : Int) then (if (bt t185 (Int.tmod (x9_1.length : Int) (t185.size : Int))) = 110 then (if x9_1.length < 5864062014805 then (groupageref03_Read.l0 kj7 l1 t185 t186 (x9_1 ++ [(⟨t191, (⟨#[]⟩ : ByteArray)⟩ : S51)]) t192) else (none)) else (if t191 < 0 then (groupageref03_Read.j2 kj7 l1 t185 t186 x9_1 t191 t192 true) else (groupageref03_Read.j2 kj7 l1 t185 t186 x9_1 t191 t192 (decide (t191 > 1000))))) else (none)) else (none))) else (some (([] : List (S51)), t193))) = some (r1, r2) := H
                have A17 := Aside0.mk A170
                clear A170
                by_cases c18 : t193 = 0
                · rw [if_pos c18] at H
                  have c18b0 : (t193 == 0) = true := beq_iff_eq.mpr c18
                  have c18b1 : (t193 != 0) = false := bne_eq_false_iff_eq.mpr c18
                  clear c18
                  by_cases c19 : (t185.size : Int) = 0
                  · rw [if_pos c19] at H
                    exact absurd H (by simp)
                  · rw [if_neg c19] at H
                    have c19b0 : ((t185.size : Int) == 0) = false := beq_eq_false_iff_ne.mpr c19
                    have c19b1 : ((t185.size : Int) != 0) = true := bne_iff_ne.mpr c19
                    obtain ⟨ji20, hji20⟩ : ∃ j_ : Int, (Int.tmod (x9_1.length : Int) (t185.size : Int)) = j_ := ⟨_, rfl⟩
                    replace H : (if 0 ≤ (ji20) then (if (ji20) < (t185.size : Int) then (if (bt t185 (ji20)) = 110 then (if x9_1.length < 5864062014805 then (groupageref03_Read.l0 kj7 l1 t185 t186 (x9_1 ++ [(⟨t191, (⟨#[]⟩ : ByteArray)⟩ : S51)]) t192) else (none)) else (if t191 < 0 then (groupageref03_Read.j2 kj7 l1 t185 t186 x9_1 t191 t192 true) else (groupageref03_Read.j2 kj7 l1 t185 t186 x9_1 t191 t192 (decide (t191 > 1000))))) else (none)) else (none)) = some (r1, r2) := by first | (rw [hji20] at H; exact H) | (simp only [hji20] at H ⊢; exact H)
                    (try rw [hji20] at A17)
                    by_cases c21 : 0 ≤ (ji20)
                    · rw [if_pos c21] at H
                      have c21b0 : decide (0 ≤ (ji20)) = true := decide_eq_true c21
                      clear c21
                      by_cases c22 : (ji20) < (t185.size : Int)
                      · rw [if_pos c22] at H
                        have c22b0 : decide ((ji20) < (t185.size : Int)) = true := decide_eq_true c22
                        clear c22
                        by_cases c24 : (bt t185 (ji20)) = 110
                        · rw [if_pos c24] at H
                          have c24b0 : ((bt t185 (ji20)) == 110) = true := beq_iff_eq.mpr c24
                          have c24b1 : ((bt t185 (ji20)) != 110) = false := bne_eq_false_iff_eq.mpr c24
                          clear c24
                          by_cases c25 : x9_1.length < 5864062014805
                          · rw [if_pos c25] at H
                            have LMc25 := Aside0.mk c25
                            clear c25
                            obtain ⟨y194, hy194⟩ : ∃ y_ : List (S51), y_ = (x9_1 ++ [(⟨t191, (⟨#[]⟩ : ByteArray)⟩ : S51)]) := ⟨_, rfl⟩
                            replace H : (groupageref03_Read.l0 kj7 l1 t185 t186 y194 t192) = some (r1, r2) := by first | (rw [hy194]; with_reducible exact H) | (have H2_ := (Option.bind_some _ _).symm.trans H; rw [hy194]; with_reducible exact H2_) | (have H2_ := (Option.bind_some _ _).symm.trans H; with_reducible exact H2_) | with_reducible exact H | (rw [hy194]; exact H) | exact H
                            have Ny194 := Aside0.mk hy194
                            clear hy194
                            have H' := Aside0.mk H
                            clear H
                            go_wp2_with (first | ((with_reducible refine gate_callee (f := 27) rfl ?_); refine goesL_ (some 56) rfl rfl Tryd.func27 (by kernel_rfl) rfl #[.slice A1 l1.length c1, .int .i64 x10_1] rfl (by (try simp only [List.map_toArray, List.map_cons, List.map_nil]); first | done | rfl | (simp only [List.length_drop, List.length_take]; rfl)) ?_; (with_reducible refine (groupageref03_take.calls kj7 _ _ l1 x10_1 t191 t192 t193 _ ?side1 ?side2 A17.out).mono ?_); (case side1 => repeat (first | exact (Kd.C_below HR1.out HB.out) | (with_reducible refine Kd.C_alloc ?_ _) | (with_reducible refine Kd.C_drewN ?_ _) | (with_reducible refine Kd.C_drew ?_))); (case side2 => exact HC1.out); rintro e w26 ⟨rfl, hb⟩; refine ⟨_, rfl, ?_⟩; have n0_ := Aside0.mk (Kd.R_below (by (with_reducible repeat (first | apply Kd.R_alloc | apply Kd.R_drewN | apply Kd.R_drew)); exact HO_9.out) hb); have n1_ := Aside0.mk (below_step (by repeat (first | (with_reducible first | exact HB.out | apply below_alloc | apply pw_below_drewN | apply below_drew1) | exact HB.out)) hb); clear HO_9; clear HB; have HO_9 := n0_; have HB := n1_; clear n0_ n1_; (try clear hb); (try clear hb2); (try clear hk); (try clear hi); have p23 : 0 ≤ ((ji20) : Int) := of_decide_eq_true (by first | (with_reducible assumption) | assumption); have q23 : (ji20) < (t185.size : Int) := of_decide_eq_true (by first | (with_reducible assumption) | assumption); have hx23 := bt_at t185 (ji20); replace p23 := eq_true p23; replace q23 := eq_true q23) | ((with_reducible refine gate_builtin (b := .append) (xs := #[.tmp 70, .tmp 73]) rfl ?_); (try (refine gate_guard (by rfl) ?_; dsimp only)); at_builtin; refine Kd.R_append k51 (w0 := w) w.heap.size rfl (.tmp 70) (.tmp 73) 30 51 (.agg #[(.int .i64 0), (.string ⟨#[]⟩)]) 24 rfl Tryd.underlying30 info51 rfl (by decide) (by omega) (.slice Ao9 x9_1.length co9) x9_1 (⟨t191, (⟨#[]⟩ : ByteArray)⟩ : S51) [.int .i64 t191, .string (⟨#[]⟩ : ByteArray)] (fun _ => True) (fun _ => False) rfl rfl ?aP (fun _ hk => hk.elim) ?aF ?aO ?aB ?aS ?aL ?_; (case aP => exact k51_mkM _ _ _ (⟨t191, (⟨#[]⟩ : ByteArray)⟩ : S51)); (case aB => exact (by repeat (first | (with_reducible first | exact HB.out | apply below_alloc | apply pw_below_drewN | apply below_drew1) | exact HB.out))); (case aF => exact (fun _ _ => trivial)); (case aO => exact (by (with_reducible repeat (first | apply Kd.R_alloc | apply Kd.R_drewN | apply Kd.R_drew)); exact HO_9.out)); (case aS => exact (below_size (by repeat (first | (with_reducible first | exact HB.out | apply below_alloc | apply pw_below_drewN | apply below_drew1) | exact HB.out)))); (case aL => have := LMc25.out; omega); intro v195 w27 ho hb hg hat; rw [← Ny194.out] at ho; have n0_ := Aside0.mk (hb); have n1_ := Aside0.mk (ho); clear HB; clear HO_9; have HB := n0_; have HO196 := n1_; clear n0_ n1_; clear ho hb hg hat))
                            go_roundg kj7
                            case measure => have := HK1.out; have := HJ7.out; omega
                            case rel => exact ⟨(y194), (t192), (by first | rfl | (simp; done) | (simp [*]; done)), H', ⟨by have := HK1.out; have := HJ7.out; omega⟩, ⟨by (with_reducible repeat (first | apply Kd.R_alloc | apply Kd.R_drewN | apply Kd.R_drew)); exact HO196.out⟩, ⟨by repeat (first | (with_reducible first | exact HB.out | apply below_alloc | apply pw_below_drewN | apply below_drew1) | exact HB.out)⟩⟩
                          · rw [if_neg c25] at H
                            exact absurd H (by simp)
                        · rw [if_neg c24] at H
                          have c24b0 : ((bt t185 (ji20)) == 110) = false := beq_eq_false_iff_ne.mpr c24
                          have c24b1 : ((bt t185 (ji20)) != 110) = true := bne_iff_ne.mpr c24
                          have HC28 := Aside0.mk H
                          clear H
                          go_upto_region 16 with (first | ((with_reducible refine gate_callee (f := 27) rfl ?_); refine goesL_ (some 56) rfl rfl Tryd.func27 (by kernel_rfl) rfl #[.slice A1 l1.length c1, .int .i64 x10_1] rfl (by (try simp only [List.map_toArray, List.map_cons, List.map_nil]); first | done | rfl | (simp only [List.length_drop, List.length_take]; rfl)) ?_; (with_reducible refine (groupageref03_take.calls kj7 _ _ l1 x10_1 t191 t192 t193 _ ?side1 ?side2 A17.out).mono ?_); (case side1 => repeat (first | exact (Kd.C_below HR1.out HB.out) | (with_reducible refine Kd.C_alloc ?_ _) | (with_reducible refine Kd.C_drewN ?_ _) | (with_reducible refine Kd.C_drew ?_))); (case side2 => exact HC1.out); rintro e w29 ⟨rfl, hb⟩; refine ⟨_, rfl, ?_⟩; have n0_ := Aside0.mk (Kd.R_below (by (with_reducible repeat (first | apply Kd.R_alloc | apply Kd.R_drewN | apply Kd.R_drew)); exact HO_9.out) hb); have n1_ := Aside0.mk (below_step (by repeat (first | (with_reducible first | exact HB.out | apply below_alloc | apply pw_below_drewN | apply below_drew1) | exact HB.out)) hb); clear HO_9; clear HB; have HO_9 := n0_; have HB := n1_; clear n0_ n1_; (try clear hb); (try clear hb2); (try clear hk); (try clear hi); have p23 : 0 ≤ ((ji20) : Int) := of_decide_eq_true (by first | (with_reducible assumption) | assumption); have q23 : (ji20) < (t185.size : Int) := of_decide_eq_true (by first | (with_reducible assumption) | assumption); have hx23 := bt_at t185 (ji20); replace p23 := eq_true p23; replace q23 := eq_true q23))
                          (try simp only [Act.put, List.setIfInBounds_toArray, List.set_cons_zero, List.set_cons_succ])
                          go_cut [81] (fun v81 wc => ∃ (kq : Nat) (x81_27 : Bool), v81 = .bool x81_27 ∧ Aside0 (groupageref03_Read.j2 kq l1 t185 t186 x9_1 t191 t192 x81_27 = some (r1, r2)) ∧ Aside0 (kq ≤ kj7) ∧ Aside0 (Kd.R k51 51 wc w.heap.size (fun _ => True) (.slice Ao9 x9_1.length co9) x9_1) ∧ Aside0 (Below w.heap.size w wc))
                          case first =>
                            have H := HC28.out
                            clear HC28
                            by_cases c30 : t191 < 0
                            · rw [if_pos c30] at H
                              have c30b0 : decide (t191 < 0) = true := decide_eq_true c30
                              clear c30
                              (first | rw [c30b0] | (simp only [i64_w, i32_w]; rw [c30b0]) | skip)
                              have H' := Aside0.mk H
                              clear H
                              go_wp2
                              go_meet
                              case rel => exact ⟨_, (true), (by first | rfl | (simp; done) | (simp [*]; done)), H', ⟨by have := HK1.out; have := HJ7.out; first | omega | exact Nat.le_refl _⟩, ⟨by (with_reducible repeat (first | apply Kd.R_alloc | apply Kd.R_drewN | apply Kd.R_drew)); exact HO_9.out⟩, ⟨by repeat (first | (with_reducible first | exact HB.out | apply below_alloc | apply pw_below_drewN | apply below_drew1) | exact HB.out)⟩⟩
                            · rw [if_neg c30] at H
                              have c30b0 : decide (t191 < 0) = false := decide_eq_false c30
                              clear c30
                              (first | rw [c30b0] | (simp only [i64_w, i32_w]; rw [c30b0]) | skip)
                              have H' := Aside0.mk H
                              clear H
                              go_wp2
                              go_meet
                              case rel => exact ⟨_, (decide (t191 > 1000)), (by first | rfl | (simp; done) | (simp [*]; done)), H', ⟨by have := HK1.out; have := HJ7.out; first | omega | exact Nat.le_refl _⟩, ⟨by (with_reducible repeat (first | apply Kd.R_alloc | apply Kd.R_drewN | apply Kd.R_drew)); exact HO_9.out⟩, ⟨by repeat (first | (with_reducible first | exact HB.out | apply below_alloc | apply pw_below_drewN | apply below_drew1) | exact HB.out)⟩⟩
                          case rest =>
                            clear HC28
                            try clear c1
                            try clear c2
                            try clear p2
                            try clear q2
                            try clear hx2
                            try clear c3
                            try clear c4
                            try clear c5
                            try clear c5b0
                            try clear c5b1
                            try clear c10
                            try clear c11
                            try clear c11b0
                            try clear c11b1
                            try clear c12
                            try clear c12b0
                            try clear c12b1
                            try clear c13
                            try clear c13b0
                            try clear c13b1
                            try clear c14
                            try clear c15
                            try clear c15b0
                            try clear c16
                            try clear c16b0
                            try clear c16b1
                            try clear c18
                            try clear c18b0
                            try clear c18b1
                            try clear c19
                            try clear c19b0
                            try clear c19b1
                            try clear c21
                            try clear c21b0
                            try clear c22
                            try clear c22b0
                            try clear p23
                            try clear q23
                            try clear hx23
                            try clear c24
                            try clear c24b0
                            try clear c24b1
                            try clear c25
                            try clear c27
                            try clear c30
                            try clear c30b0
                            try clear p2
                            try clear p23
                            try clear q23
                            obtain ⟨kq, x81_27, rfl, HA, HJ27, HO_9, HB⟩ := hcut
                            cases kq with
                            | zero => exact absurd HA.out (by simp [groupageref03_Read.j2])
                            | succ kj27 =>
                              have H := HA.out
                              clear HA
                              simp only [groupageref03_Read.j2] at H
                              by_cases c31 : x81_27 = true
                              · subst c31
                                have H1 : (some (([] : List (S51)), 2)) = some (r1, r2) := by rw [if_pos rfl] at H; exact H
                                clear H
                                have H := H1
                                clear H1
                                simp only [Option.some.injEq, Prod.mk.injEq] at H
                                obtain ⟨rfl, rfl⟩ := H
                                go_wp2
                                go_ret2
                                exact ⟨_, by first | rfl | (simp [errW_none, errW_some] <;> rfl) | (simp only [← hji20]; first | rfl | (simp [errW_none, errW_some] <;> rfl)) | (simp [*, errW_none, errW_some] <;> rfl), by first | exact Kd.R_nil _ _ _ _ _ | exact Kd.N_nil _ _ _ _ _ | exact Kd.V_nil _ _ _ _ _ | exact Kd.Q_nil _ _ _ _ _ | exact Kd.S_nil _ _ _ _ _, by repeat (first | (with_reducible first | exact HB.out | apply below_alloc | apply pw_below_drewN | apply below_drew1) | exact HB.out)⟩
                              · replace c31 := Bool.eq_false_iff.mpr c31
                                subst c31
                                have H1 : (if (wrap64 (t192 + t191)) > (l1.length : Int) then (some (([] : List (S51)), 3)) else (if 0 ≤ t192 then (if t192 ≤ (wrap64 (t192 + t191)) then (if (wrap64 (t192 + t191)) ≤ (l1.length : Int) then (if x9_1.length < 5864062014805 then (groupageref03_Read.l0 kj27 l1 t185 t186 (x9_1 ++ [(⟨0, strOfNums ((l1.take ((wrap64 (t192 + t191)) : Int).toNat).drop (t192 : Int).toNat)⟩ : S51)]) (wrap64 (t192 + t191))) else (none)) else (none)) else (none)) else (none))) = some (r1, r2) := by rw [if_neg (show ¬ (false = true) by decide)] at H; exact H
                                clear H
                                have H := H1
                                clear H1
                                by_cases c32 : (wrap64 (t192 + t191)) > (l1.length : Int)
                                · rw [if_pos c32] at H
                                  have c32b0 : decide ((l1.length : Int) < (wrap64 (t192 + t191))) = true := decide_eq_true c32
                                  clear c32
                                  simp only [Option.some.injEq, Prod.mk.injEq] at H
                                  obtain ⟨rfl, rfl⟩ := H
                                  go_wp2
                                  go_ret2
                                  exact ⟨_, by first | rfl | (simp [errW_none, errW_some] <;> rfl) | (simp only [← hji20]; first | rfl | (simp [errW_none, errW_some] <;> rfl)) | (simp [*, errW_none, errW_some] <;> rfl), by first | exact Kd.R_nil _ _ _ _ _ | exact Kd.N_nil _ _ _ _ _ | exact Kd.V_nil _ _ _ _ _ | exact Kd.Q_nil _ _ _ _ _ | exact Kd.S_nil _ _ _ _ _, by repeat (first | (with_reducible first | exact HB.out | apply below_alloc | apply pw_below_drewN | apply below_drew1) | exact HB.out)⟩
                                · rw [if_neg c32] at H
                                  have c32b0 : decide ((l1.length : Int) < (wrap64 (t192 + t191))) = false := decide_eq_false c32
                                  clear c32
                                  by_cases c33 : 0 ≤ t192
                                  · rw [if_pos c33] at H
                                    have c33b0 := eq_true c33
                                    have c33b1 : decide (0 ≤ t192) = true := decide_eq_true c33
                                    clear c33
                                    by_cases c34 : t192 ≤ (wrap64 (t192 + t191))
                                    · rw [if_pos c34] at H
                                      have c34b0 := eq_true c34
                                      have c34b1 : decide (t192 ≤ (wrap64 (t192 + t191))) = true := decide_eq_true c34
                                      by_cases c35 : (wrap64 (t192 + t191)) ≤ (l1.length : Int)
                                      · rw [if_pos c35] at H
                                        have c35b0 := eq_true c35
                                        have c35b1 : decide ((wrap64 (t192 + t191)) ≤ (l1.length : Int)) = true := decide_eq_true c35
                                        by_cases c36 : x9_1.length < 5864062014805
                                        · rw [if_pos c36] at H
                                          have LMc36 := Aside0.mk c36
                                          clear c36
                                          obtain ⟨y198, hy198⟩ : ∃ y_ : List (S51), y_ = (x9_1 ++ [(⟨0, strOfNums ((l1.take ((wrap64 (t192 + t191)) : Int).toNat).drop (t192 : Int).toNat)⟩ : S51)]) := ⟨_, rfl⟩
                                          replace H : (groupageref03_Read.l0 kj27 l1 t185 t186 y198 (wrap64 (t192 + t191))) = some (r1, r2) := by first | (rw [hy198]; with_reducible exact H) | (have H2_ := (Option.bind_some _ _).symm.trans H; rw [hy198]; with_reducible exact H2_) | (have H2_ := (Option.bind_some _ _).symm.trans H; with_reducible exact H2_) | with_reducible exact H | (rw [hy198]; exact H) | exact H
                                          have Ny198 := Aside0.mk hy198
                                          clear hy198
                                          have H' := Aside0.mk H
                                          clear H
                                          obtain ⟨i037, hi037, _, hsz37, _⟩ := info_parts info5
                                          obtain ⟨A37, hcut37, hA37, hC37⟩ := print_mid_of (P := Tryd.prog) (Value.int .u8) 0 25 5 .i64 .i64 Tryd.underlying25 hi037 hsz37 A1 c1 l1 t192 (wrap64 (t192 + t191)) (of_decide_eq_true (by first | (with_reducible assumption) | assumption)) (by first | omega | exact of_decide_eq_true (by first | (with_reducible assumption) | assumption)) (of_decide_eq_true (by first | (with_reducible assumption) | assumption)) HC1.out
                                          have HR197 := Aside0.mk (Kd.C_of_reads (h1 := fun _ => rfl) (hA37 _ (Kd.reads_of_C HR1.out)))
                                          have HC197 := Aside0.mk hC37
                                          clear hA37 hC37 hi037 hsz37
                                          have hcv38 := Kd.C_string (P := Tryd.prog) (A := A37) (c := (c1 - t192.toNat)) Tryd.underlying25 Tryd.underlying5 Tryd.underlying9 (Kd.C_below HR197.out HB.out)
                                          have hcv38b := hcv38
                                          simp only [List.length_drop, List.length_take] at hcv38b
                                          try (rw [Nat.min_eq_left] at hcv38b; rotate_left; omega)
                                          go_wp2_with (first | ((with_reducible refine gate_builtin (b := .append) (xs := #[.tmp 88, .tmp 97]) rfl ?_); (try (refine gate_guard (by rfl) ?_; dsimp only)); at_builtin; refine Kd.R_append k51 (w0 := w) w.heap.size rfl (.tmp 88) (.tmp 97) 30 51 (.agg #[(.int .i64 0), (.string ⟨#[]⟩)]) 24 rfl Tryd.underlying30 info51 rfl (by decide) (by omega) (.slice Ao9 x9_1.length co9) x9_1 (⟨0, strOfNums ((l1.take ((wrap64 (t192 + t191)) : Int).toNat).drop (t192 : Int).toNat)⟩ : S51) [.int .i64 0, .string (strOfNums ((l1.take ((wrap64 (t192 + t191)) : Int).toNat).drop (t192 : Int).toNat))] (fun _ => True) (fun _ => False) rfl rfl ?aP (fun _ hk => hk.elim) ?aF ?aO ?aB ?aS ?aL ?_; (case aP => exact k51_mkM _ _ _ (⟨0, strOfNums ((l1.take ((wrap64 (t192 + t191)) : Int).toNat).drop (t192 : Int).toNat)⟩ : S51)); (case aB => exact (by repeat (first | (with_reducible first | exact HB.out | apply below_alloc | apply pw_below_drewN | apply below_drew1) | exact HB.out))); (case aF => exact (fun _ _ => trivial)); (case aO => exact (by (with_reducible repeat (first | apply Kd.R_alloc | apply Kd.R_drewN | apply Kd.R_drew)); exact HO_9.out)); (case aS => exact (below_size (by repeat (first | (with_reducible first | exact HB.out | apply below_alloc | apply pw_below_drewN | apply below_drew1) | exact HB.out)))); (case aL => have := LMc36.out; omega); intro v199 w39 ho hb hg hat; rw [← Ny198.out] at ho; have n0_ := Aside0.mk (hb); have n1_ := Aside0.mk (ho); clear HB; clear HO_9; have HB := n0_; have HO200 := n1_; clear n0_ n1_; clear ho hb hg hat))
                                          go_roundg kj27
                                          case measure => have := HK1.out; have := HJ7.out; have := HJ27.out; omega
                                          case rel => exact ⟨(y198), (wrap64 (t192 + t191)), (by first | rfl | (simp; done) | (simp [*]; done)), H', ⟨by have := HK1.out; have := HJ7.out; have := HJ27.out; omega⟩, ⟨by (with_reducible repeat (first | apply Kd.R_alloc | apply Kd.R_drewN | apply Kd.R_drew)); exact HO200.out⟩, ⟨by repeat (first | (with_reducible first | exact HB.out | apply below_alloc | apply pw_below_drewN | apply below_drew1) | exact HB.out)⟩⟩
                                        · rw [if_neg c36] at H
                                          exact absurd H (by simp)
                                      · rw [if_neg c35] at H
                                        exact absurd H (by simp)
                                    · rw [if_neg c34] at H
                                      exact absurd H (by simp)
                                  · rw [if_neg c33] at H
                                    exact absurd H (by simp)
                      · rw [if_neg c22] at H
                        exact absurd H (by simp)
                    · rw [if_neg c21] at H
                      exact absurd H (by simp)
                · rw [if_neg c18] at H
                  have c18b0 : (t193 == 0) = false := beq_eq_false_iff_ne.mpr c18
                  have c18b1 : (t193 != 0) = true := bne_iff_ne.mpr c18
                  simp only [Option.some.injEq, Prod.mk.injEq] at H
                  obtain ⟨rfl, rfl⟩ := H
                  go_wp2_with (first | ((with_reducible refine gate_callee (f := 27) rfl ?_); refine goesL_ (some 56) rfl rfl Tryd.func27 (by kernel_rfl) rfl #[.slice A1 l1.length c1, .int .i64 x10_1] rfl (by (try simp only [List.map_toArray, List.map_cons, List.map_nil]); first | done | rfl | (simp only [List.length_drop, List.length_take]; rfl)) ?_; (with_reducible refine (groupageref03_take.calls kj7 _ _ l1 x10_1 t191 t192 t193 _ ?side1 ?side2 A17.out).mono ?_); (case side1 => repeat (first | exact (Kd.C_below HR1.out HB.out) | (with_reducible refine Kd.C_alloc ?_ _) | (with_reducible refine Kd.C_drewN ?_ _) | (with_reducible refine Kd.C_drew ?_))); (case side2 => exact HC1.out); rintro e w40 ⟨rfl, hb⟩; refine ⟨_, rfl, ?_⟩; have n0_ := Aside0.mk (Kd.R_below (by (with_reducible repeat (first | apply Kd.R_alloc | apply Kd.R_drewN | apply Kd.R_drew)); exact HO_9.out) hb); have n1_ := Aside0.mk (below_step (by repeat (first | (with_reducible first | exact HB.out | apply below_alloc | apply pw_below_drewN | apply below_drew1) | exact HB.out)) hb); clear HO_9; clear HB; have HO_9 := n0_; have HB := n1_; clear n0_ n1_; (try clear hb); (try clear hb2); (try clear hk); (try clear hi)))
                  go_ret2
                  exact ⟨_, by first | rfl | (simp [errW_none, errW_some] <;> rfl) | (simp [*, errW_none, errW_some] <;> rfl), by first | exact Kd.R_nil _ _ _ _ _ | exact Kd.N_nil _ _ _ _ _ | exact Kd.V_nil _ _ _ _ _ | exact Kd.Q_nil _ _ _ _ _ | exact Kd.S_nil _ _ _ _ _, by repeat (first | (with_reducible first | exact HB.out | apply below_alloc | apply pw_below_drewN | apply below_drew1) | exact HB.out)⟩
  · replace c4 := Bool.eq_false_iff.mpr c4
    subst c4
    have H1 : (some (([] : List (S51)), 1)) = some (r1, r2) := by rw [if_neg (show ¬ (false = true) by decide)] at H; exact H
    clear H
    have H := H1
    clear H1
    simp only [Option.some.injEq, Prod.mk.injEq] at H
    obtain ⟨rfl, rfl⟩ := H
    go_enter Tryd.func16, Tryd.ntmps16
    go_wp2_with (first | ((with_reducible refine gate_callee (f := 21) rfl ?_); refine goesL_ (some 17) rfl rfl Tryd.func21 (by kernel_rfl) rfl #[.string a0] rfl (by (try simp only [List.map_toArray, List.map_cons, List.map_nil]); first | done | rfl | (simp only [List.length_drop, List.length_take]; rfl)) ?_; (with_reducible refine (groupageref03_Letters.calls a0 t185 t186 false _ A3.out).mono ?_); rintro e w' ⟨rfl, ⟨nd, rfl⟩⟩; refine ⟨_, rfl, ?_⟩))
    go_ret2
    exact ⟨_, by first | rfl | (simp [errW_none, errW_some] <;> rfl) | (simp [*, errW_none, errW_some] <;> rfl), by first | exact Kd.R_nil _ _ _ _ _ | exact Kd.N_nil _ _ _ _ _ | exact Kd.V_nil _ _ _ _ _ | exact Kd.Q_nil _ _ _ _ _ | exact Kd.S_nil _ _ _ _ _, by repeat (first | (with_reducible first | exact HB.out | apply below_alloc | apply pw_below_drewN | apply below_drew1) | exact HB.out)⟩

/-! ### groupageref03_Same: function 17 -/
def groupageref03_Same.l0 : Nat → List (S51) → List (S51) → Int → Option (Bool)
  | 0, _, _, _ => none
  | k + 1, x0, x1, x5 => if x5 < (x0.length : Int) then (if 0 ≤ x5 then (if x5 < (x1.length : Int) then (if (!(((rd_T51 x0 x5).f0) == ((rd_T51 x1 x5).f0)) || (!((((rd_T51 x0 x5).f1).toList) == (((rd_T51 x1 x5).f1).toList)))) = true then (some false) else (groupageref03_Same.l0 k x0 x1 (wrap64 (x5 + 1)))) else (none)) else (none)) else (some true)
def groupageref03_Same.f (k : Nat) (l0 : List (S51)) (l1 : List (S51)) : Option (Bool) := if (l0.length : Int) = (l1.length : Int) then (groupageref03_Same.l0 k l0 l1 0) else (some false)
theorem groupageref03_Same.mono_l : ∀ k, (∀ y0 y1 y2, LeO (groupageref03_Same.l0 k y0 y1 y2) (groupageref03_Same.l0 (k + 1) y0 y1 y2))
  | 0 => fun _ _ _ r h => by simp [groupageref03_Same.l0] at h
  | k + 1 => by
    have ih0 := groupageref03_Same.mono_l k
    · intro y0 y1 y2
      unfold groupageref03_Same.l0
      repeat' first
      | (with_reducible exact ih0 _ _ _)
      | (with_reducible exact LeO.refl _)
      | (with_reducible exact LeO.none _)
      | (with_reducible refine LeO.ite ?_ ?_)
      | (with_reducible refine LeO.bind ?_ (fun _ => ?_))
      | exact ih0 _ _ _
      | exact LeO.none _
      | refine LeO.ite ?_ ?_
      | refine LeO.bind ?_ (fun _ => ?_)
theorem groupageref03_Same.mono : ∀ a0 a1 k, LeO (groupageref03_Same.f k a0 a1) (groupageref03_Same.f (k + 1) a0 a1) := by
  intro a0 a1 k
  have ih0 := groupageref03_Same.mono_l k
  unfold groupageref03_Same.f
  repeat' first
      | (with_reducible exact ih0 _ _ _)
      | (with_reducible exact LeO.refl _)
      | (with_reducible exact LeO.none _)
      | (with_reducible refine LeO.ite ?_ ?_)
      | (with_reducible refine LeO.bind ?_ (fun _ => ?_))
      | exact ih0 _ _ _
      | exact LeO.none _
      | refine LeO.ite ?_ ?_
      | refine LeO.bind ?_ (fun _ => ?_)
set_option maxHeartbeats 8000000 in
set_option maxRecDepth 100000 in
theorem groupageref03_Same.calls (k : Nat) (A0 : Option Addr) (c0 : Nat) (l0 : List (S51)) (A1 : Option Addr) (c1 : Nat) (l1 : List (S51)) (r : Bool) (w : World) (hr0 : Kd.C k51 w A0 l0.length l0) (hc0 : l0.length ≤ c0) (hr1 : Kd.C k51 w A1 l1.length l1) (hc1 : l1.length ≤ c1) (h : groupageref03_Same.f k l0 l1 = some r) :
    Calls Tryd.prog 17 #[.slice A0 l0.length c0, .slice A1 l1.length c1] w fun e w' => e = .returned (.bool r) ∧ Drawn0 w w' := by
  have hu51 := Tryd.underlying51
  have HR0 := Aside0.mk hr0
  have HC0 := Aside0.mk hc0
  clear hr0 hc0
  have HR1 := Aside0.mk hr1
  have HC1 := Aside0.mk hc1
  clear hr1 hc1
  have H : (if (l0.length : Int) = (l1.length : Int) then (groupageref03_Same.l0 k l0 l1 0) else (some false)) = some r := h
  clear h
  by_cases c3 : (l0.length : Int) = (l1.length : Int)
  · rw [if_pos c3] at H
    have c3b0 : ((l0.length : Int) == (l1.length : Int)) = true := beq_iff_eq.mpr c3
    have c3b1 : ((l0.length : Int) != (l1.length : Int)) = false := bne_eq_false_iff_eq.mpr c3
    have c3b2 : (l0.length == l1.length) = true := by first | simpa using c3 | (simp at c3 ⊢; omega)
    clear c3
    have H' := Aside0.mk H
    clear H
    go_enter Tryd.func17, Tryd.ntmps17
    go_wp2
    repeat (go_quiet (fail); try go_wp2)
    go_loopg [5] k (fun kq v5 w' => ∃ (x5_1 : Int), v5 = .int .i64 x5_1 ∧ Aside0 (groupageref03_Same.l0 kq l0 l1 x5_1 = some r) ∧ Aside0 (kq ≤ k) ∧ Drawn0 w w')
    case atStart => exact ⟨(0), (by first | rfl | (simp; done) | (simp [*]; done)), H', ⟨Nat.le_refl _⟩, by repeat (first | exact Drawn0.refl _ | apply Drawn0.step)⟩
    case round =>
      clear H'
      try clear c1
      try clear p2
      try clear c3
      try clear c3b0
      try clear c3b1
      try clear c3b2
      obtain ⟨x5_1, rfl, HA, HK1, ⟨m1, rfl⟩⟩ := hrel
      cases gk with
      | zero => exact absurd HA.out (by simp [groupageref03_Same.l0])
      | succ k1 =>
        have H := HA.out
        clear HA
        simp only [groupageref03_Same.l0] at H
        by_cases c4 : x5_1 < (l0.length : Int)
        · rw [if_pos c4] at H
          have c4b0 : decide (x5_1 < (l0.length : Int)) = true := decide_eq_true c4
          clear c4
          by_cases c5 : 0 ≤ x5_1
          · rw [if_pos c5] at H
            have c5b0 : decide (0 ≤ x5_1) = true := decide_eq_true c5
            clear c5
            by_cases c6 : x5_1 < (l1.length : Int)
            · rw [if_pos c6] at H
              have c6b0 : decide (x5_1 < (l1.length : Int)) = true := decide_eq_true c6
              clear c6
              by_cases c7 : (!(((rd_T51 l0 x5_1).f0) == ((rd_T51 l1 x5_1).f0)) || (!((((rd_T51 l0 x5_1).f1).toList) == (((rd_T51 l1 x5_1).f1).toList)))) = true
              · rw [if_pos c7] at H
                have c7b0 : (!(((rd_T51 l0 x5_1).f0) == ((rd_T51 l1 x5_1).f0)) || (!((((rd_T51 l0 x5_1).f1).toList) == (((rd_T51 l1 x5_1).f1).toList)))) = true := c7
                clear c7
                obtain rfl := Option.some.inj H
                have p201 : 0 ≤ (x5_1 : Int) := of_decide_eq_true (by first | (with_reducible assumption) | assumption)
                have q201 : x5_1 < (l0.length : Int) := of_decide_eq_true (by first | (with_reducible assumption) | assumption)
                obtain ⟨ad201, e201, hx201_0, hx201_1⟩ := at_T51 HR0.out x5_1 p201 q201
                cases e201
                replace p201 := eq_true p201
                replace q201 := eq_true q201
                have p202 : 0 ≤ (x5_1 : Int) := of_decide_eq_true (by first | (with_reducible assumption) | assumption)
                have q202 : x5_1 < (l1.length : Int) := of_decide_eq_true (by first | (with_reducible assumption) | assumption)
                obtain ⟨ad202, e202, hx202_0, hx202_1⟩ := at_T51 HR1.out x5_1 p202 q202
                cases e202
                replace p202 := eq_true p202
                replace q202 := eq_true q202
                go_wp2
                repeat (go_quiet (fail); try go_wp2)
                go_ret
                exact ⟨by first | rfl | (simp; done) | (simp [*]; done), by repeat (first | exact Drawn0.refl _ | apply Drawn0.step)⟩
              · rw [if_neg c7] at H
                have c7b0 : (!(((rd_T51 l0 x5_1).f0) == ((rd_T51 l1 x5_1).f0)) || (!((((rd_T51 l0 x5_1).f1).toList) == (((rd_T51 l1 x5_1).f1).toList)))) = false := by simpa using c7
                clear c7
                have H' := Aside0.mk H
                clear H
                have p201 : 0 ≤ (x5_1 : Int) := of_decide_eq_true (by first | (with_reducible assumption) | assumption)
                have q201 : x5_1 < (l0.length : Int) := of_decide_eq_true (by first | (with_reducible assumption) | assumption)
                obtain ⟨ad201, e201, hx201_0, hx201_1⟩ := at_T51 HR0.out x5_1 p201 q201
                cases e201
                replace p201 := eq_true p201
                replace q201 := eq_true q201
                have p202 : 0 ≤ (x5_1 : Int) := of_decide_eq_true (by first | (with_reducible assumption) | assumption)
                have q202 : x5_1 < (l1.length : Int) := of_decide_eq_true (by first | (with_reducible assumption) | assumption)
                obtain ⟨ad202, e202, hx202_0, hx202_1⟩ := at_T51 HR1.out x5_1 p202 q202
                cases e202
                replace p202 := eq_true p202
                replace q202 := eq_true q202
                go_wp2
                repeat (go_quiet (fail); try go_wp2)
                go_roundg k1
                case measure => have := HK1.out; omega
                case rel => exact ⟨(wrap64 (x5_1 + 1)), (by first | rfl | (simp; done) | (simp [*]; done)), H', ⟨by have := HK1.out; omega⟩, by repeat (first | exact Drawn0.refl _ | apply Drawn0.step)⟩
            · rw [if_neg c6] at H
              exact absurd H (by simp)
          · rw [if_neg c5] at H
            exact absurd H (by simp)
        · rw [if_neg c4] at H
          have c4b0 : decide (x5_1 < (l0.length : Int)) = false := decide_eq_false c4
          clear c4
          obtain rfl := Option.some.inj H
          go_wp2
          repeat (go_quiet (fail); try go_wp2)
          go_ret
          exact ⟨by first | rfl | (simp; done) | (simp [*]; done), by repeat (first | exact Drawn0.refl _ | apply Drawn0.step)⟩
  · rw [if_neg c3] at H
    have c3b0 : ((l0.length : Int) == (l1.length : Int)) = false := beq_eq_false_iff_ne.mpr c3
    have c3b1 : ((l0.length : Int) != (l1.length : Int)) = true := bne_iff_ne.mpr c3
    have c3b2 : (l0.length == l1.length) = false := by first | simpa using c3 | (simp at c3 ⊢; omega)
    obtain rfl := Option.some.inj H
    go_enter Tryd.func17, Tryd.ntmps17
    go_wp2
    repeat (go_quiet (fail); try go_wp2)
    go_ret
    exact ⟨by first | rfl | (simp; done) | (simp [*]; done), by repeat (first | exact Drawn0.refl _ | apply Drawn0.step)⟩

/-! ### groupagelaw03_PackReads: function 4 -/
def groupagelaw03_PackReads.j0 : Nat → ByteArray → List Int → Bool → Option (Bool)
  | 0, _, _, _ => none
  | k + 1, x0, x1, x18 => if x18 = true then (some true) else ((pack_Read.f x0 x1).bind fun bt204 => ((groupageref03_Read.f k x0 x1).bind fun bt208 => ((groupagelaw03_own.f k bt204.1).bind fun t212 => ((groupageref03_Same.f k t212 bt208.1).bind fun t215 => (if t215 = true then (some (bt204.2 == bt208.2)) else (some false))))))
def groupagelaw03_PackReads.f (k : Nat) (a0 : ByteArray) (l1 : List Int) : Option (Bool) := (groupagelaw03_awake.f).bind fun t203 => (if t203 = true then (if (l1.length : Int) > 21000 then (groupagelaw03_PackReads.j0 k a0 l1 true) else (groupagelaw03_PackReads.j0 k a0 l1 (decide ((a0.size : Int) > 40)))) else (some false))
theorem groupagelaw03_PackReads.mono_l : ∀ k, (∀ y0 y1 y2, LeO (groupagelaw03_PackReads.j0 k y0 y1 y2) (groupagelaw03_PackReads.j0 (k + 1) y0 y1 y2))
  | 0 => fun _ _ _ r h => by simp [groupagelaw03_PackReads.j0] at h
  | k + 1 => by
    have ih0 := groupagelaw03_PackReads.mono_l k
    · intro y0 y1 y2
      unfold groupagelaw03_PackReads.j0
      repeat' first
      | (with_reducible exact ih0 _ _ _)
      | (with_reducible exact groupagelaw03_own.mono _ _)
      | (with_reducible exact groupageref03_Read.mono _ _ _)
      | (with_reducible exact groupageref03_Same.mono _ _ _)
      | (with_reducible exact LeO.refl _)
      | (with_reducible exact LeO.none _)
      | (with_reducible refine LeO.ite ?_ ?_)
      | (with_reducible refine LeO.bind ?_ (fun _ => ?_))
      | exact ih0 _ _ _
      | exact groupagelaw03_own.mono _ _
      | exact groupageref03_Read.mono _ _ _
      | exact groupageref03_Same.mono _ _ _
      | exact LeO.none _
      | refine LeO.ite ?_ ?_
      | refine LeO.bind ?_ (fun _ => ?_)
theorem groupagelaw03_PackReads.mono : ∀ a0 a1 k, LeO (groupagelaw03_PackReads.f k a0 a1) (groupagelaw03_PackReads.f (k + 1) a0 a1) := by
  intro a0 a1 k
  have ih0 := groupagelaw03_PackReads.mono_l k
  unfold groupagelaw03_PackReads.f
  repeat' first
      | (with_reducible exact ih0 _ _ _)
      | (with_reducible exact groupagelaw03_own.mono _ _)
      | (with_reducible exact groupageref03_Read.mono _ _ _)
      | (with_reducible exact groupageref03_Same.mono _ _ _)
      | (with_reducible exact LeO.refl _)
      | (with_reducible exact LeO.none _)
      | (with_reducible refine LeO.ite ?_ ?_)
      | (with_reducible refine LeO.bind ?_ (fun _ => ?_))
      | exact ih0 _ _ _
      | exact groupagelaw03_own.mono _ _
      | exact groupageref03_Read.mono _ _ _
      | exact groupageref03_Same.mono _ _ _
      | exact LeO.none _
      | refine LeO.ite ?_ ?_
      | refine LeO.bind ?_ (fun _ => ?_)
set_option maxHeartbeats 8000000 in
set_option maxRecDepth 100000 in
theorem groupagelaw03_PackReads.calls (k : Nat) (a0 : ByteArray) (A1 : Option Addr) (c1 : Nat) (l1 : List Int) (r : Bool) (w : World) (hr1 : Kd.C (Kd.int .u8) w A1 l1.length l1) (hc1 : l1.length ≤ c1) (h : groupagelaw03_PackReads.f k a0 l1 = some r) :
    Calls Tryd.prog 4 #[.string a0, .slice A1 l1.length c1] w fun e w' => e = .returned (.bool r) ∧ Below w.heap.size w w' := by
  have HR1 := Aside0.mk hr1
  have HC1 := Aside0.mk hc1
  clear hr1 hc1
  have HB := Aside0.mk (Below.refl w.heap.size w)
  have H : ((groupagelaw03_awake.f).bind fun t203 => (if t203 = true then (if (l1.length : Int) > 21000 then (groupagelaw03_PackReads.j0 k a0 l1 true) else (groupagelaw03_PackReads.j0 k a0 l1 (decide ((a0.size : Int) > 40)))) else (some false))) = some r := h
  clear h
  replace H := Option.bind_eq_some_iff.mp H
  obtain ⟨t203, A30, H⟩ := H
  replace H : (if t203 = true then (if (l1.length : Int) > 21000 then (groupagelaw03_PackReads.j0 k a0 l1 true) else (groupagelaw03_PackReads.j0 k a0 l1 (decide ((a0.size : Int) > 40)))) else (some false)) = some r := H
  have A3 := Aside0.mk A30
  clear A30
  by_cases c4 : t203 = true
  · subst c4
    have H1 : (if (l1.length : Int) > 21000 then (groupagelaw03_PackReads.j0 k a0 l1 true) else (groupagelaw03_PackReads.j0 k a0 l1 (decide ((a0.size : Int) > 40)))) = some r := by rw [if_pos rfl] at H; exact H
    clear H
    have H := H1
    clear H1
    have HC5 := Aside0.mk H
    clear H
    go_enter Tryd.func4, Tryd.ntmps4
    go_upto_region 3 with (first | ((with_reducible refine gate_callee (f := 7) rfl ?_); refine goesL_ (some 9) rfl rfl Tryd.func7 (by kernel_rfl) rfl #[] rfl (by (try simp only [List.map_toArray, List.map_cons, List.map_nil]); first | done | rfl | (simp only [List.length_drop, List.length_take]; rfl)) ?_; (with_reducible refine (groupagelaw03_awake.calls  true _ A3.out).mono ?_); rintro e w6 ⟨rfl, hb⟩; refine ⟨_, rfl, ?_⟩; have n0_ := Aside0.mk (below_step (by repeat (first | (with_reducible first | exact HB.out | apply below_alloc | apply pw_below_drewN | apply below_drew1) | exact HB.out)) hb); clear HB; have HB := n0_; clear n0_; (try clear hb); (try clear hb2); (try clear hk); (try clear hi)))
    (try simp only [Act.put, List.setIfInBounds_toArray, List.set_cons_zero, List.set_cons_succ])
    go_cut [18] (fun v18 wc => ∃ (kq : Nat) (x18_4 : Bool), v18 = .bool x18_4 ∧ Aside0 (groupagelaw03_PackReads.j0 kq a0 l1 x18_4 = some r) ∧ Aside0 (kq ≤ k) ∧ Aside0 (Below w.heap.size w wc))
    case first =>
      have H := HC5.out
      clear HC5
      by_cases c7 : (l1.length : Int) > 21000
      · rw [if_pos c7] at H
        have c7b0 : decide (21000 < (l1.length : Int)) = true := decide_eq_true c7
        have c7b1 : decide (21000 < l1.length) = true := decide_eq_true (by omega)
        clear c7
        (first | rw [c7b0] | (simp only [i64_w, i32_w]; rw [c7b0]) | skip)
        have H' := Aside0.mk H
        clear H
        go_wp2
        go_meet
        case rel => exact ⟨_, (true), (by first | rfl | (simp; done) | (simp [*]; done)), H', ⟨by first | omega | exact Nat.le_refl _⟩, ⟨by repeat (first | (with_reducible first | exact HB.out | apply below_alloc | apply pw_below_drewN | apply below_drew1) | exact HB.out)⟩⟩
      · rw [if_neg c7] at H
        have c7b0 : decide (21000 < (l1.length : Int)) = false := decide_eq_false c7
        have c7b1 : decide (21000 < l1.length) = false := decide_eq_false (by omega)
        clear c7
        (first | rw [c7b0] | (simp only [i64_w, i32_w]; rw [c7b0]) | skip)
        have H' := Aside0.mk H
        clear H
        go_wp2
        go_meet
        case rel => exact ⟨_, (decide ((a0.size : Int) > 40)), (by first | rfl | (simp; done) | (simp [*]; done)), H', ⟨by first | omega | exact Nat.le_refl _⟩, ⟨by repeat (first | (with_reducible first | exact HB.out | apply below_alloc | apply pw_below_drewN | apply below_drew1) | exact HB.out)⟩⟩
    case rest =>
      clear HC5
      try clear c1
      try clear p2
      try clear c4
      try clear c7
      try clear c7b0
      try clear c7b1
      obtain ⟨kq, x18_4, rfl, HA, HJ4, HB⟩ := hcut
      cases kq with
      | zero => exact absurd HA.out (by simp [groupagelaw03_PackReads.j0])
      | succ kj4 =>
        have H := HA.out
        clear HA
        simp only [groupagelaw03_PackReads.j0] at H
        by_cases c8 : x18_4 = true
        · subst c8
          have H1 : (some true) = some r := by rw [if_pos rfl] at H; exact H
          clear H
          have H := H1
          clear H1
          obtain rfl := Option.some.inj H
          go_wp2
          go_ret
          exact ⟨by first | rfl | (simp [errW_none, errW_some] <;> rfl) | (simp [*, errW_none, errW_some] <;> rfl), by repeat (first | (with_reducible first | exact HB.out | apply below_alloc | apply pw_below_drewN | apply below_drew1) | exact HB.out)⟩
        · replace c8 := Bool.eq_false_iff.mpr c8
          subst c8
          have H1 : ((pack_Read.f a0 l1).bind fun bt204 => ((groupageref03_Read.f kj4 a0 l1).bind fun bt208 => ((groupagelaw03_own.f kj4 bt204.1).bind fun t212 => ((groupageref03_Same.f kj4 t212 bt208.1).bind fun t215 => (if t215 = true then (some (bt204.2 == bt208.2)) else (some false)))))) = some r := by rw [if_neg (show ¬ (false = true) by decide)] at H; exact H
          clear H
          have H := H1
          clear H1
          replace H := Option.bind_eq_some_iff.mp H
          obtain ⟨⟨t204, t205⟩, A90, H⟩ := H
          replace H : ((groupageref03_Read.f kj4 a0 l1).bind fun bt208 => ((groupagelaw03_own.f kj4 t204).bind fun t212 => ((groupageref03_Same.f kj4 t212 bt208.1).bind fun t215 => (if t215 = true then (some (t205 == bt208.2)) else (some false))))) = some r := H
          have A9 := Aside0.mk A90
          clear A90
          replace H := Option.bind_eq_some_iff.mp H
          obtain ⟨⟨t208, t209⟩, A100, H⟩ := H
          replace H : ((groupagelaw03_own.f kj4 t204).bind fun t212 => ((groupageref03_Same.f kj4 t212 t208).bind fun t215 => (if t215 = true then (some (t205 == t209)) else (some false)))) = some r := H
          have A10 := Aside0.mk A100
          clear A100
          replace H := Option.bind_eq_some_iff.mp H
          obtain ⟨t212, A110, H⟩ := H
          replace H : ((groupageref03_Same.f kj4 t212 t208).bind fun t215 => (if t215 = true then (some (t205 == t209)) else (some false))) = some r := H
          have A11 := Aside0.mk A110
          clear A110
          replace H := Option.bind_eq_some_iff.mp H
          obtain ⟨t215, A120, H⟩ := H
          replace H : (if t215 = true then (some (t205 == t209)) else (some false)) = some r := H
          have A12 := Aside0.mk A120
          clear A120
          by_cases c13 : t215 = true
          · subst c13
            have H1 : (some (t205 == t209)) = some r := by rw [if_pos rfl] at H; exact H
            clear H
            have H := H1
            clear H1
            obtain rfl := Option.some.inj H
            go_wp2_with (first | ((with_reducible refine gate_callee (f := 15) rfl ?_); refine goesL_ (some 22) rfl rfl Tryd.func15 (by kernel_rfl) rfl #[.string a0, .slice A1 l1.length c1] rfl (by (try simp only [List.map_toArray, List.map_cons, List.map_nil]); first | done | rfl | (simp only [List.length_drop, List.length_take]; rfl)) ?_; (with_reducible refine (pack_Read.calls a0 _ _ l1 t204 t205 _ ?side1 ?side2 A9.out).mono ?_); (case side1 => repeat (first | exact (Kd.C_below HR1.out HB.out) | (with_reducible refine Kd.C_alloc ?_ _) | (with_reducible refine Kd.C_drewN ?_ _) | (with_reducible refine Kd.C_drew ?_))); (case side2 => exact HC1.out); rintro e w14 ⟨v206, rfl, ho0, hb⟩; refine ⟨_, rfl, ?_⟩; have n0_ := Aside0.mk (Kd.R_lower ho0 (below_size (by repeat (first | (with_reducible first | exact HB.out | apply below_alloc | apply pw_below_drewN | apply below_drew1) | exact HB.out)))); have n1_ := Aside0.mk (below_step (by repeat (first | (with_reducible first | exact HB.out | apply below_alloc | apply pw_below_drewN | apply below_drew1) | exact HB.out)) hb); clear HB; have HO207 := n0_; have HB := n1_; clear n0_ n1_; (try clear hb); (try clear hb2); (try clear hk); (try clear hi); (try clear ho0)) | ((with_reducible refine gate_callee (f := 16) rfl ?_); refine goesL_ (some 28) rfl rfl Tryd.func16 (by kernel_rfl) rfl #[.string a0, .slice A1 l1.length c1] rfl (by (try simp only [List.map_toArray, List.map_cons, List.map_nil]); first | done | rfl | (simp only [List.length_drop, List.length_take]; rfl)) ?_; (with_reducible refine (groupageref03_Read.calls kj4 a0 _ _ l1 t208 t209 _ ?side1 ?side2 A10.out).mono ?_); (case side1 => repeat (first | exact (Kd.C_below HR1.out HB.out) | (with_reducible refine Kd.C_alloc ?_ _) | (with_reducible refine Kd.C_drewN ?_ _) | (with_reducible refine Kd.C_drew ?_))); (case side2 => exact HC1.out); rintro e w15 ⟨v210, rfl, ho0, hb⟩; refine ⟨_, rfl, ?_⟩; have n0_ := Aside0.mk (Kd.R_below (by (with_reducible repeat (first | apply Kd.R_alloc | apply Kd.R_drewN | apply Kd.R_drew)); exact HO207.out) hb); have n1_ := Aside0.mk (Kd.R_lower ho0 (below_size (by repeat (first | (with_reducible first | exact HB.out | apply below_alloc | apply pw_below_drewN | apply below_drew1) | exact HB.out)))); have n2_ := Aside0.mk (below_step (by repeat (first | (with_reducible first | exact HB.out | apply below_alloc | apply pw_below_drewN | apply below_drew1) | exact HB.out)) hb); clear HO207; clear HB; have HO207 := n0_; have HO211 := n1_; have HB := n2_; clear n0_ n1_ n2_; (try clear hb); (try clear hb2); (try clear hk); (try clear hi); (try clear ho0); obtain ⟨Ao16, co16, eo16⟩ := Kd.R_slice HO207.out; subst eo16) | ((with_reducible refine gate_callee (f := 11) rfl ?_); refine goesL_ (some 32) rfl rfl Tryd.func11 (by kernel_rfl) rfl #[.slice Ao16 t204.length co16] rfl (by (try simp only [List.map_toArray, List.map_cons, List.map_nil]); first | done | rfl | (simp only [List.length_drop, List.length_take]; rfl)) ?_; (with_reducible refine (groupagelaw03_own.calls kj4 _ _ t204 t212 _ ?side1 ?side2 A11.out).mono ?_); (case side1 => repeat (first | exact (Kd.R_reads' HO207.out).2.2 | (with_reducible refine Kd.C_alloc ?_ _) | (with_reducible refine Kd.C_drewN ?_ _) | (with_reducible refine Kd.C_drew ?_))); (case side2 => exact (Kd.R_reads' HO207.out).2.1); rintro e w17 ⟨v213, rfl, ho0, hb⟩; refine ⟨_, rfl, ?_⟩; have n0_ := Aside0.mk (Kd.R_below (by (with_reducible repeat (first | apply Kd.R_alloc | apply Kd.R_drewN | apply Kd.R_drew)); exact HO207.out) hb); have n1_ := Aside0.mk (Kd.R_elder' (by (with_reducible repeat (first | apply Kd.R_alloc | apply Kd.R_drewN | apply Kd.R_drew)); exact HO211.out) (Kd.R_base ho0) hb); have n2_ := Aside0.mk (Kd.R_lower (Kd.R_new' ho0 (Kd.R_lt (by (with_reducible repeat (first | apply Kd.R_alloc | apply Kd.R_drewN | apply Kd.R_drew)); exact HO211.out))) (below_size (by repeat (first | (with_reducible first | exact HB.out | apply below_alloc | apply pw_below_drewN | apply below_drew1) | exact HB.out)))); have n3_ := Aside0.mk (below_step (by repeat (first | (with_reducible first | exact HB.out | apply below_alloc | apply pw_below_drewN | apply below_drew1) | exact HB.out)) hb); clear HO207; clear HO211; clear HB; have HO207 := n0_; have HO211 := n1_; have HO214 := n2_; have HB := n3_; clear n0_ n1_ n2_ n3_; (try clear hb); (try clear hb2); (try clear hk); (try clear hi); (try clear ho0); obtain ⟨Ao18, co18, eo18⟩ := Kd.R_slice HO214.out; subst eo18; obtain ⟨Ao19, co19, eo19⟩ := Kd.R_slice HO211.out; subst eo19) | ((with_reducible refine gate_callee (f := 17) rfl ?_); refine goesL_ (some 34) rfl rfl Tryd.func17 (by kernel_rfl) rfl #[.slice Ao18 t212.length co18, .slice Ao19 t208.length co19] rfl (by (try simp only [List.map_toArray, List.map_cons, List.map_nil]); first | done | rfl | (simp only [List.length_drop, List.length_take]; rfl)) ?_; (with_reducible refine (groupageref03_Same.calls kj4 _ _ t212 _ _ t208 true _ ?side1 ?side2 ?side3 ?side4 A12.out).mono ?_); (case side1 => repeat (first | exact (Kd.R_reads' HO214.out).2.2 | (with_reducible refine Kd.C_alloc ?_ _) | (with_reducible refine Kd.C_drewN ?_ _) | (with_reducible refine Kd.C_drew ?_))); (case side2 => exact (Kd.R_reads' HO214.out).2.1); (case side3 => repeat (first | exact (Kd.R_reads' HO211.out).2.2 | (with_reducible refine Kd.C_alloc ?_ _) | (with_reducible refine Kd.C_drewN ?_ _) | (with_reducible refine Kd.C_drew ?_))); (case side4 => exact (Kd.R_reads' HO211.out).2.1); rintro e w' ⟨rfl, ⟨nd, rfl⟩⟩; refine ⟨_, rfl, ?_⟩))
            go_ret
            exact ⟨by first | rfl | (simp [errW_none, errW_some] <;> rfl) | (simp [*, errW_none, errW_some] <;> rfl), by repeat (first | (with_reducible first | exact HB.out | apply below_alloc | apply pw_below_drewN | apply below_drew1) | exact HB.out)⟩
          · replace c13 := Bool.eq_false_iff.mpr c13
            subst c13
            have H1 : (some false) = some r := by rw [if_neg (show ¬ (false = true) by decide)] at H; exact H
            clear H
            have H := H1
            clear H1
            obtain rfl := Option.some.inj H
            go_wp2_with (first | ((with_reducible refine gate_callee (f := 15) rfl ?_); refine goesL_ (some 22) rfl rfl Tryd.func15 (by kernel_rfl) rfl #[.string a0, .slice A1 l1.length c1] rfl (by (try simp only [List.map_toArray, List.map_cons, List.map_nil]); first | done | rfl | (simp only [List.length_drop, List.length_take]; rfl)) ?_; (with_reducible refine (pack_Read.calls a0 _ _ l1 t204 t205 _ ?side1 ?side2 A9.out).mono ?_); (case side1 => repeat (first | exact (Kd.C_below HR1.out HB.out) | (with_reducible refine Kd.C_alloc ?_ _) | (with_reducible refine Kd.C_drewN ?_ _) | (with_reducible refine Kd.C_drew ?_))); (case side2 => exact HC1.out); rintro e w20 ⟨v206, rfl, ho0, hb⟩; refine ⟨_, rfl, ?_⟩; have n0_ := Aside0.mk (Kd.R_lower ho0 (below_size (by repeat (first | (with_reducible first | exact HB.out | apply below_alloc | apply pw_below_drewN | apply below_drew1) | exact HB.out)))); have n1_ := Aside0.mk (below_step (by repeat (first | (with_reducible first | exact HB.out | apply below_alloc | apply pw_below_drewN | apply below_drew1) | exact HB.out)) hb); clear HB; have HO207 := n0_; have HB := n1_; clear n0_ n1_; (try clear hb); (try clear hb2); (try clear hk); (try clear hi); (try clear ho0)) | ((with_reducible refine gate_callee (f := 16) rfl ?_); refine goesL_ (some 28) rfl rfl Tryd.func16 (by kernel_rfl) rfl #[.string a0, .slice A1 l1.length c1] rfl (by (try simp only [List.map_toArray, List.map_cons, List.map_nil]); first | done | rfl | (simp only [List.length_drop, List.length_take]; rfl)) ?_; (with_reducible refine (groupageref03_Read.calls kj4 a0 _ _ l1 t208 t209 _ ?side1 ?side2 A10.out).mono ?_); (case side1 => repeat (first | exact (Kd.C_below HR1.out HB.out) | (with_reducible refine Kd.C_alloc ?_ _) | (with_reducible refine Kd.C_drewN ?_ _) | (with_reducible refine Kd.C_drew ?_))); (case side2 => exact HC1.out); rintro e w21 ⟨v210, rfl, ho0, hb⟩; refine ⟨_, rfl, ?_⟩; have n0_ := Aside0.mk (Kd.R_below (by (with_reducible repeat (first | apply Kd.R_alloc | apply Kd.R_drewN | apply Kd.R_drew)); exact HO207.out) hb); have n1_ := Aside0.mk (Kd.R_lower ho0 (below_size (by repeat (first | (with_reducible first | exact HB.out | apply below_alloc | apply pw_below_drewN | apply below_drew1) | exact HB.out)))); have n2_ := Aside0.mk (below_step (by repeat (first | (with_reducible first | exact HB.out | apply below_alloc | apply pw_below_drewN | apply below_drew1) | exact HB.out)) hb); clear HO207; clear HB; have HO207 := n0_; have HO211 := n1_; have HB := n2_; clear n0_ n1_ n2_; (try clear hb); (try clear hb2); (try clear hk); (try clear hi); (try clear ho0); obtain ⟨Ao22, co22, eo22⟩ := Kd.R_slice HO207.out; subst eo22) | ((with_reducible refine gate_callee (f := 11) rfl ?_); refine goesL_ (some 32) rfl rfl Tryd.func11 (by kernel_rfl) rfl #[.slice Ao22 t204.length co22] rfl (by (try simp only [List.map_toArray, List.map_cons, List.map_nil]); first | done | rfl | (simp only [List.length_drop, List.length_take]; rfl)) ?_; (with_reducible refine (groupagelaw03_own.calls kj4 _ _ t204 t212 _ ?side1 ?side2 A11.out).mono ?_); (case side1 => repeat (first | exact (Kd.R_reads' HO207.out).2.2 | (with_reducible refine Kd.C_alloc ?_ _) | (with_reducible refine Kd.C_drewN ?_ _) | (with_reducible refine Kd.C_drew ?_))); (case side2 => exact (Kd.R_reads' HO207.out).2.1); rintro e w23 ⟨v213, rfl, ho0, hb⟩; refine ⟨_, rfl, ?_⟩; have n0_ := Aside0.mk (Kd.R_below (by (with_reducible repeat (first | apply Kd.R_alloc | apply Kd.R_drewN | apply Kd.R_drew)); exact HO207.out) hb); have n1_ := Aside0.mk (Kd.R_elder' (by (with_reducible repeat (first | apply Kd.R_alloc | apply Kd.R_drewN | apply Kd.R_drew)); exact HO211.out) (Kd.R_base ho0) hb); have n2_ := Aside0.mk (Kd.R_lower (Kd.R_new' ho0 (Kd.R_lt (by (with_reducible repeat (first | apply Kd.R_alloc | apply Kd.R_drewN | apply Kd.R_drew)); exact HO211.out))) (below_size (by repeat (first | (with_reducible first | exact HB.out | apply below_alloc | apply pw_below_drewN | apply below_drew1) | exact HB.out)))); have n3_ := Aside0.mk (below_step (by repeat (first | (with_reducible first | exact HB.out | apply below_alloc | apply pw_below_drewN | apply below_drew1) | exact HB.out)) hb); clear HO207; clear HO211; clear HB; have HO207 := n0_; have HO211 := n1_; have HO214 := n2_; have HB := n3_; clear n0_ n1_ n2_ n3_; (try clear hb); (try clear hb2); (try clear hk); (try clear hi); (try clear ho0); obtain ⟨Ao24, co24, eo24⟩ := Kd.R_slice HO214.out; subst eo24; obtain ⟨Ao25, co25, eo25⟩ := Kd.R_slice HO211.out; subst eo25) | ((with_reducible refine gate_callee (f := 17) rfl ?_); refine goesL_ (some 34) rfl rfl Tryd.func17 (by kernel_rfl) rfl #[.slice Ao24 t212.length co24, .slice Ao25 t208.length co25] rfl (by (try simp only [List.map_toArray, List.map_cons, List.map_nil]); first | done | rfl | (simp only [List.length_drop, List.length_take]; rfl)) ?_; (with_reducible refine (groupageref03_Same.calls kj4 _ _ t212 _ _ t208 false _ ?side1 ?side2 ?side3 ?side4 A12.out).mono ?_); (case side1 => repeat (first | exact (Kd.R_reads' HO214.out).2.2 | (with_reducible refine Kd.C_alloc ?_ _) | (with_reducible refine Kd.C_drewN ?_ _) | (with_reducible refine Kd.C_drew ?_))); (case side2 => exact (Kd.R_reads' HO214.out).2.1); (case side3 => repeat (first | exact (Kd.R_reads' HO211.out).2.2 | (with_reducible refine Kd.C_alloc ?_ _) | (with_reducible refine Kd.C_drewN ?_ _) | (with_reducible refine Kd.C_drew ?_))); (case side4 => exact (Kd.R_reads' HO211.out).2.1); rintro e w' ⟨rfl, ⟨nd, rfl⟩⟩; refine ⟨_, rfl, ?_⟩))
            go_ret
            exact ⟨by first | rfl | (simp [errW_none, errW_some] <;> rfl) | (simp [*, errW_none, errW_some] <;> rfl), by repeat (first | (with_reducible first | exact HB.out | apply below_alloc | apply pw_below_drewN | apply below_drew1) | exact HB.out)⟩
  · replace c4 := Bool.eq_false_iff.mpr c4
    subst c4
    have H1 : (some false) = some r := by rw [if_neg (show ¬ (false = true) by decide)] at H; exact H
    clear H
    have H := H1
    clear H1
    obtain rfl := Option.some.inj H
    go_enter Tryd.func4, Tryd.ntmps4
    go_wp2_with (first | ((with_reducible refine gate_callee (f := 7) rfl ?_); refine goesL_ (some 9) rfl rfl Tryd.func7 (by kernel_rfl) rfl #[] rfl (by (try simp only [List.map_toArray, List.map_cons, List.map_nil]); first | done | rfl | (simp only [List.length_drop, List.length_take]; rfl)) ?_; (with_reducible refine (groupagelaw03_awake.calls  false _ A3.out).mono ?_); rintro e w26 ⟨rfl, hb⟩; refine ⟨_, rfl, ?_⟩; have n0_ := Aside0.mk (below_step (by repeat (first | (with_reducible first | exact HB.out | apply below_alloc | apply pw_below_drewN | apply below_drew1) | exact HB.out)) hb); clear HB; have HB := n0_; clear n0_; (try clear hb); (try clear hb2); (try clear hk); (try clear hi)))
    go_ret
    exact ⟨by first | rfl | (simp [errW_none, errW_some] <;> rfl) | (simp [*, errW_none, errW_some] <;> rfl), by repeat (first | (with_reducible first | exact HB.out | apply below_alloc | apply pw_below_drewN | apply below_drew1) | exact HB.out)⟩

/-- THE ONE PURE STATEMENT of groupagelaw03_PackReads: yours. -/
def groupagelaw03_PackReads.Pure : Prop := ∀ (a0 : ByteArray) (l1 : List Int), a0.size ≤ 140737488351232 → l1.length ≤ maxLen → l1.length * 1 ≤ 140737488351232 → (∀ x ∈ l1, (Lit.int .u8 x).wf = true) → ∃ k, groupagelaw03_PackReads.f k a0 l1 = some true
theorem groupagelaw03_PackReads.walk (P : groupagelaw03_PackReads.Pure) (a0 : ByteArray) (a1 : Option Addr) (len1 cap1 : Nat) (z1 : List Int) (w : World) (w0 : a0.size ≤ 140737488351232) (w1 : (a1 = none ∧ len1 = 0 ∧ cap1 = 0 ∧ z1 = []) ∨ ∃ x, a1 = some x ∧ len1 ≤ cap1 ∧ cap1 ≤ maxLen ∧ z1.length = cap1 ∧ (∀ i, i < z1.length → w.cell? (x.add i) = some (.int .u8 (z1.getD i 0))) ∧ ∀ n ∈ z1, (Lit.int .u8 n).wf = true) (y1 : len1 * 1 ≤ 140737488351232) :
    Calls Tryd.prog 4 #[.string a0, .slice a1 len1 cap1] w fun e w' => e = .returned (.bool true) ∧ Below w.heap.size w w' := by
  obtain ⟨l1, rfl, hr1, hm1, hw1, hc1⟩ := ReadsInt.ofRowC w1
  obtain ⟨k, h⟩ := P a0 l1 w0 hm1 y1 hw1
  refine (groupagelaw03_PackReads.calls k a0 _ _ l1 true w (Kd.C_of_reads (d := (0 : Int)) (h1 := fun _ => rfl) hr1) hc1 h).mono ?_
  rintro e w' ⟨rfl, hd⟩
  exact ⟨rfl, hd⟩

end Go.Proofs.YtalndlemejalaaaDoor.P
