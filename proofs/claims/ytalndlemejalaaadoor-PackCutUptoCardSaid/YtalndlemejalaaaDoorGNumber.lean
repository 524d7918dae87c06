/- The reference's 'number' lays a number's bytes (numB): its walk by hand, for numbers from -2^62 to 2^62. -/
import Derived.Test.YtalndlemejalaaaDoorGPlain
namespace Go.Proofs.YtalndlemejalaaaDoor.P
open Go.RowKit Go.Proofs.YtalndlemejalaaaDoorW.PrintWords Go.Proofs.YtalndlemejalaaaDoorW.PrintLast Go.Proofs.YtalndlemejalaaaDoorW.PrintMore
set_option linter.unusedVariables false
set_option linter.unusedSimpArgs false

def groupageref03_number.f (a0 : Int) : Option (List Int) := if -4611686018427387904 ≤ a0 ∧ a0 ≤ 4611686018427387904 then some (numB a0) else none
theorem start_pos {n : Int} (h0 : 0 ≤ n) (h1 : n ≤ 4611686018427387904) : IntKind.u64.wrap (wrap64 (2 * n)) = ((zz n : Nat) : Int) := by
  rw [IntKind.wrap_u64, zz, if_pos h0]; unfold wrap64; omega
theorem start_neg {n : Int} (h1 : n < 0) : 2 * (-1 - n) + 1 = ((zz n : Nat) : Int) := by
  rw [zz, if_neg (by omega)]; omega
theorem lit0 (W : World) (base : Nat) (hb : base ≤ W.heap.size) : Kd.R (Kd.int .u8) 5 (W.alloc (.cells #[] 5)) base (fun _ => True) (.slice (some ⟨W.heap.size, 0, none⟩) 0 0) [] :=
  Kd.R_of_own (own_lit W base 5 .u8 [] hb (by simp)) (fun _ _ => trivial)

set_option maxHeartbeats 8000000 in
set_option maxRecDepth 100000 in
theorem number_walk (a0 : Int) (w : World) (h0 : -4611686018427387904 ≤ a0) (h1 : a0 ≤ 4611686018427387904) :
    Calls Tryd.prog 23 #[.int .i64 a0] w fun e w' => ∃ v0_ : Value, e = .returned (v0_) ∧ Kd.R (Kd.int .u8) 5 w' w.heap.size (fun _ => True) v0_ (numB a0) ∧ Below w.heap.size w w' := by
  have HZ := Aside0.mk (zz_lt h0 h1)
  have HL := Aside0.mk (numB_len h0 h1)
  have SP := Aside0.mk (fun hp : 0 ≤ a0 => start_pos hp h1)
  have SN := Aside0.mk (fun hn : a0 < 0 => start_neg (n := a0) hn)
  by_cases hneg : a0 < 0
  all_goals
    have HN := Aside0.mk hneg
    go_enter Tryd.func23, Tryd.ntmps23
    go_wp2
    go_loopw [3, 4] (fun u o wr => ∃ (q : Nat) (acc : List Int), u = .int .u64 q ∧ q < 18446744073709551616 ∧ Aside0 (acc ++ vb q = numB a0) ∧ Aside0 (Kd.R (Kd.int .u8) 5 wr w.heap.size (fun _ => True) o acc) ∧ Aside0 (Below w.heap.size w wr)) (fun u _ _ => (intOf u).toNat)
    case atStart =>
      refine ⟨zz a0, [], ?_, by have := HZ.out; omega, ⟨rfl⟩, ⟨lit0 w _ (Nat.le_refl _)⟩, ⟨below_alloc (Below.refl _ _) _⟩⟩
      first | rw [SN.out HN.out] | rw [SP.out (by have := HN.out; omega)]
    case round =>
      obtain ⟨q, acc, rfl, hq, HA, HO, HB⟩ := hrel
      have LM : Aside0 (acc.length ≤ 10) := ⟨by have h1 := HA.out; have h2 := HL.out; rw [← h1, List.length_append] at h2; omega⟩
      by_cases hs : q < 128
      · have e1 : ((q : Int) / 128 == 0) = true := by simp; omega
        have HR : Aside0 (acc ++ [(q : Int) % 128] = numB a0) := ⟨by have := HA.out; rw [vb_small hs] at this; rw [← this]; congr 2; omega⟩
        go_wp2_with (first | ((with_reducible refine gate_builtin (b := .append) (xs := #[.tmp 25, .tmp 27]) rfl ?_); at_builtin; refine Kd.R_append (Kd.int .u8) (w0 := w) w.heap.size rfl (.tmp 25) (.tmp 27) 25 5 (.int .u8 0) 1 rfl Tryd.underlying25 info5 rfl (by decide) (by omega) u4 acc ((q : Int) % 128) [.int .u8 ((q : Int) % 128)] (fun _ => True) (fun _ => False) rfl rfl ?aP (fun _ hk => hk.elim) ?aF ?aO ?aB ?aS ?aL ?_; (case aP => exact rfl); (case aB => exact (by repeat (first | (with_reducible first | exact HB.out | apply below_alloc | apply pw_below_drewN | apply below_drew1) | exact HB.out))); (case aF => exact (fun _ _ => trivial)); (case aO => exact (by (with_reducible repeat (first | apply Kd.R_alloc | apply Kd.R_drewN | apply Kd.R_drew)); exact HO.out)); (case aS => exact (below_size (by repeat (first | (with_reducible first | exact HB.out | apply below_alloc | apply pw_below_drewN | apply below_drew1) | exact HB.out)))); (case aL => have := LM.out; omega); intro v1 w1 ho hb hg hat; have n0_ := Aside0.mk hb; have n2_ := Aside0.mk ho; clear HB; clear HO; have HB := n0_; have HO1 := n2_; clear n0_ n2_; clear ho hb hg hat))
        go_ret
        exact ⟨_, rfl, by rw [← HR.out]; exact HO1.out, HB.out⟩
      · have e1 : ((q : Int) / 128 == 0) = false := by simp; omega
        have HR : Aside0 ((acc ++ [((q : Int) % 128 + 128)]) ++ vb (q / 128) = numB a0) := ⟨by have := HA.out; rw [vb_large hs] at this; rw [← this]; simp⟩
        go_wp2_with (first | ((with_reducible refine gate_builtin (b := .append) (xs := #[.tmp 29, .tmp 32]) rfl ?_); at_builtin; refine Kd.R_append (Kd.int .u8) (w0 := w) w.heap.size rfl (.tmp 29) (.tmp 32) 25 5 (.int .u8 0) 1 rfl Tryd.underlying25 info5 rfl (by decide) (by omega) u4 acc ((q : Int) % 128 + 128) [.int .u8 ((q : Int) % 128 + 128)] (fun _ => True) (fun _ => False) rfl rfl ?aP (fun _ hk => hk.elim) ?aF ?aO ?aB ?aS ?aL ?_; (case aP => exact rfl); (case aB => exact (by repeat (first | (with_reducible first | exact HB.out | apply below_alloc | apply pw_below_drewN | apply below_drew1) | exact HB.out))); (case aF => exact (fun _ _ => trivial)); (case aO => exact (by (with_reducible repeat (first | apply Kd.R_alloc | apply Kd.R_drewN | apply Kd.R_drew)); exact HO.out)); (case aS => exact (below_size (by repeat (first | (with_reducible first | exact HB.out | apply below_alloc | apply pw_below_drewN | apply below_drew1) | exact HB.out)))); (case aL => have := LM.out; omega); intro v1 w1 ho hb hg hat; have n0_ := Aside0.mk hb; have n2_ := Aside0.mk ho; clear HB; clear HO; have HB := n0_; have HO1 := n2_; clear n0_ n2_; clear ho hb hg hat))
        go_roundw
        case rel => exact ⟨q / 128, _, by go_num, by omega, HR, HO1, HB⟩
        case measure => simp [intOf]; omega
theorem groupageref03_number.calls (a0 : Int) (r : List Int) (w : World) (h : groupageref03_number.f a0 = some r) :
    Calls Tryd.prog 23 #[.int .i64 a0] w fun e w' => ∃ v0_ : Value, e = .returned (v0_) ∧ Kd.R (Kd.int .u8) 5 w' w.heap.size (fun _ => True) v0_ r ∧ Below w.heap.size w w' := by
  unfold groupageref03_number.f at h
  split at h
  · rename_i hc
    rw [← Option.some.inj h]
    exact number_walk a0 w hc.1 hc.2
  · cases h
end Go.Proofs.YtalndlemejalaaaDoor.P
