/- slices.Clone of bytes. -/
import Derived.Test.YtalndlemejalaaaDoorGAll
namespace Go.Proofs.YtalndlemejalaaaDoor.P
open Go.RowKit Go.Proofs.YtalndlemejalaaaDoor.Box Go.Proofs.YtalndlemejalaaaDoorW.PrintWords Go.Proofs.YtalndlemejalaaaDoorW.PrintLast Go.Proofs.YtalndlemejalaaaDoorW.PrintMore
set_option linter.unusedVariables false
set_option linter.unusedSimpArgs false

set_option maxHeartbeats 8000000 in
set_option maxRecDepth 100000 in
theorem clone_any (w0 w : World) (A : Option Addr) (c : Nat) (l : List Int) (hB : Below w0.heap.size w0 w) (hc : l.length ≤ c) (h : (Kd.int .u8).C w A l.length l) (hl : l.length ≤ 1048576) :
    Calls Tryd.prog 25 #[.slice A l.length c] w fun e w' => ∃ v, e = .returned v ∧ (Kd.int .u8).R 5 w' w0.heap.size (fun _ => True) v l ∧ Below w0.heap.size w0 w' := by
  have HB := Aside0.mk hB
  have HC := Aside0.mk h
  clear hB h
  cases A with
  | none =>
    have hl0 : l = [] := by
      cases l with
      | nil => rfl
      | cons x t => obtain ⟨ad, h1, _⟩ := Kd.at_int HC.out 0 (by omega) (by simp); cases h1
    subst hl0
    have hcmp : ∀ W : World, (binOp .eql 25 (.slice none 0 c) (.slice none 0 0)).run Tryd.prog W = .ok (.bool true) W := fun W => by rfl
    simp only [List.length_nil]
    go_enter Tryd.func25, Tryd.ntmps25
    go_wp2
    go_ret
    exact ⟨_, rfl, Kd.R_nil _ _ _ _ _, HB.out⟩
  | some ad =>
    have hO : Aside0 ((Kd.int .u8).R 5 (w.alloc (.cells #[] 5)) w0.heap.size (fun _ => True) (.slice (some ⟨w.heap.size, 0, none⟩) 0 0) []) := ⟨by
      refine ⟨fun _ _ => trivial, [], ?_, Reps.none _ _⟩
      have h2 := World.ownsRow_lit (base := w0.heap.size) (e := 5) (size := 1) w #[] 0 (below_size HB.out) (by simp [maxLen]) rfl
      exact h2⟩
    have hR : Aside0 ((Kd.int .u8).C (w.alloc (.cells #[] 5)) (some ad) l.length l) := ⟨Kd.C_alloc HC.out _⟩
    have hcmp : ∀ W : World, (binOp .eql 25 (.slice (some ad) l.length c) (.slice none 0 0)).run Tryd.prog W = .ok (.bool false) W := fun W => by rfl
    go_enter Tryd.func25, Tryd.ntmps25
    go_wp2_with (first | ((with_reducible refine gate_builtin (b := .append) (xs := #[.tmp 5, .tmp 6]) rfl ?_); at_builtin; refine Kd.R_append_row (Value.int .u8) (0 : Int) (h1 := fun _ => rfl) (w0 := w0) w0.heap.size rfl (.tmp 5) (.tmp 6) 25 5 (.int .u8 0) 1 rfl Tryd.underlying25 info5 rfl (by omega) (.slice (some ⟨w.heap.size, 0, none⟩) 0 0) [] l (some ad) l.length c (fun _ => True) rfl rfl (fun _ _ => trivial) ?aO ?aR ?aB ?aS ?aL ?_; (case aO => exact hO.out); (case aR => exact hR.out); (case aB => exact below_alloc HB.out _); (case aS => exact below_size (below_alloc HB.out _)); (case aL => simp; omega); intro v1 w1 ho hb hg hat; have HO1 := Aside0.mk ho; have HB1 := Aside0.mk hb; clear ho hb hg hat))
    go_ret
    exact ⟨_, rfl, HO1.out, HB1.out⟩
end Go.Proofs.YtalndlemejalaaaDoor.P
