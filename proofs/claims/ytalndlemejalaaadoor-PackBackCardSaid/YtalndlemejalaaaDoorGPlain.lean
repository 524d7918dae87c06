/- What pack.Write and its reference lay: the bytes of numbers and of values, as plain Lean functions; and what the printed loops of 'number' come to. -/
import Derived.Test.YtalndlemejalaaaDoorPx3
import Derived.Lib.Zigzag
import Derived.Laws.BitsAllLaws
namespace Go.Proofs.YtalndlemejalaaaDoor.P
open Go.RowKit Go.Proofs.YtalndlemejalaaaDoorW.PrintWords Go.Proofs.YtalndlemejalaaaDoorW.PrintLast Go.Proofs.YtalndlemejalaaaDoorW.PrintMore

/-- A natural number by sevens of bits, the lowest first. -/
def vb (u : Nat) : List Int := if h : u < 128 then [(u : Int)] else ((u % 128 + 128 : Nat) : Int) :: vb (u / 128)
termination_by u
decreasing_by omega

theorem vb_small {u : Nat} (h : u < 128) : vb u = [(u : Int)] := by rw [vb, dif_pos h]
theorem vb_large {u : Nat} (h : ¬ u < 128) : vb u = ((u % 128 + 128 : Nat) : Int) :: vb (u / 128) := by rw [vb, dif_neg h]
theorem vb_len : ∀ (n u : Nat), u < 128 ^ (n + 1) → (vb u).length ≤ n + 1
  | 0, u, h => by rw [vb_small (by simpa using h)]; simp
  | n + 1, u, h => by
    by_cases hs : u < 128
    · rw [vb_small hs]; simp
    · rw [vb_large hs]
      have := vb_len n (u / 128) (by rw [Nat.div_lt_iff_lt_mul (by omega)]; rw [Nat.pow_succ] at h; exact h)
      simp only [List.length_cons]; omega
theorem vb_pos (u : Nat) : 0 < (vb u).length := by
  by_cases hs : u < 128
  · rw [vb_small hs]; simp
  · rw [vb_large hs]; simp
theorem vb_bytes (u : Nat) : ∀ x ∈ vb u, 0 ≤ x ∧ x ≤ 255 := by
  induction u using Nat.strongRecOn with
  | _ u ih =>
    by_cases hs : u < 128
    · rw [vb_small hs]; intro x hx; simp at hx; omega
    · rw [vb_large hs]; intro x hx
      rcases List.mem_cons.1 hx with rfl | hx
      · omega
      · exact ih (u / 128) (by omega) x hx

/-- Twice a number, or, of one below 0, -1 less twice it. -/
def zz (n : Int) : Nat := if 0 ≤ n then (2 * n).toNat else (-2 * n - 1).toNat
/-- A number's bytes. -/
def numB (n : Int) : List Int := vb (zz n)
theorem zz_lt {n : Int} (h0 : -4611686018427387904 ≤ n) (h1 : n ≤ 4611686018427387904) : zz n < 9223372036854775809 := by
  unfold zz; split <;> omega
theorem numB_len {n : Int} (h0 : -4611686018427387904 ≤ n) (h1 : n ≤ 4611686018427387904) : (numB n).length ≤ 10 :=
  vb_len 9 _ (by have := zz_lt h0 h1; omega)

theorem or_more : ∀ u : Fin 256, Go.bits .or .u8 (u.val : Int) 128 = ((u.val % 128 + 128 : Nat) : Int) := by decide +kernel

theorem number_l0 : ∀ (k u : Nat) (x : List Int), u < 128 ^ (k + 1) → x.length + k < 140737488355328 → pack_number.l0 (k + 1) x (u : Int) = some (x ++ vb u)
  | 0, u, x, h, hl => by
    have hu : u < 128 := by simpa using h
    rw [pack_number.l0, if_neg (by omega), if_pos (by omega), vb_small hu]
    congr 3; omega
  | k + 1, u, x, h, hl => by
    by_cases hu : u < 128
    · rw [pack_number.l0, if_neg (by omega), if_pos (by omega), vb_small hu]
      congr 3; omega
    · rw [pack_number.l0, if_pos (by omega), if_pos (by omega), vb_large hu]
      have e1 : ((u : Int) % 256) = (((⟨u % 256, by omega⟩ : Fin 256).val : Nat) : Int) := by simp
      have e2 : ((u : Int) / 128) = ((u / 128 : Nat) : Int) := by omega
      rw [e1, or_more, e2, number_l0 k (u / 128) _ (by rw [Nat.div_lt_iff_lt_mul (by omega)]; rw [Nat.pow_succ] at h; exact h) (by simp; omega)]
      have e3 : u % 256 % 128 + 128 = u % 128 + 128 := by omega
      simp only [e3, List.append_assoc, List.singleton_append]

theorem u64_xor_i64 (a b : Int) : IntKind.u64.wrap (Go.bits .xor .i64 a b) = (((BitVec.ofInt 64 a ^^^ BitVec.ofInt 64 b).toNat : Nat) : Int) := by
  show IntKind.u64.wrap (IntKind.i64.wrap (((BitVec.ofInt 64 a ^^^ BitVec.ofInt 64 b).toNat : Nat) : Int)) = _
  have h := (BitVec.ofInt 64 a ^^^ BitVec.ofInt 64 b).isLt
  generalize (BitVec.ofInt 64 a ^^^ BitVec.ofInt 64 b).toNat = t at h ⊢
  rw [IntKind.wrap_i64, IntKind.wrap_u64]
  omega
theorem ofInt_toNat (a : Int) : (((BitVec.ofInt 64 a).toNat : Nat) : Int) = a % 18446744073709551616 := by
  rw [BitVec.toNat_ofInt]; omega
theorem zig_all {n : Int} (h0 : -4611686018427387904 ≤ n) (h1 : n ≤ 4611686018427387904) : IntKind.u64.wrap (Go.bits .xor .i64 (wrap64 (n * 2)) (n / 9223372036854775808)) = ((zz n : Nat) : Int) := by
  rw [u64_xor_i64]
  by_cases h : 0 ≤ n
  · have e : n / 9223372036854775808 = 0 := by omega
    have e2 : BitVec.ofInt 64 (0 : Int) = 0#64 := by decide
    rw [e, e2, BitVec.xor_zero, ofInt_toNat, zz, if_pos h]
    unfold wrap64; omega
  · have e : n / 9223372036854775808 = -1 := by omega
    have e2 : (BitVec.ofInt 64 (-1 : Int)).toNat = 2 ^ 64 - 1 := by decide
    rw [e, BitVec.toNat_xor, e2, Nat.xor_comm, Lib.xor_ones64 _ (BitVec.isLt _), zz, if_neg h]
    have := ofInt_toNat (wrap64 (n * 2))
    have hlt := (BitVec.ofInt 64 (wrap64 (n * 2))).isLt
    unfold wrap64 at this hlt ⊢
    omega
/-- The printed 'number' lays a number's bytes. -/
theorem number_f {n : Int} (h0 : -4611686018427387904 ≤ n) (h1 : n ≤ 4611686018427387904) (x : List Int) (hl : x.length < 140737488355000) : pack_number.f 10 x n = some (x ++ numB n) := by
  unfold pack_number.f
  rw [zig_all h0 h1]
  exact number_l0 9 _ x (by have := zz_lt h0 h1; omega) (by omega)

/-! ### letters -/
/-- A form's letters, whether they come again, whether it may be. -/
def lettersOf (a0 : ByteArray) : ByteArray × Bool :=
  if a0.data.toList.getLast? = some 43 then (a0.extract 0 (a0.size - 1), true) else (a0, false)
def fineB (a0 : ByteArray) : Bool :=
  decide (a0.size ≤ 20) && decide (0 < (lettersOf a0).1.size) && (lettersOf a0).1.data.toList.all fun c => c == 110 || c == 116
end Go.Proofs.YtalndlemejalaaaDoor.P
