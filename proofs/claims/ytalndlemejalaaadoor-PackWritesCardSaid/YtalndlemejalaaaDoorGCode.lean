/- pack: what is written is read, and back: plain lists. -/
import Derived.Test.YtalndlemejalaaaDoorGRead
namespace Go.Proofs.YtalndlemejalaaaDoor.P
open Go.RowKit Go.Proofs.YtalndlemejalaaaDoor.Box Go.Proofs.YtalndlemejalaaaDoorW.PrintWords Go.Proofs.YtalndlemejalaaaDoorW.PrintLast Go.Proofs.YtalndlemejalaaaDoorW.PrintMore

theorem zz_unzz (u : Nat) : zz (unzz u) = u := by
  unfold unzz zz
  split <;> split <;> omega
theorem unzz_zz (n : Int) : unzz (zz n) = n := by
  unfold unzz zz
  split <;> split <;> omega
theorem rnum_canon : ∀ (b : List Int) (i u u' : Nat) (t : List Int), Bytes b → rnum i u b = .ok (u', t) → ∃ v, u' = u + v * 128 ^ i ∧ b = vb v ++ t ∧ (0 < i → 0 < v)
  | [], i, u, u', t, _, h => by simp [rnum] at h
  | c :: b, i, u, u', t, hb, h => by
    have hc := hb c List.mem_cons_self
    rw [rnum] at h
    split at h
    · cases h
    · rename_i hbad
      split at h
      · rename_i h128
        injection h with h
        injection h with h1 h2
        refine ⟨c.toNat, ?_, ?_, fun hi => ?_⟩
        · rw [← h1]
          congr 2
          omega
        · rw [vb_small (by omega), h2, List.cons_append, List.nil_append]
          congr 1
          omega
        · have : ¬ c = 0 := fun h0 => hbad (.inr ⟨h0, hi⟩)
          omega
      · rename_i h128
        obtain ⟨v, e, eb, hv⟩ := rnum_canon b (i + 1) _ u' t (fun x hx => hb x (List.mem_cons_of_mem _ hx)) h
        have hv0 := hv (by omega)
        refine ⟨(c % 128).toNat + 128 * v, ?_, ?_, fun _ => by omega⟩
        · rw [e, Nat.pow_succ, Nat.add_mul, Nat.add_assoc]
          congr 2
          rw [Nat.mul_comm (128 ^ i) 128, ← Nat.mul_assoc, Nat.mul_comm v 128]
        · rw [vb_large (by omega), eb, List.cons_append]
          congr 1
          · omega
          · congr 1
            congr 1
            omega
theorem rnum_enc : ∀ (n v i u : Nat) (t : List Int), v < n → v * 128 ^ i < 18446744073709551616 → (0 < i → 0 < v) → rnum i u (vb v ++ t) = .ok (u + v * 128 ^ i, t)
  | 0, v, i, u, t, h, _, _ => by omega
  | n + 1, v, i, u, t, hn, hlt, hi => by
    have h9 : i = 9 → v < 2 := by
      rintro rfl
      have : (128 : Nat) ^ 9 = 9223372036854775808 := by decide
      rw [this] at hlt
      omega
    by_cases h128 : v < 128
    · have hb1 : ¬ ((i = 9 ∧ 1 < (v : Int)) ∨ ((v : Int) = 0 ∧ 0 < i)) := by
        rintro (⟨h, h'⟩ | ⟨h, h'⟩)
        · have := h9 h; omega
        · have := hi h'; omega
      rw [vb_small h128, List.cons_append, List.nil_append, rnum, if_neg hb1, if_pos (by omega)]
      congr 4
      omega
    · have hb1 : ¬ ((i = 9 ∧ 1 < ((v % 128 + 128 : Nat) : Int)) ∨ (((v % 128 + 128 : Nat) : Int) = 0 ∧ 0 < i)) := by
        rintro (⟨h, _⟩ | ⟨h, h'⟩)
        · have := h9 h; omega
        · omega
      rw [vb_large h128, List.cons_append, rnum, if_neg hb1, if_neg (by omega)]
      have e1 : ((((v % 128 + 128 : Nat) : Int)) % 128).toNat = v % 128 := by omega
      rw [e1, rnum_enc n (v / 128) (i + 1) _ t (by omega) ?_ (fun _ => by omega)]
      · congr 2
        rw [Nat.pow_succ, Nat.add_assoc]
        congr 1
        have : v = v % 128 + 128 * (v / 128) := (Nat.mod_add_div v 128).symm
        conv => rhs; rw [this, Nat.add_mul]
        congr 1
        rw [Nat.mul_comm (128 ^ i) 128, ← Nat.mul_assoc, Nat.mul_comm (v / 128) 128]
      · rw [Nat.pow_succ]
        refine Nat.lt_of_le_of_lt ?_ hlt
        rw [Nat.mul_comm (128 ^ i) 128, ← Nat.mul_assoc]
        exact Nat.mul_le_mul_right _ (Nat.div_mul_le_self v 128)
theorem fit_n {n : Int} {s : ByteArray} : fitB 110 (n, s) = true ↔ s.size = 0 ∧ -4611686018427387904 ≤ n ∧ n ≤ 4611686018427387904 := by
  unfold fitB
  rw [if_pos rfl]
  simp only [Bool.and_eq_true, decide_eq_true_eq]
  constructor
  · rintro ⟨⟨h1, h2⟩, h3⟩; exact ⟨by first | exact h1 | simpa using h1, h2, h3⟩
  · rintro ⟨h1, h2, h3⟩; exact ⟨⟨by first | exact h1 | simpa using h1, h2⟩, h3⟩
theorem rnumber_enc {n : Int} (h0 : -4611686018427387904 ≤ n) (h1 : n ≤ 4611686018427387904) (t : List Int) : rnumber (numB n ++ t) = .ok (n, t) := by
  unfold rnumber
  have hz := zz_lt h0 h1
  have e := rnum_enc (zz n + 1) (zz n) 0 0 t (by omega) (by simp; omega) (fun h => absurd h (by omega))
  unfold numB
  rw [e]
  simp only [Nat.zero_add, Nat.pow_zero, Nat.mul_one, unzz_zz]
  rw [if_pos]
  refine ⟨fit_n.2 ⟨rfl, h0, h1⟩, ?_⟩
  rw [List.length_append]
  show (vb (zz n)).length = _
  omega
/-- What is read of a number, without the reader's own test of its length: that test never says no. -/
theorem rnumber_eq (b : List Int) (hb : Bytes b) : rnumber b = match rnum 0 0 b with | .error e => .error e | .ok (u, t) => if fitB 110 (unzz u, ⟨#[]⟩) = true then .ok (unzz u, t) else .error 2 := by
  unfold rnumber
  cases h : rnum 0 0 b with
  | error e => rfl
  | ok ut =>
    obtain ⟨u, t⟩ := ut
    obtain ⟨v, e, eb, _⟩ := rnum_canon b 0 0 u t hb h
    simp only [Nat.zero_add, Nat.pow_zero, Nat.mul_one] at e
    subst e
    have hl : (numB (unzz u)).length = b.length - t.length := by
      unfold numB
      rw [zz_unzz, eb, List.length_append]; omega
    simp only [hl, and_true]
theorem rnumber_canon {b : List Int} {n : Int} {t : List Int} (hb : Bytes b) (h : rnumber b = .ok (n, t)) : b = numB n ++ t ∧ -4611686018427387904 ≤ n ∧ n ≤ 4611686018427387904 := by
  have hbd := rnumber_bound h
  unfold rnumber at h
  cases hr : rnum 0 0 b with
  | error e => rw [hr] at h; cases h
  | ok ut =>
    obtain ⟨u, t'⟩ := ut
    rw [hr] at h
    simp only at h
    split at h
    · injection h with h
      injection h with h1 h2
      obtain ⟨v, e, eb, _⟩ := rnum_canon b 0 0 u t' hb hr
      simp only [Nat.zero_add, Nat.pow_zero, Nat.mul_one] at e
      subst e
      refine ⟨?_, hbd⟩
      unfold numB
      rw [← h1, zz_unzz, ← h2]
      exact eb
    · cases h
end Go.Proofs.YtalndlemejalaaaDoor.P
