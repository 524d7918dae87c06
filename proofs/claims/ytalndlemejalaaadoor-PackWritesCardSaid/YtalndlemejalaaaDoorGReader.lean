/- The reader of bytes: what byte, number and text take, or by what they panic: walks by hand. -/
import Derived.Test.YtalndlemejalaaaDoorGVals
import Derived.Test.YtalndlemejalaaaDoorBox
import Derived.WalkLawsBesides
import Derived.Outline
import Derived.Deep.RegionHeld3
namespace Go.Proofs.YtalndlemejalaaaDoor.P
open Go.RowKit Go.Proofs.YtalndlemejalaaaDoor.Box Go.Proofs.YtalndlemejalaaaDoorW.PrintWords Go.Proofs.YtalndlemejalaaaDoorW.PrintLast Go.Proofs.YtalndlemejalaaaDoorW.PrintMore
set_option linter.unusedVariables false
set_option linter.unusedSimpArgs false

/-- A reader at block g has these bytes still. -/
def RdAt (w : World) (g : Nat) (b : List Int) : Prop :=
  ∃ A c, w.heap[g]? = some (.cells #[.slice A b.length c] 55 (0, 0)) ∧ b.length ≤ c ∧ (Kd.int .u8).C w A b.length b ∧ (∀ ad, A = some ad → 0 < b.length → ad.block < g)
theorem RdAt.heap {w w1 : World} {g : Nat} {b : List Int} (h : RdAt w g b) (hs : ∀ i, i < w.heap.size → w1.heap[i]? = w.heap[i]?) (hz : w.heap.size ≤ w1.heap.size) : RdAt w1 g b := by
  obtain ⟨A, c, hg, hl, hc, hf⟩ := h
  have hlt : g < w.heap.size := (Array.getElem?_eq_some_iff.1 hg).1
  refine ⟨A, c, (hs g hlt).trans hg, hl, ?_, hf⟩
  exact Kd.C_keep (0 : Int) hc (g := g) ⟨hz, fun i hi _ _ => hs i hi⟩ (fun ad h h0 => Nat.ne_of_lt (hf ad h h0))
theorem RdAt.below {w w1 : World} {g : Nat} {b : List Int} (h : RdAt w g b) (hb : Below w.heap.size w w1) : RdAt w1 g b := h.heap (fun i hi => hb.block i hi) hb.size
theorem RdAt.keep0 {w w1 : World} {g : Nat} {b : List Int} (h : RdAt w g b) (hk : Kept w w1 (fun _ => False)) : RdAt w1 g b := h.heap (fun i hi => hk.2 i hi (fun h => h)) hk.1
/-- The panic by which a reader stops. -/
abbrev stopV (e : Int) : Ending := .panicked [{ v := .iface 66 (.agg #[.int .i64 e]), recovered := false }]
def Stops (e : Int) (w : World) (x : Ending) (w' : World) : Prop := x = stopV e ∧ w' = w

set_option maxHeartbeats 8000000 in
set_option maxRecDepth 100000 in
theorem byte_short (w : World) (g : Nat) (h : RdAt w g []) :
    Calls Tryd.prog 41 #[.pointer (some ⟨g, 0, none⟩)] w fun e w' => e = stopV 3 ∧ w' = w := by
  obtain ⟨A, c, hg, hl, hc, hf⟩ := h
  have h0 : w.cell? ⟨g, 0, none⟩ = some (.slice A 0 c) := by simp [World.cell?, hg]
  clear hg hc hf hl
  go_enter Tryd.func41, Tryd.ntmps41
  go_wp2
  exact ⟨rfl, rfl, rfl⟩

set_option maxHeartbeats 8000000 in
set_option maxRecDepth 100000 in
theorem byte_ok (w0 w : World) (g : Nat) (c0 : Int) (t : List Int) (hB : Below w0.heap.size w0 w) (hg0 : w0.heap.size ≤ g) (h : RdAt w g (c0 :: t)) :
    Calls Tryd.prog 41 #[.pointer (some ⟨g, 0, none⟩)] w fun e w' => e = .returned (.int .u8 c0) ∧ RdAt w' g t ∧ KeepBut w w' g none ∧ Below w0.heap.size w0 w' := by
  have HB := Aside0.mk hB
  have HG0 := Aside0.mk hg0
  clear hB hg0
  obtain ⟨A, c, hg, hl, hc, hf⟩ := h
  have h0 : w.cell? ⟨g, 0, none⟩ = some (.slice A (t.length + 1) c) := by simp [World.cell?, hg]
  have hfz : w.frozen? ⟨g, 0, none⟩ = false := frozen_of_row w g 0 _ 55 hg
  obtain ⟨ad, hA, hcell⟩ := Kd.at_int hc 0 (by omega) (by simp)
  obtain ⟨i5, hi5, _, hs5, _⟩ := info_parts info5
  have hcut := cut_from (P := Tryd.prog) 25 5 .i64 Tryd.underlying25 hi5 1 hs5 A (t.length + 1) c 1 (by omega) (by omega)
  have hC := Aside0.mk (Kd.C_drop hc (m := 1) (by simp) hl)
  have hfb := Aside0.mk hf
  have HG := Aside0.mk hg
  have hl2 : t.length + 1 ≤ c := by simpa using hl
  have e0 : rd (c0 :: t) 0 = c0 := rfl
  rw [e0] at hcell
  simp only [Int.toNat_zero, Addr.add_zero'] at hcell
  obtain ⟨A2, hA2⟩ : ∃ A2, A2 = (if c = (1 : Int).toNat then A else A.map (·.add ((1 : Int).toNat * 1))) := ⟨_, rfl⟩
  rw [← hA2] at hcut
  have hA3 := Aside0.mk hA2
  have HA := Aside0.mk hA
  clear hg hc hf hl hA2 e0
  subst hA
  go_enter Tryd.func41, Tryd.ntmps41
  go_wp2
  go_ret
  have hne : ∀ a2, A2 = some a2 → 0 < t.length → a2.block < g := by
    intro a2 h2 h3
    have h4 := hfb.out ad rfl (by simp)
    rw [hA3.out] at h2
    split at h2
    · rw [← Option.some.inj h2]; exact h4
    · rw [← Option.some.inj h2]; simpa [add_block] using h4
  refine ⟨rfl, ⟨A2, c - 1, ?_, by omega, ?_, hne⟩, (KeepBut.refl w g none).set_ 0 _, HB.out.setCell HG0.out _⟩
  · rw [heap_setCell_same _ _ _ _ _ _ HG.out]; simp
  · refine Kd.C_keep (0 : Int) ?_ ((KeepBut.refl w g none).set_ 0 _) (fun ad h h0 => Nat.ne_of_lt (hne ad h h0))
    have := hC.out
    rw [hA3.out]
    simpa [Kd.int, Kd.scalar] using this

/-! ### number -/
/-- What is read of a number: its u, and what is left; or by what it stops. i bytes were taken, u came of them. -/
def rnum : Nat → Nat → List Int → Except Int (Nat × List Int)
  | _, _, [] => .error 3
  | i, u, c :: t =>
    if (i = 9 ∧ 1 < c) ∨ (c = 0 ∧ 0 < i) then .error 2
    else if c < 128 then .ok (u + (c % 128).toNat * 128 ^ i, t) else rnum (i + 1) (u + (c % 128).toNat * 128 ^ i) t
/-- The number of u. -/
def unzz (u : Nat) : Int := if u % 2 = 0 then (u / 2 : Nat) else -1 - ((u / 2 : Nat) : Int)
def rnumber (b : List Int) : Except Int (Int × List Int) :=
  match rnum 0 0 b with
  | .error e => .error e
  | .ok (u, t) => if fitB 110 (unzz u, ⟨#[]⟩) = true ∧ (numB (unzz u)).length = b.length - t.length then .ok (unzz u, t) else .error 2
def Bytes (b : List Int) : Prop := ∀ x ∈ b, 0 ≤ x ∧ x ≤ 255

def NumPost (b : List Int) (g : Nat) (e : Ending) (w' : World) : Prop :=
  match rnumber b with
  | .error x => e = stopV x
  | .ok (n, t) => e = .returned (.int .i64 n) ∧ RdAt w' g t

theorem and127 : ∀ c : Fin 256, Go.bits .and .u8 (c.val : Int) 127 = ((c.val % 128 : Nat) : Int) := by decide +kernel

theorem or_step (q j : Nat) (c0 : Int) (hj : j ≤ 9) (hq : q < 128 ^ j) (h0 : 0 ≤ c0) (h1 : c0 ≤ 255) (h9 : ¬ (j = 9 ∧ 1 < c0)) :
    Go.bits .or .u64 (q : Int) (IntKind.u64.wrap (IntKind.u64.wrap (Go.bits .and .u8 c0 127) * 2 ^ (7 * j))) = ((q + (c0 % 128).toNat * 128 ^ j : Nat) : Int) ∧ q + (c0 % 128).toNat * 128 ^ j < 128 ^ (j + 1) ∧ q + (c0 % 128).toNat * 128 ^ j < 18446744073709551616 := by
  obtain ⟨m, hm⟩ : ∃ m : Nat, m = (c0 % 128).toNat := ⟨_, rfl⟩
  have e1 : Go.bits .and .u8 c0 127 = (m : Int) := by
    have := and127 ⟨c0.toNat, by omega⟩
    simp only [Int.toNat_of_nonneg h0] at this
    rw [this, hm]; omega
  have hp : (2 : Nat) ^ (7 * j) = 128 ^ j := by rw [Nat.pow_mul]
  have hm128 : m < 128 := by omega
  have hlt : m * 128 ^ j < 18446744073709551616 ∧ q + m * 128 ^ j < 18446744073709551616 := by
    rcases Nat.lt_or_ge j 9 with h | h
    · have h2 : 128 ^ j ≤ 128 ^ 8 := Nat.pow_le_pow_right (by omega) (by omega)
      have h3 : m * 128 ^ j ≤ 127 * 128 ^ 8 := Nat.mul_le_mul (by omega) h2
      omega
    · have h2 : j = 9 := by omega
      subst h2
      have h3 : m ≤ 1 := by omega
      have h4 : m * 128 ^ 9 ≤ 1 * 128 ^ 9 := Nat.mul_le_mul_right _ h3
      omega
  have e2 : IntKind.u64.wrap (m : Int) = (m : Int) := by rw [IntKind.wrap_u64]; omega
  have e3 : IntKind.u64.wrap ((m : Int) * 2 ^ (7 * j)) = ((m * 128 ^ j : Nat) : Int) := by
    rw [← hp] at hlt ⊢
    rw [IntKind.wrap_u64]
    have : ((m : Int) * 2 ^ (7 * j)) = ((m * 2 ^ (7 * j) : Nat) : Int) := by push_cast; rfl
    rw [this]; omega
  rw [e1, e2, e3, u64_or_nat _ _ (by omega) (by omega), ← hm]
  refine ⟨?_, ?_, hlt.2⟩
  · congr 1
    have := Nat.two_pow_add_eq_or_of_lt (i := 7 * j) (b := q) (by rw [hp]; exact hq) m
    rw [hp] at this
    rw [Nat.or_comm, Nat.mul_comm m, ← this, Nat.add_comm]
  · rw [Nat.pow_succ]
    have : m * 128 ^ j ≤ 127 * 128 ^ j := Nat.mul_le_mul_right _ (by omega)
    omega

theorem xor_zero_i64 (x : Int) (h0 : 0 ≤ x) (h1 : x < 9223372036854775808) : Go.bits .xor .i64 x 0 = x := by
  show IntKind.i64.wrap (((BitVec.ofInt 64 x ^^^ BitVec.ofInt 64 0).toNat : Nat) : Int) = x
  have e2 : BitVec.ofInt 64 (0 : Int) = 0#64 := by decide
  rw [e2, BitVec.xor_zero, ofInt_toNat, IntKind.wrap_i64]; omega
theorem xor_ones_i64 (x : Int) (h0 : 0 ≤ x) (h1 : x < 9223372036854775808) : Go.bits .xor .i64 x (-1) = -1 - x := by
  have h := Lib.i64_not x.toNat (by omega)
  rw [Int.toNat_of_nonneg h0] at h
  have e : Go.bits .xor .i64 x (-1) = Go.bits .xor .i64 (-1) x := by
    show IntKind.i64.wrap (((BitVec.ofInt 64 x ^^^ BitVec.ofInt 64 (-1)).toNat : Nat) : Int) = IntKind.i64.wrap (((BitVec.ofInt 64 (-1) ^^^ BitVec.ofInt 64 x).toNat : Nat) : Int)
    rw [BitVec.xor_comm]
  rw [e, h]; omega
theorem unzz_bits (u : Nat) (h : u < 18446744073709551616) : Go.bits .xor .i64 ((u : Int) / 2) (wrap64 (-wrap64 (Go.bits .and .u64 (u : Int) 1))) = unzz u := by
  rw [Lib.u64_and1 _ (by omega) (by omega)]
  unfold unzz
  rcases Nat.mod_two_eq_zero_or_one u with h2 | h2
  · have e : (u : Int) % 2 = 0 := by omega
    rw [e, if_pos h2]
    have e3 : wrap64 (-wrap64 0) = 0 := by unfold wrap64; omega
    rw [e3, xor_zero_i64 _ (by omega) (by omega)]; omega
  · have e : (u : Int) % 2 = 1 := by omega
    rw [e, if_neg (by omega)]
    have e3 : wrap64 (-wrap64 1) = -1 := by unfold wrap64; omega
    rw [e3, xor_ones_i64 _ (by omega) (by omega)]; omega

set_option maxHeartbeats 8000000 in
set_option maxRecDepth 100000 in
theorem number_any (w0 w : World) (g : Nat) (b : List Int) (hB : Below w0.heap.size w0 w) (hg : w0.heap.size ≤ g) (h : RdAt w g b) (hb : Bytes b) (hl : b.length ≤ 140737488351232) :
    Calls Tryd.prog 31 #[.pointer (some ⟨g, 0, none⟩)] w fun e w' => Below w0.heap.size w0 w' ∧ KeepBut w w' g none ∧ NumPost b g e w' := by
  have HB := Aside0.mk hB
  have HR := Aside0.mk h
  have HY := Aside0.mk hb
  have HG := Aside0.mk hg
  obtain ⟨A, c, hg0, hl0, hc0, hf0⟩ := h
  have h0 : w.cell? ⟨g, 0, none⟩ = some (.slice A b.length c) := by simp [World.cell?, hg0]
  clear hB hb hg0 hl0 hc0 hf0 hg
  go_enter Tryd.func31, Tryd.ntmps31
  go_wp2
  go_loopw [3, 5] (fun u i wr => ∃ (q j : Nat) (d : List Int), u = .int .u64 q ∧ i = .int .i64 (7 * j) ∧ j ≤ 9 ∧ Aside0 (q < 128 ^ j) ∧ Aside0 (rnum j q d = rnum 0 0 b) ∧ Aside0 (Bytes d) ∧ Aside0 (d.length ≤ b.length) ∧ Aside0 (RdAt wr g d) ∧ Aside0 (Below w0.heap.size w0 wr) ∧ Aside0 (KeepBut w wr g none)) (fun _ i _ => 100 - (intOf i).toNat)
  case atStart => exact ⟨0, 0, b, rfl, rfl, by omega, ⟨by simp⟩, ⟨rfl⟩, HY, ⟨Nat.le_refl _⟩, HR, HB, ⟨KeepBut.refl _ _ _⟩⟩
  case round =>
    clear h0 HB HR
    obtain ⟨q, j, d, rfl, rfl, hj, HQ, HA, HD, HL, HR, HB, HK⟩ := hrel
    cases d with
    | nil =>
      go_wp2_with (first | (go_at_call 41; (with_reducible refine (byte_short _ g HR.out).mono ?_); rintro e w5 ⟨rfl, rfl⟩))
      refine ⟨rfl, HB.out, HK.out, ?_⟩
      unfold NumPost rnumber
      rw [← HA.out]; rfl
    | cons c0 t =>
      have hcr : 0 ≤ c0 ∧ c0 ≤ 255 := HD.out c0 List.mem_cons_self
      have HT : Aside0 (Bytes t) := ⟨fun x hx => HD.out x (List.mem_cons_of_mem _ hx)⟩
      have HTL : Aside0 (t.length < b.length) := ⟨by have := HL.out; simp at this; omega⟩
      by_cases hbad : (j = 9 ∧ 1 < c0) ∨ (c0 = 0 ∧ 0 < j)
      · have hA2 : Aside0 (rnum 0 0 b = .error 2) := ⟨by rw [← HA.out, rnum, if_pos hbad]⟩
        have hpost : Aside0 (∀ w', NumPost b g (stopV 2) w') := ⟨fun w' => by unfold NumPost rnumber; rw [hA2.out]⟩
        by_cases hj9 : j = 9 ∧ 1 < c0
        · have d1 : ((7 * (j : Int)) == 63) = true := by simp; omega
          have d2 : 1 < c0 := hj9.2
          clear hbad hj9
          go_wp2_with (first | (go_at_call 41; (with_reducible refine (byte_ok w0 _ g c0 t HB.out HG.out HR.out).mono ?_); rintro e w5 ⟨rfl, hR5, hK5, hB5⟩))
          exact ⟨rfl, hB5, HK.out.trans hK5 (.inl rfl), hpost.out _⟩
        · have hz : c0 = 0 ∧ 0 < j := hbad.resolve_left hj9
          have d1 : (c0 == 0) = true := by simp [hz.1]
          have d2 : ¬ 1 < c0 := by omega
          have d3 : 0 < 7 * (j : Int) := by omega
          have hz2 := hz.2
          by_cases h9 : j = 9
          · have d4 : ((7 * (j : Int)) == 63) = true := by simp; omega
            clear hbad hj9 hz h9
            go_wp2_with (first | (go_at_call 41; (with_reducible refine (byte_ok w0 _ g c0 t HB.out HG.out HR.out).mono ?_); rintro e w5 ⟨rfl, hR5, hK5, hB5⟩))
            exact ⟨rfl, hB5, HK.out.trans hK5 (.inl rfl), hpost.out _⟩
          · have d4 : ((7 * (j : Int)) == 63) = false := by simp; omega
            clear hbad hj9 hz h9
            go_wp2_with (first | (go_at_call 41; (with_reducible refine (byte_ok w0 _ g c0 t HB.out HG.out HR.out).mono ?_); rintro e w5 ⟨rfl, hR5, hK5, hB5⟩))
            exact ⟨rfl, hB5, HK.out.trans hK5 (.inl rfl), hpost.out _⟩
      · have hb1 : ¬ (j = 9 ∧ 1 < c0) := fun h => hbad (.inl h)
        have hb2 : ¬ (c0 = 0 ∧ 0 < j) := fun h => hbad (.inr h)
        obtain ⟨hor, hq1, hq2⟩ := or_step q j c0 hj HQ.out hcr.1 hcr.2 hb1
        obtain ⟨q2, hq2e⟩ : ∃ q2, q2 = q + (c0 % 128).toNat * 128 ^ j := ⟨_, rfl⟩
        rw [← hq2e] at hor hq2 hq1
        have HQ1 := Aside0.mk hq1
        clear hq1
        by_cases h128 : c0 < 128
        · have hA2 : Aside0 (rnum 0 0 b = .ok (q2, t)) := ⟨by rw [← HA.out, rnum, if_neg hbad, if_pos h128, ← hq2e]⟩
          obtain ⟨n, hn⟩ : ∃ n, n = unzz q2 := ⟨_, rfl⟩
          have hx := unzz_bits q2 hq2
          rw [← hn] at hx
          have hpost1 : Aside0 (∀ w', ¬ (fitB 110 (n, ⟨#[]⟩) = true ∧ (numB n).length = b.length - t.length) → NumPost b g (stopV 2) w') := ⟨fun w' hh => by unfold NumPost rnumber; rw [hA2.out]; simp only [← hn]; rw [if_neg hh]⟩
          have hpost2 : Aside0 (∀ w', (fitB 110 (n, ⟨#[]⟩) = true ∧ (numB n).length = b.length - t.length) → RdAt w' g t → NumPost b g (.returned (.int .i64 n)) w') := ⟨fun w' hh hr => by unfold NumPost rnumber; rw [hA2.out]; simp only [← hn]; rw [if_pos hh]; exact ⟨rfl, hr⟩⟩
          have hways : (((7 * (j : Int)) == 63) = true ∧ ¬ 1 < c0 ∧ (c0 == 0) = false) ∨ (((7 * (j : Int)) == 63) = false ∧ (c0 == 0) = true ∧ ¬ 0 < 7 * (j : Int)) ∨ (((7 * (j : Int)) == 63) = false ∧ (c0 == 0) = false) := by
            by_cases h9 : j = 9
            · left; refine ⟨by simp; omega, by omega, by simp; omega⟩
            · right
              by_cases hz : c0 = 0
              · left; exact ⟨by simp; omega, by simp [hz], by omega⟩
              · right; exact ⟨by simp; omega, by simp; omega⟩
          clear hq2e hn hbad hb1 hb2
          have HTL2 : t.length ≤ b.length := by have := HTL.out; omega
          cases hfit : fitB 110 (n, ⟨#[]⟩) with
          | false =>
            rcases hways with ⟨d1, d2, d3⟩ | ⟨d1, d2, d3⟩ | ⟨d1, d2⟩
            all_goals
              have HF := Aside0.mk hfit
              go_wp2_with (first | (go_at_call 41; (with_reducible refine (byte_ok w0 _ g c0 t HB.out HG.out HR.out).mono ?_); rintro e w5 ⟨rfl, hR5, hK5, hB5⟩; have B5 := Aside0.mk (below_drew hB5); have K5 := Aside0.mk (keep_drew (HK.out.trans hK5 (.inl rfl))); obtain ⟨A5, cc5, hg5, hl5, hC5, hf5⟩ := hR5; have D5 : Aside0 (RdAt w5.drew g t) := ⟨⟨A5, cc5, hg5, hl5, hC5, hf5⟩⟩; have k5 : w5.cell? ⟨g, 0, none⟩ = some (.slice A5 t.length cc5) := (by simp [World.cell?, hg5]); clear hB5 hK5 hg5 hl5 hC5 hf5))
              (refine wp_region_held_drew (S := (fun W => W.cell? ⟨g, 0, none⟩ = some (.slice A5 t.length cc5))) (by kernel_rfl) (by simpa using k5) (fun hHeld => ?_)); (refine wpAnyH_take (i := 0) (oi := { dst := some 50, op := Go.Op.move (Go.Operand.tmp 7), type := 2, pos := "pack.go:115", after := #[], guard := none }) (v := ?_) rfl (by kernel_rfl) (by kernel_rfl) (by kernel_rfl) (fun _ _ _ h => h) (Or.inl ⟨by rfl, ?_⟩) (by assumption) ?_); (rotate_left 1); (focus (intro w hSw; (try dsimp only at hSw); go_simp; (first | done | with_reducible rfl))); (try simp only [Act.put, List.setIfInBounds_toArray, List.set_cons_zero, List.set_cons_succ]); (refine wpAnyH_ready (rs := [1]) (by kernel_rfl) (by simp) ?_); (refine AllReadyH.cons (o := { dst := some 51, op := Go.Op.call { callee := Go.Callee.value (Go.Operand.func 13), args := #[Go.Operand.tmp 50], argTypes := #[2] }, type := 34, pos := "pack.go:115", after := #[{ on := 0, ground := Go.Ground.data }], guard := none }) rfl (fun K hK => ?_) AllReadyH.nil); (go_simp); ((go_at_call 13; (with_reducible refine (pack_Number.calls n n ⟨#[]⟩ _ rfl).mono ?_); rintro e w6 ⟨rfl, hb6⟩; have B6 := Aside0.mk (below_then B5.out (below_size B5.out) hb6); have K6 := Aside0.mk (KeepBut.trans K5.out (KeepBut.of_below hb6 g none) (.inl rfl)); have D6 := Aside0.mk (RdAt.below D5.out hb6); have k6 : w6.cell? ⟨g, 0, none⟩ = some (.slice A5 t.length cc5) := cell_keep hb6 (by simpa using k5); clear hb6)); (refine hK.out _ _ (by assumption) (fun hHeld => ?_)); (clear hK K); (try simp only [Act.put, List.setIfInBounds_toArray, List.set_cons_zero, List.set_cons_succ]); (refine wpAnyH_ready (rs := [2]) (by kernel_rfl) (by simp) ?_); (refine AllReadyH.cons (o := { dst := some 52, op := Go.Op.call { callee := Go.Callee.value (Go.Operand.func 19), args := #[Go.Operand.tmp 51, Go.Operand.const (Go.Value.int Go.IntKind.u8 110)], argTypes := #[34, 5] }, type := 4, pos := "pack.go:115", after := #[{ on := 1, ground := Go.Ground.data }, { on := 1, ground := Go.Ground.chain }], guard := none }) rfl (fun K hK => ?_) AllReadyH.nil); (go_simp); ((go_at_call 19; (with_reducible refine (pack_Value_fits.calls n ⟨#[]⟩ 110 false _ (by rw [fits_f, HF.out])).mono ?_); rintro e w7 ⟨rfl, hb7⟩; have B7 := Aside0.mk (below_then B6.out (below_size B6.out) hb7); have K7 := Aside0.mk (KeepBut.trans K6.out (KeepBut.of_below hb7 g none) (.inl rfl)); have D7 := Aside0.mk (RdAt.below D6.out hb7); have k7 : w7.cell? ⟨g, 0, none⟩ = some (.slice A5 t.length cc5) := cell_keep hb7 k6; clear hb7)); (refine hK.out _ _ (by assumption) (fun hHeld => ?_)); (clear hK K); (try simp only [Act.put, List.setIfInBounds_toArray, List.set_cons_zero, List.set_cons_succ]); (refine wpAnyH_take (i := 3) (oi := { dst := some 53, op := Go.Op.unOp Go.UnOp.not 4 (Go.Operand.tmp 52), type := 4, pos := "pack.go:115", after := #[{ on := 2, ground := Go.Ground.data }], guard := none }) (v := ?_) rfl (by kernel_rfl) (by kernel_rfl) (by kernel_rfl) (fun _ _ _ h => h) (Or.inl ⟨by rfl, ?_⟩) (by assumption) ?_); (rotate_left 1); (focus (intro w hSw; (try dsimp only at hSw); go_simp; (first | done | with_reducible rfl))); (try simp only [Act.put, List.setIfInBounds_toArray, List.set_cons_zero, List.set_cons_succ]); (refine wpAnyH_take (i := 4) (oi := { dst := some 54, op := Go.Op.move (Go.Operand.tmp 53), type := 4, pos := "pack.go:115", after := #[{ on := 3, ground := Go.Ground.data }, { on := 2, ground := Go.Ground.chain }], guard := none }) (v := ?_) rfl (by kernel_rfl) (by kernel_rfl) (by kernel_rfl) (fun _ _ _ h => h) (Or.inl ⟨by rfl, ?_⟩) (by assumption) ?_); (rotate_left 1); (focus (intro w hSw; (try dsimp only at hSw); go_simp; (first | done | with_reducible rfl))); (try simp only [Act.put, List.setIfInBounds_toArray, List.set_cons_zero, List.set_cons_succ]); (refine wpAnyH_skip (i := 5) (oi := { dst := some 55, op := Go.Op.move (Go.Operand.tmp 7), type := 2, pos := "pack.go:115", after := #[{ on := 4, ground := Go.Ground.guard }], guard := some (4, false) }) rfl (by kernel_rfl) (by kernel_rfl) (by kernel_rfl) (fun _ _ _ h => h) (by rfl) (by assumption) ?_); (try simp only [Act.put, List.setIfInBounds_toArray, List.set_cons_zero, List.set_cons_succ]); (refine wpAnyH_skip (i := 6) (oi := { dst := some 56, op := Go.Op.call { callee := Go.Callee.value (Go.Operand.func 20), args := #[Go.Operand.const (Go.Value.slice none 0 0), Go.Operand.tmp 55], argTypes := #[25, 2] }, type := 25, pos := "pack.go:115", after := #[{ on := 5, ground := Go.Ground.data }, { on := 4, ground := Go.Ground.chain }, { on := 4, ground := Go.Ground.guard }], guard := some (4, false) }) rfl (by kernel_rfl) (by kernel_rfl) (by kernel_rfl) (fun _ _ _ h => h) (by rfl) (by assumption) ?_); (try simp only [Act.put, List.setIfInBounds_toArray, List.set_cons_zero, List.set_cons_succ]); (refine wpAnyH_skip (i := 7) (oi := { dst := some 57, op := Go.Op.call { callee := Go.Callee.builtin Go.Builtin.len, args := #[Go.Operand.tmp 56], argTypes := #[25] }, type := 3, pos := "pack.go:115", after := #[{ on := 6, ground := Go.Ground.data }, { on := 4, ground := Go.Ground.guard }], guard := some (4, false) }) rfl (by kernel_rfl) (by kernel_rfl) (by kernel_rfl) (fun _ _ _ h => h) (by rfl) (by assumption) ?_); (try simp only [Act.put, List.setIfInBounds_toArray, List.set_cons_zero, List.set_cons_succ]); (refine wpAnyH_skip (i := 8) (oi := { dst := some 58, op := Go.Op.move (Go.Operand.tmp 4), type := 3, pos := "pack.go:115", after := #[{ on := 4, ground := Go.Ground.guard }], guard := some (4, false) }) rfl (by kernel_rfl) (by kernel_rfl) (by kernel_rfl) (fun _ _ _ h => h) (by rfl) (by assumption) ?_); (try simp only [Act.put, List.setIfInBounds_toArray, List.set_cons_zero, List.set_cons_succ]); (refine wpAnyH_skip (i := 9) (oi := { dst := some 59, op := Go.Op.move (Go.Operand.tmp 0), type := 64, pos := "pack.go:115", after := #[{ on := 4, ground := Go.Ground.guard }], guard := some (4, false) }) rfl (by kernel_rfl) (by kernel_rfl) (by kernel_rfl) (fun _ _ _ h => h) (by rfl) (by assumption) ?_); (try simp only [Act.put, List.setIfInBounds_toArray, List.set_cons_zero, List.set_cons_succ]); (refine wpAnyH_skip (i := 10) (oi := { dst := some 60, op := Go.Op.nilCheck (Go.Operand.tmp 59), type := 0, pos := "pack.go:115", after := #[{ on := 9, ground := Go.Ground.data }, { on := 4, ground := Go.Ground.guard }], guard := some (4, false) }) rfl (by kernel_rfl) (by kernel_rfl) (by kernel_rfl) (fun _ _ _ h => h) (by rfl) (by assumption) ?_); (try simp only [Act.put, List.setIfInBounds_toArray, List.set_cons_zero, List.set_cons_succ]); (refine wpAnyH_skip (i := 11) (oi := { dst := some 61, op := Go.Op.fieldAddr 55 (Go.Operand.tmp 60) 0, type := 0, pos := "pack.go:115", after := #[{ on := 10, ground := Go.Ground.data }, { on := 4, ground := Go.Ground.guard }], guard := some (4, false) }) rfl (by kernel_rfl) (by kernel_rfl) (by kernel_rfl) (fun _ _ _ h => h) (by rfl) (by assumption) ?_); (try simp only [Act.put, List.setIfInBounds_toArray, List.set_cons_zero, List.set_cons_succ]); (refine wpAnyH_skip (i := 12) (oi := { dst := some 62, op := Go.Op.load 25 (Go.Operand.tmp 61), type := 25, pos := "pack.go:115", after := #[{ on := 11, ground := Go.Ground.data }, { on := 4, ground := Go.Ground.guard }], guard := some (4, false) }) rfl (by kernel_rfl) (by kernel_rfl) (by kernel_rfl) (fun _ _ _ h => h) (by rfl) (by assumption) ?_); (try simp only [Act.put, List.setIfInBounds_toArray, List.set_cons_zero, List.set_cons_succ]); (refine wpAnyH_skip (i := 13) (oi := { dst := some 63, op := Go.Op.call { callee := Go.Callee.builtin Go.Builtin.len, args := #[Go.Operand.tmp 62], argTypes := #[25] }, type := 3, pos := "pack.go:115", after := #[{ on := 12, ground := Go.Ground.data }, { on := 4, ground := Go.Ground.guard }], guard := some (4, false) }) rfl (by kernel_rfl) (by kernel_rfl) (by kernel_rfl) (fun _ _ _ h => h) (by rfl) (by assumption) ?_); (try simp only [Act.put, List.setIfInBounds_toArray, List.set_cons_zero, List.set_cons_succ]); (refine wpAnyH_skip (i := 14) (oi := { dst := some 64, op := Go.Op.binOp Go.BinOp.sub 3 (Go.Operand.tmp 58) (Go.Operand.tmp 63) 3, type := 3, pos := "pack.go:115", after := #[{ on := 8, ground := Go.Ground.data }, { on := 13, ground := Go.Ground.data }, { on := 4, ground := Go.Ground.guard }], guard := some (4, false) }) rfl (by kernel_rfl) (by kernel_rfl) (by kernel_rfl) (fun _ _ _ h => h) (by rfl) (by assumption) ?_); (try simp only [Act.put, List.setIfInBounds_toArray, List.set_cons_zero, List.set_cons_succ]); (refine wpAnyH_skip (i := 15) (oi := { dst := some 65, op := Go.Op.binOp Go.BinOp.neq 3 (Go.Operand.tmp 57) (Go.Operand.tmp 64) 3, type := 4, pos := "pack.go:115", after := #[{ on := 7, ground := Go.Ground.data }, { on := 14, ground := Go.Ground.data }, { on := 4, ground := Go.Ground.guard }], guard := some (4, false) }) rfl (by kernel_rfl) (by kernel_rfl) (by kernel_rfl) (fun _ _ _ h => h) (by rfl) (by assumption) ?_); (try simp only [Act.put, List.setIfInBounds_toArray, List.set_cons_zero, List.set_cons_succ]); (refine wpAnyH_take (i := 16) (oi := { dst := some 66, op := Go.Op.pick (Go.Operand.tmp 54) (Go.Operand.const (Go.Value.bool true)) (Go.Operand.tmp 65), type := 4, pos := "pack.go:115", after := #[{ on := 4, ground := Go.Ground.data }, { on := 15, ground := Go.Ground.data }], guard := none }) (v := ?_) rfl (by kernel_rfl) (by kernel_rfl) (by kernel_rfl) (fun _ _ _ h => h) (Or.inl ⟨by rfl, ?_⟩) (by assumption) ?_); (rotate_left 1); (focus (intro w hSw; (try dsimp only at hSw); go_simp; (first | done | with_reducible rfl))); (try simp only [Act.put, List.setIfInBounds_toArray, List.set_cons_zero, List.set_cons_succ]); (refine wpAnyH_done (by kernel_rfl) ?_ _)
              go_wp2
              exact ⟨rfl, B7.out, K7.out, hpost1.out _ (fun hh => by rw [HF.out] at hh; exact absurd hh.1 (by decide))⟩
          | true =>
            have HF := Aside0.mk hfit
            have hnum : Aside0 (pack_number.f 10 [] n = some (numB n)) := ⟨by
              unfold fitB at hfit
              rw [if_pos rfl] at hfit
              simp only [Bool.and_eq_true, decide_eq_true_eq] at hfit
              rw [number_f hfit.1.2 hfit.2 [] (by simp), List.nil_append]⟩
            have hln : (numB n).length ≤ 10 := by
              unfold fitB at hfit
              rw [if_pos rfl] at hfit
              simp only [Bool.and_eq_true, decide_eq_true_eq] at hfit
              exact numB_len hfit.1.2 hfit.2
            have hwr : IntKind.i64.wrap ((b.length : Int) - (t.length : Int)) = (b.length : Int) - (t.length : Int) := by rw [IntKind.wrap_i64]; omega
            clear hfit
            by_cases hlen : (numB n).length = b.length - t.length
            case' pos =>
              have hlb : (((numB n).length : Int) != ((b.length : Int) - (t.length : Int))) = false := by simp; omega
            case' neg =>
              have hlb : (((numB n).length : Int) != ((b.length : Int) - (t.length : Int))) = true := by simp; omega
            all_goals
              have HLEN := Aside0.mk hlen
              clear hlen
              rcases hways with ⟨d1, d2, d3⟩ | ⟨d1, d2, d3⟩ | ⟨d1, d2⟩
            all_goals
              go_wp2_with (first | (go_at_call 41; (with_reducible refine (byte_ok w0 _ g c0 t HB.out HG.out HR.out).mono ?_); rintro e w5 ⟨rfl, hR5, hK5, hB5⟩; have B5 := Aside0.mk (below_drew hB5); have K5 := Aside0.mk (keep_drew (HK.out.trans hK5 (.inl rfl))); obtain ⟨A5, cc5, hg5, hl5, hC5, hf5⟩ := hR5; have D5 : Aside0 (RdAt w5.drew g t) := ⟨⟨A5, cc5, hg5, hl5, hC5, hf5⟩⟩; have k5 : w5.cell? ⟨g, 0, none⟩ = some (.slice A5 t.length cc5) := (by simp [World.cell?, hg5]); clear hB5 hK5 hg5 hl5 hC5 hf5))
              (refine wp_region_held_drew (S := (fun W => W.cell? ⟨g, 0, none⟩ = some (.slice A5 t.length cc5))) (by kernel_rfl) (by simpa using k5) (fun hHeld => ?_)); (refine wpAnyH_take (i := 0) (oi := { dst := some 50, op := Go.Op.move (Go.Operand.tmp 7), type := 2, pos := "pack.go:115", after := #[], guard := none }) (v := ?_) rfl (by kernel_rfl) (by kernel_rfl) (by kernel_rfl) (fun _ _ _ h => h) (Or.inl ⟨by rfl, ?_⟩) (by assumption) ?_); (rotate_left 1); (focus (intro w hSw; (try dsimp only at hSw); go_simp; (first | done | with_reducible rfl))); (try simp only [Act.put, List.setIfInBounds_toArray, List.set_cons_zero, List.set_cons_succ]); (refine wpAnyH_ready (rs := [1]) (by kernel_rfl) (by simp) ?_); (refine AllReadyH.cons (o := { dst := some 51, op := Go.Op.call { callee := Go.Callee.value (Go.Operand.func 13), args := #[Go.Operand.tmp 50], argTypes := #[2] }, type := 34, pos := "pack.go:115", after := #[{ on := 0, ground := Go.Ground.data }], guard := none }) rfl (fun K hK => ?_) AllReadyH.nil); (go_simp); ((go_at_call 13; (with_reducible refine (pack_Number.calls n n ⟨#[]⟩ _ rfl).mono ?_); rintro e w6 ⟨rfl, hb6⟩; have B6 := Aside0.mk (below_then B5.out (below_size B5.out) hb6); have K6 := Aside0.mk (KeepBut.trans K5.out (KeepBut.of_below hb6 g none) (.inl rfl)); have D6 := Aside0.mk (RdAt.below D5.out hb6); have k6 : w6.cell? ⟨g, 0, none⟩ = some (.slice A5 t.length cc5) := cell_keep hb6 (by simpa using k5); clear hb6)); (refine hK.out _ _ (by assumption) (fun hHeld => ?_)); (clear hK K); (try simp only [Act.put, List.setIfInBounds_toArray, List.set_cons_zero, List.set_cons_succ]); (refine wpAnyH_ready (rs := [2]) (by kernel_rfl) (by simp) ?_); (refine AllReadyH.cons (o := { dst := some 52, op := Go.Op.call { callee := Go.Callee.value (Go.Operand.func 19), args := #[Go.Operand.tmp 51, Go.Operand.const (Go.Value.int Go.IntKind.u8 110)], argTypes := #[34, 5] }, type := 4, pos := "pack.go:115", after := #[{ on := 1, ground := Go.Ground.data }, { on := 1, ground := Go.Ground.chain }], guard := none }) rfl (fun K hK => ?_) AllReadyH.nil); (go_simp); ((go_at_call 19; (with_reducible refine (pack_Value_fits.calls n ⟨#[]⟩ 110 true _ (by rw [fits_f, HF.out])).mono ?_); rintro e w7 ⟨rfl, hb7⟩; have B7 := Aside0.mk (below_then B6.out (below_size B6.out) hb7); have K7 := Aside0.mk (KeepBut.trans K6.out (KeepBut.of_below hb7 g none) (.inl rfl)); have D7 := Aside0.mk (RdAt.below D6.out hb7); have k7 : w7.cell? ⟨g, 0, none⟩ = some (.slice A5 t.length cc5) := cell_keep hb7 k6; clear hb7)); (refine hK.out _ _ (by assumption) (fun hHeld => ?_)); (clear hK K); (try simp only [Act.put, List.setIfInBounds_toArray, List.set_cons_zero, List.set_cons_succ]); (refine wpAnyH_take (i := 3) (oi := { dst := some 53, op := Go.Op.unOp Go.UnOp.not 4 (Go.Operand.tmp 52), type := 4, pos := "pack.go:115", after := #[{ on := 2, ground := Go.Ground.data }], guard := none }) (v := ?_) rfl (by kernel_rfl) (by kernel_rfl) (by kernel_rfl) (fun _ _ _ h => h) (Or.inl ⟨by rfl, ?_⟩) (by assumption) ?_); (rotate_left 1); (focus (intro w hSw; (try dsimp only at hSw); go_simp; (first | done | with_reducible rfl))); (try simp only [Act.put, List.setIfInBounds_toArray, List.set_cons_zero, List.set_cons_succ]); (refine wpAnyH_take (i := 4) (oi := { dst := some 54, op := Go.Op.move (Go.Operand.tmp 53), type := 4, pos := "pack.go:115", after := #[{ on := 3, ground := Go.Ground.data }, { on := 2, ground := Go.Ground.chain }], guard := none }) (v := ?_) rfl (by kernel_rfl) (by kernel_rfl) (by kernel_rfl) (fun _ _ _ h => h) (Or.inl ⟨by rfl, ?_⟩) (by assumption) ?_); (rotate_left 1); (focus (intro w hSw; (try dsimp only at hSw); go_simp; (first | done | with_reducible rfl))); (try simp only [Act.put, List.setIfInBounds_toArray, List.set_cons_zero, List.set_cons_succ]); (refine wpAnyH_take (i := 5) (oi := { dst := some 55, op := Go.Op.move (Go.Operand.tmp 7), type := 2, pos := "pack.go:115", after := #[{ on := 4, ground := Go.Ground.guard }], guard := some (4, false) }) (v := ?_) rfl (by kernel_rfl) (by kernel_rfl) (by kernel_rfl) (fun _ _ _ h => h) (Or.inl ⟨by rfl, ?_⟩) (by assumption) ?_); (rotate_left 1); (focus (intro w hSw; (try dsimp only at hSw); go_simp; (first | done | with_reducible rfl))); (try simp only [Act.put, List.setIfInBounds_toArray, List.set_cons_zero, List.set_cons_succ]); (refine wpAnyH_take (i := 8) (oi := { dst := some 58, op := Go.Op.move (Go.Operand.tmp 4), type := 3, pos := "pack.go:115", after := #[{ on := 4, ground := Go.Ground.guard }], guard := some (4, false) }) (v := ?_) rfl (by kernel_rfl) (by kernel_rfl) (by kernel_rfl) (fun _ _ _ h => h) (Or.inl ⟨by rfl, ?_⟩) (by assumption) ?_); (rotate_left 1); (focus (intro w hSw; (try dsimp only at hSw); go_simp; (first | done | with_reducible rfl))); (try simp only [Act.put, List.setIfInBounds_toArray, List.set_cons_zero, List.set_cons_succ]); (refine wpAnyH_take (i := 9) (oi := { dst := some 59, op := Go.Op.move (Go.Operand.tmp 0), type := 64, pos := "pack.go:115", after := #[{ on := 4, ground := Go.Ground.guard }], guard := some (4, false) }) (v := ?_) rfl (by kernel_rfl) (by kernel_rfl) (by kernel_rfl) (fun _ _ _ h => h) (Or.inl ⟨by rfl, ?_⟩) (by assumption) ?_); (rotate_left 1); (focus (intro w hSw; (try dsimp only at hSw); go_simp; (first | done | with_reducible rfl))); (try simp only [Act.put, List.setIfInBounds_toArray, List.set_cons_zero, List.set_cons_succ]); (refine wpAnyH_take (i := 10) (oi := { dst := some 60, op := Go.Op.nilCheck (Go.Operand.tmp 59), type := 0, pos := "pack.go:115", after := #[{ on := 9, ground := Go.Ground.data }, { on := 4, ground := Go.Ground.guard }], guard := some (4, false) }) (v := ?_) rfl (by kernel_rfl) (by kernel_rfl) (by kernel_rfl) (fun _ _ _ h => h) (Or.inl ⟨by rfl, ?_⟩) (by assumption) ?_); (rotate_left 1); (focus (intro w hSw; (try dsimp only at hSw); go_simp; (first | done | with_reducible rfl))); (try simp only [Act.put, List.setIfInBounds_toArray, List.set_cons_zero, List.set_cons_succ]); (refine wpAnyH_take (i := 11) (oi := { dst := some 61, op := Go.Op.fieldAddr 55 (Go.Operand.tmp 60) 0, type := 0, pos := "pack.go:115", after := #[{ on := 10, ground := Go.Ground.data }, { on := 4, ground := Go.Ground.guard }], guard := some (4, false) }) (v := ?_) rfl (by kernel_rfl) (by kernel_rfl) (by kernel_rfl) (fun _ _ _ h => h) (Or.inl ⟨by rfl, ?_⟩) (by assumption) ?_); (rotate_left 1); (focus (intro w hSw; (try dsimp only at hSw); go_simp; (first | done | with_reducible rfl))); (try simp only [Act.put, List.setIfInBounds_toArray, List.set_cons_zero, List.set_cons_succ]); (refine wpAnyH_take (i := 12) (oi := { dst := some 62, op := Go.Op.load 25 (Go.Operand.tmp 61), type := 25, pos := "pack.go:115", after := #[{ on := 11, ground := Go.Ground.data }, { on := 4, ground := Go.Ground.guard }], guard := some (4, false) }) (v := ?_) rfl (by kernel_rfl) (by kernel_rfl) (by kernel_rfl) (fun _ _ _ h => h) (Or.inl ⟨by rfl, ?_⟩) (by assumption) ?_); (rotate_left 1); (focus (intro w hSw; (try dsimp only at hSw); go_simp; (first | done | with_reducible rfl))); (try simp only [Act.put, List.setIfInBounds_toArray, List.set_cons_zero, List.set_cons_succ]); (refine wpAnyH_take (i := 13) (oi := { dst := some 63, op := Go.Op.call { callee := Go.Callee.builtin Go.Builtin.len, args := #[Go.Operand.tmp 62], argTypes := #[25] }, type := 3, pos := "pack.go:115", after := #[{ on := 12, ground := Go.Ground.data }, { on := 4, ground := Go.Ground.guard }], guard := some (4, false) }) (v := ?_) rfl (by kernel_rfl) (by kernel_rfl) (by kernel_rfl) (fun _ _ _ h => h) (Or.inl ⟨by rfl, ?_⟩) (by assumption) ?_); (rotate_left 1); (focus (intro w hSw; (try dsimp only at hSw); go_simp; (first | done | with_reducible rfl))); (try simp only [Act.put, List.setIfInBounds_toArray, List.set_cons_zero, List.set_cons_succ]); (refine wpAnyH_take (i := 14) (oi := { dst := some 64, op := Go.Op.binOp Go.BinOp.sub 3 (Go.Operand.tmp 58) (Go.Operand.tmp 63) 3, type := 3, pos := "pack.go:115", after := #[{ on := 8, ground := Go.Ground.data }, { on := 13, ground := Go.Ground.data }, { on := 4, ground := Go.Ground.guard }], guard := some (4, false) }) (v := ?_) rfl (by kernel_rfl) (by kernel_rfl) (by kernel_rfl) (fun _ _ _ h => h) (Or.inl ⟨by rfl, ?_⟩) (by assumption) ?_); (rotate_left 1); (focus (intro w hSw; (try dsimp only at hSw); go_simp; (first | done | with_reducible rfl))); (try simp only [Act.put, List.setIfInBounds_toArray, List.set_cons_zero, List.set_cons_succ]); (refine wpAnyH_ready (rs := [6]) (by kernel_rfl) (by simp) ?_); (refine AllReadyH.cons (o := { dst := some 56, op := Go.Op.call { callee := Go.Callee.value (Go.Operand.func 20), args := #[Go.Operand.const (Go.Value.slice none 0 0), Go.Operand.tmp 55], argTypes := #[25, 2] }, type := 25, pos := "pack.go:115", after := #[{ on := 5, ground := Go.Ground.data }, { on := 4, ground := Go.Ground.chain }, { on := 4, ground := Go.Ground.guard }], guard := some (4, false) }) rfl (fun K hK => ?_) AllReadyH.nil); (go_simp); ((go_at_call 20; (with_reducible refine (pack_number.calls 10 (fun _ => False) (.slice none 0 0) [] n (numB n) w0 _ B7.out (Kd.R_nil _ _ _ _ _) hnum.out).mono ?_); rintro e w8 ⟨v8, rfl, hR8, hB8, hK8⟩; have B8 := Aside0.mk hB8; have K8 := Aside0.mk (KeepBut.trans K7.out ⟨hK8.1, fun i hi _ _ => hK8.2 i hi (fun h => h)⟩ (.inl rfl)); have D8 := Aside0.mk (RdAt.keep0 D7.out hK8); have k8 : w8.cell? ⟨g, 0, none⟩ = some (.slice A5 t.length cc5) := cell_of_heap (hK8.2 g (World.block_lt_of_cell? w7 _ k7) (fun h => h)) k7; obtain ⟨A8, c8, rfl, hl8, hC8⟩ := Kd.R_reads hR8; clear hR8 hB8 hK8 hl8 hC8)); (refine hK.out _ _ (by assumption) (fun hHeld => ?_)); (clear hK K); (try simp only [Act.put, List.setIfInBounds_toArray, List.set_cons_zero, List.set_cons_succ]); (refine wpAnyH_take (i := 7) (oi := { dst := some 57, op := Go.Op.call { callee := Go.Callee.builtin Go.Builtin.len, args := #[Go.Operand.tmp 56], argTypes := #[25] }, type := 3, pos := "pack.go:115", after := #[{ on := 6, ground := Go.Ground.data }, { on := 4, ground := Go.Ground.guard }], guard := some (4, false) }) (v := ?_) rfl (by kernel_rfl) (by kernel_rfl) (by kernel_rfl) (fun _ _ _ h => h) (Or.inl ⟨by rfl, ?_⟩) (by assumption) ?_); (rotate_left 1); (focus (intro w hSw; (try dsimp only at hSw); go_simp; (first | done | with_reducible rfl))); (try simp only [Act.put, List.setIfInBounds_toArray, List.set_cons_zero, List.set_cons_succ]); (refine wpAnyH_take (i := 15) (oi := { dst := some 65, op := Go.Op.binOp Go.BinOp.neq 3 (Go.Operand.tmp 57) (Go.Operand.tmp 64) 3, type := 4, pos := "pack.go:115", after := #[{ on := 7, ground := Go.Ground.data }, { on := 14, ground := Go.Ground.data }, { on := 4, ground := Go.Ground.guard }], guard := some (4, false) }) (v := ?_) rfl (by kernel_rfl) (by kernel_rfl) (by kernel_rfl) (fun _ _ _ h => h) (Or.inl ⟨by rfl, ?_⟩) (by assumption) ?_); (rotate_left 1); (focus (intro w hSw; (try dsimp only at hSw); go_simp; (first | done | with_reducible rfl))); (try simp only [Act.put, List.setIfInBounds_toArray, List.set_cons_zero, List.set_cons_succ]); (refine wpAnyH_take (i := 16) (oi := { dst := some 66, op := Go.Op.pick (Go.Operand.tmp 54) (Go.Operand.const (Go.Value.bool true)) (Go.Operand.tmp 65), type := 4, pos := "pack.go:115", after := #[{ on := 4, ground := Go.Ground.data }, { on := 15, ground := Go.Ground.data }], guard := none }) (v := ?_) rfl (by kernel_rfl) (by kernel_rfl) (by kernel_rfl) (fun _ _ _ h => h) (Or.inl ⟨by rfl, ?_⟩) (by assumption) ?_); (rotate_left 1); (focus (intro w hSw; (try dsimp only at hSw); go_simp; (first | done | with_reducible rfl))); (try simp only [Act.put, List.setIfInBounds_toArray, List.set_cons_zero, List.set_cons_succ]); (refine wpAnyH_done (by kernel_rfl) ?_ _)
              go_wp2
              first
                | exact ⟨rfl, B8.out, K8.out, hpost1.out _ (fun hh => HLEN.out hh.2)⟩
                | (go_ret; exact ⟨B8.out, K8.out, hpost2.out _ ⟨HF.out, HLEN.out⟩ D8.out⟩)
        · have hA2 : Aside0 (rnum (j + 1) q2 t = rnum 0 0 b) := ⟨by rw [← HA.out, rnum, if_neg hbad, if_neg h128, ← hq2e]⟩
          have hj8 : j ≤ 8 := by omega
          have c1 : ((7 * (j : Int)) == 63) = false := by simp; omega
          have c2 : (c0 == 0) = false := by simp; omega
          clear hq2e hbad hb1 hb2
          go_wp2_with (first | (go_at_call 41; (with_reducible refine (byte_ok w0 _ g c0 t HB.out HG.out HR.out).mono ?_); rintro e w5 ⟨rfl, hR5, hK5, hB5⟩))
          go_roundw
          case rel => exact ⟨q2, j + 1, t, rfl, by go_num, by omega, HQ1, hA2, HT, ⟨by have := HTL.out; omega⟩, ⟨hR5⟩, ⟨hB5⟩, ⟨HK.out.trans hK5 (.inl rfl)⟩⟩
          case measure => first | (simp [intOf]; done) | (simp [intOf]; omega)

end Go.Proofs.YtalndlemejalaaaDoor.P
