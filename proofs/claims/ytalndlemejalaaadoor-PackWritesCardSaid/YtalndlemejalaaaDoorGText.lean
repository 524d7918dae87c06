/- The reader's text. -/
import Derived.Test.YtalndlemejalaaaDoorGReader
namespace Go.Proofs.YtalndlemejalaaaDoor.P
open Go.RowKit Go.Proofs.YtalndlemejalaaaDoor.Box Go.Proofs.YtalndlemejalaaaDoorW.PrintWords Go.Proofs.YtalndlemejalaaaDoorW.PrintLast Go.Proofs.YtalndlemejalaaaDoorW.PrintMore
set_option linter.unusedVariables false
set_option linter.unusedSimpArgs false

def rtext (b : List Int) : Except Int (ByteArray × List Int) :=
  match rnumber b with
  | .error e => .error e
  | .ok (n, t) => if n < 0 ∨ 1000 < n then .error 2 else if (t.length : Int) < n then .error 3 else .ok (strOfNums (t.take n.toNat), t.drop n.toNat)
def TextPost (b : List Int) (g : Nat) (e : Ending) (w' : World) : Prop :=
  match rtext b with
  | .error x => e = stopV x
  | .ok (s, t) => e = .returned (.string s) ∧ RdAt w' g t
theorem rnum_left : ∀ (b : List Int) (i u : Nat) (q : Nat) (t : List Int), rnum i u b = .ok (q, t) → ∃ k, 0 < k ∧ t = b.drop k ∧ k ≤ b.length
  | [], i, u, q, t, h => by simp [rnum] at h
  | c :: b, i, u, q, t, h => by
    rw [rnum] at h
    split at h
    · cases h
    · split at h
      · injection h with h; injection h with _ h
        exact ⟨1, by omega, by simp [h], by simp⟩
      · obtain ⟨k, hk, e, hl⟩ := rnum_left b _ _ q t h
        exact ⟨k + 1, by omega, by simp [e], by simp; omega⟩
theorem rnumber_left {b : List Int} {n : Int} {t : List Int} (h : rnumber b = .ok (n, t)) : ∃ k, 0 < k ∧ t = b.drop k ∧ k ≤ b.length := by
  unfold rnumber at h
  split at h
  · cases h
  · rename_i u t' hu
    split at h
    · injection h with h; injection h with _ h
      subst h
      exact rnum_left b 0 0 u _ hu
    · cases h
theorem rnumber_bound {b : List Int} {n : Int} {t : List Int} (h : rnumber b = .ok (n, t)) : -4611686018427387904 ≤ n ∧ n ≤ 4611686018427387904 := by
  unfold rnumber at h
  split at h
  · cases h
  · split at h
    · rename_i hc
      injection h with h; injection h with h _
      have := hc.1
      unfold fitB at this
      rw [if_pos rfl] at this
      simp only [Bool.and_eq_true, decide_eq_true_eq] at this
      rw [← h]; exact ⟨this.1.2, this.2⟩
    · cases h
theorem rtext_left {b : List Int} {x : ByteArray} {t : List Int} (h : rtext b = .ok (x, t)) : ∃ k, 0 < k ∧ t = b.drop k ∧ k ≤ b.length := by
  unfold rtext at h
  split at h
  · cases h
  · rename_i n t' hn
    split at h
    · cases h
    · split at h
      · cases h
      · rename_i h1 h2
        obtain ⟨k, hk, e, hl⟩ := rnumber_left hn
        injection h with h; injection h with _ h
        have h3 : t'.length = b.length - k := by rw [e, List.length_drop]
        exact ⟨k + n.toNat, by omega, by rw [← h, e, List.drop_drop], by omega⟩

set_option maxHeartbeats 8000000 in
set_option maxRecDepth 100000 in
theorem text_any (w0 w : World) (g : Nat) (b : List Int) (hB : Below w0.heap.size w0 w) (hg : w0.heap.size ≤ g) (h : RdAt w g b) (hb : Bytes b) (hl : b.length ≤ 140737488351232) :
    Calls Tryd.prog 32 #[.pointer (some ⟨g, 0, none⟩)] w fun e w' => Below w0.heap.size w0 w' ∧ KeepBut w w' g none ∧ TextPost b g e w' := by
  have HC := Aside0.mk (number_any w0 w g b hB hg h hb hl)
  have HG := Aside0.mk hg
  clear hB hg h hb
  cases hr : rnumber b with
  | error x =>
    have HR := Aside0.mk hr
    have hpost : Aside0 (∀ w', TextPost b g (stopV x) w') := ⟨fun w' => by unfold TextPost rtext; rw [hr]⟩
    clear hr
    go_enter Tryd.func32, Tryd.ntmps32
    go_wp2_with (first | (go_at_call 31; (with_reducible refine HC.out.mono ?_); rintro e w5 ⟨hB5, hK5, hN⟩; obtain rfl : e = stopV x := (by unfold NumPost at hN; rw [HR.out] at hN; exact hN)))
    exact ⟨rfl, hB5, hK5, hpost.out _⟩
  | ok nt =>
    obtain ⟨n, t⟩ := nt
    have HR := Aside0.mk hr
    obtain ⟨hn0, hn1⟩ := rnumber_bound hr
    obtain ⟨k, _, hk, hkl⟩ := rnumber_left hr
    have htl : t.length ≤ b.length := by rw [hk]; simp
    clear hk hkl
    by_cases h1 : n < 0 ∨ 1000 < n
    · have hpost : Aside0 (∀ w', TextPost b g (stopV 2) w') := ⟨fun w' => by unfold TextPost rtext; rw [hr]; simp only [h1, if_true]⟩
      clear hr
      rcases h1 with h1 | h1
      all_goals
        go_enter Tryd.func32, Tryd.ntmps32
        go_wp2_with (first | (go_at_call 31; (with_reducible refine HC.out.mono ?_); rintro e w5 ⟨hB5, hK5, hN⟩; obtain ⟨rfl, hD5⟩ : e = .returned (.int .i64 n) ∧ RdAt w5 g t := (by unfold NumPost at hN; rw [HR.out] at hN; exact hN)))
        exact ⟨rfl, hB5, hK5, hpost.out _⟩
    · have h2 : ¬ n < 0 := fun h => h1 (.inl h)
      have h3 : ¬ 1000 < n := fun h => h1 (.inr h)
      by_cases h4 : (t.length : Int) < n
      · have hpost : Aside0 (∀ w', TextPost b g (stopV 3) w') := ⟨fun w' => by unfold TextPost rtext; rw [hr]; simp only [h1, h4, if_true, if_false]⟩
        clear hr h1
        go_enter Tryd.func32, Tryd.ntmps32
        go_wp2_with (first | (go_at_call 31; (with_reducible refine HC.out.mono ?_); rintro e w5 ⟨hB5, hK5, hN⟩; obtain ⟨rfl, A5, c5, hg5, hl5, hC5, hf5⟩ : e = .returned (.int .i64 n) ∧ RdAt w5 g t := (by unfold NumPost at hN; rw [HR.out] at hN; exact hN); have k5 : w5.cell? ⟨g, 0, none⟩ = some (.slice A5 t.length c5) := (by simp [World.cell?, hg5]); clear hg5 hC5 hf5 hN))
        exact ⟨rfl, hB5, hK5, hpost.out _⟩
      · have hpost : Aside0 (∀ w', RdAt w' g (t.drop n.toNat) → TextPost b g (.returned (.string (strOfNums (t.take n.toNat)))) w') := ⟨fun w' hd => by unfold TextPost rtext; rw [hr]; simp only [h1, h4, if_false]; exact ⟨trivial, hd⟩⟩
        clear hr h1
        obtain ⟨i5, hi5, _, hs5, _⟩ := info_parts info5
        have n0 : 0 ≤ n := by omega
        have nt : n ≤ (t.length : Int) := by omega
        have nl : (t.take n.toNat).length = n.toNat := by rw [List.length_take]; omega
        have LM := Aside0.mk nl
        clear nl
        go_enter Tryd.func32, Tryd.ntmps32
        go_wp2_with (first | (go_at_call 31; (with_reducible refine HC.out.mono ?_); rintro e w5 ⟨hB5, hK5, hN⟩; obtain ⟨rfl, A5, c5, hg5, hl5, hC5, hf5⟩ : e = .returned (.int .i64 n) ∧ RdAt w5 g t := (by unfold NumPost at hN; rw [HR.out] at hN; exact hN); have k5 : w5.cell? ⟨g, 0, none⟩ = some (.slice A5 t.length c5) := (by simp [World.cell?, hg5]); have fz5 : w5.frozen? ⟨g, 0, none⟩ = false := frozen_of_row w5 g 0 _ 55 hg5; have hcut := cut_from (P := Tryd.prog) 25 5 .i64 Tryd.underlying25 hi5 1 hs5 A5 t.length c5 n n0 nt; obtain ⟨A6, hA6⟩ : ∃ A6, A6 = (if c5 = n.toNat then A5 else A5.map (·.add (n.toNat * 1))) := ⟨_, rfl⟩; rw [← hA6] at hcut; have HA6 := Aside0.mk hA6; clear hA6; have htake := cut_to (P := Tryd.prog) 25 5 .i64 Tryd.underlying25 hi5 A5 t.length c5 n n0 nt hl5; have hconv := Kd.C_string (P := Tryd.prog) (src := 25) (dst := 9) (c := c5) Tryd.underlying25 Tryd.underlying5 Tryd.underlying9 (Kd.C_take (k := Kd.int .u8) (m := n.toNat) hC5 (by omega)); rw [LM.out] at hconv; have G5 := Aside0.mk hg5; have L5 := Aside0.mk hl5; have C5 := Aside0.mk hC5; have F5 := Aside0.mk hf5; have B5 := Aside0.mk hB5; have K5 := Aside0.mk hK5; clear hg5 hC5 hf5 hN hB5 hK5))
        go_ret
        have hne : ∀ a2, A6 = some a2 → 0 < (t.drop n.toNat).length → a2.block < g := by
          intro a2 h2 h3
          have h5 : 0 < t.length := by simp at h3; omega
          rw [HA6.out] at h2
          by_cases hcc : c5 = n.toNat
          · rw [if_pos hcc] at h2; exact F5.out a2 h2 h5
          · rw [if_neg hcc] at h2
            obtain ⟨a3, h6, h7⟩ := Option.map_eq_some_iff.1 h2
            rw [← h7, add_block]; exact F5.out a3 h6 h5
        refine ⟨B5.out.setCell HG.out _, KeepBut.trans K5.out ((KeepBut.refl w5 g none).set_ 0 _) (.inl rfl), hpost.out _ ⟨A6, c5 - n.toNat, ?_, ?_, ?_, hne⟩⟩
        · rw [heap_setCell_same _ _ _ _ _ _ G5.out, List.length_drop]; simp
        · have := L5.out; rw [List.length_drop]; omega
        · refine Kd.C_keep (0 : Int) ?_ ((KeepBut.refl w5 g none).set_ 0 _) (fun ad h h0 => Nat.ne_of_lt (hne ad h h0))
          rw [HA6.out]
          have := Kd.C_drop C5.out (m := n.toNat) (by omega) L5.out
          simpa [Kd.int, Kd.scalar] using this
end Go.Proofs.YtalndlemejalaaaDoor.P
