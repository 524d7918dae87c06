/- pack.Read, by hand. -/
import Derived.Test.YtalndlemejalaaaDoorGClone
namespace Go.Proofs.YtalndlemejalaaaDoor.P
open Go.RowKit Go.Proofs.YtalndlemejalaaaDoor.Box Go.Proofs.YtalndlemejalaaaDoorW.PrintWords Go.Proofs.YtalndlemejalaaaDoorW.PrintLast Go.Proofs.YtalndlemejalaaaDoorW.PrintMore
set_option linter.unusedVariables false
set_option linter.unusedSimpArgs false

/-- What pack.Read tells of a form's letters and bytes. -/
def rcode (a0 : ByteArray) (l : List Int) : List S34 × Int :=
  if fineB a0 = false then ([], 1) else if 20000 < l.length then ([], 4)
  else match rall (lettersOf a0).1 (lettersOf a0).2 (l.length + 1) 0 l [] with
    | .error x => ([], x)
    | .ok r => if 200 < r.length then ([], 4) else (r, 0)
def pack_Read.f (a0 : ByteArray) (l1 : List Int) : Option (List S34 × Int) := if a0.size ≤ 140737488351232 ∧ l1.length ≤ 1048576 ∧ (l1.all fun x => decide (0 ≤ x ∧ x ≤ 255)) = true then some (rcode a0 l1) else none

theorem rnum_code : ∀ (b : List Int) (i u : Nat) (x : Int), rnum i u b = .error x → x = 2 ∨ x = 3
  | [], i, u, x, h => by rw [rnum] at h; injection h with h; exact .inr h.symm
  | c :: b, i, u, x, h => by
    rw [rnum] at h
    split at h
    · injection h with h; exact .inl h.symm
    · split at h
      · cases h
      · exact rnum_code b _ _ x h
theorem rnumber_code {b : List Int} {x : Int} (h : rnumber b = .error x) : x = 2 ∨ x = 3 := by
  unfold rnumber at h
  split at h
  · rename_i e he
    injection h with h
    exact h ▸ rnum_code b 0 0 e he
  · split at h
    · cases h
    · injection h with h; exact .inl h.symm
theorem rtext_code {b : List Int} {x : Int} (h : rtext b = .error x) : x = 2 ∨ x = 3 := by
  unfold rtext at h
  split at h
  · rename_i e he
    injection h with h
    exact h ▸ rnumber_code he
  · split at h
    · injection h with h; exact .inl h.symm
    · split at h
      · injection h with h; exact .inr h.symm
      · cases h
theorem rall_code {s : ByteArray} {ag : Bool} : ∀ (f i : Nat) (b : List Int) (acc : List S34) (x : Int), b.length < f → rall s ag f i b acc = .error x → x = 2 ∨ x = 3
  | 0, _, _, _, _, h, _ => by omega
  | f + 1, i, b, acc, x, hf, h => by
    rw [rall] at h
    split at h
    · split at h
      · split at h
        · rename_i e he
          injection h with h
          exact h ▸ rnumber_code he
        · rename_i n t he
          obtain ⟨k, hk, e, hl⟩ := rnumber_left he
          exact rall_code f _ _ _ x (by rw [e, List.length_drop]; omega) h
      · split at h
        · rename_i e he
          injection h with h
          exact h ▸ rtext_code he
        · rename_i n t he
          obtain ⟨k, hk, e, hl⟩ := rtext_left he
          exact rall_code f _ _ _ x (by rw [e, List.length_drop]; omega) h
    · split at h
      · cases h
      · injection h with h; exact .inl h.symm

set_option maxHeartbeats 8000000 in
set_option maxRecDepth 100000 in
theorem read_walk (a0 : ByteArray) (A1 : Option Addr) (c1 : Nat) (l1 : List Int) (r1 : List S34) (r2 : Int) (s : ByteArray) (ag fine : Bool) (w : World) (hr1 : Kd.C (Kd.int .u8) w A1 l1.length l1) (hc1 : l1.length ≤ c1)
    (hp : pack_parted.f a0 = some (s, ag, fine)) (hf : fine = true → 0 < s.size) (hn : l1.length ≤ 1048576) (hs : s.size ≤ 140737488351232) (hb : Bytes l1)
    (hres : (if fine = false then ([], 1) else if 20000 < l1.length then ([], 4) else match rall s ag (l1.length + 1) 0 l1 [] with | .error x => ([], x) | .ok r => if 200 < r.length then ([], 4) else (r, (0 : Int))) = (r1, r2)) :
    Calls Tryd.prog 15 #[.string a0, .slice A1 l1.length c1] w fun e w' => ∃ v0_ : Value, e = .returned (.tuple #[v0_, .int .i64 r2]) ∧ Kd.R k34 34 w' w.heap.size (fun _ => True) v0_ r1 ∧ Below w.heap.size w w' := by
  have HP := Aside0.mk hp
  have HR := Aside0.mk hr1
  have HRES := Aside0.mk hres
  have HF := Aside0.mk hf
  have HY := Aside0.mk hb
  clear hp hr1 hres hf hb
  cases fine with
  | false =>
    go_enter Tryd.func15, Tryd.ntmps15
    go_wp2_with (first | (go_at_call 18; (with_reducible refine (pack_parted.calls a0 s ag false _ HP.out).mono ?_); rintro e w' ⟨rfl, hb⟩; have HB := Aside0.mk hb; clear hb))
    go_ret2
    obtain ⟨rfl, rfl⟩ := Prod.mk.inj HRES.out
    exact ⟨_, rfl, Kd.R_nil _ _ _ _ _, HB.out⟩
  | true =>
    have hs0 : 0 < s.size := HF.out rfl
    by_cases hlen : 20000 < l1.length
    · have hl2 : (20000 : Int) < (l1.length : Int) := by omega
      go_enter Tryd.func15, Tryd.ntmps15
      go_wp2_with (first | (go_at_call 18; (with_reducible refine (pack_parted.calls a0 s _ true _ HP.out).mono ?_); rintro e w' ⟨rfl, hb⟩; have HB := Aside0.mk hb; clear hb))
      go_ret2
      have := HRES.out
      rw [if_neg (by decide), if_pos hlen] at this
      obtain ⟨rfl, rfl⟩ := Prod.mk.inj this
      exact ⟨_, rfl, Kd.R_nil _ _ _ _ _, HB.out⟩
    · have hl2 : ¬ (20000 : Int) < (l1.length : Int) := by omega
      have HRES2 : Aside0 ((match rall s ag (l1.length + 1) 0 l1 [] with | .error x => ([], x) | .ok r => if 200 < r.length then ([], 4) else (r, (0 : Int))) = (r1, r2)) := ⟨by have := HRES.out; rw [if_neg (by decide), if_neg hlen] at this; exact this⟩
      clear HRES hlen
      have hrd : ∀ (W : World) (A5 : Option Addr) (c5 : Nat), l1.length ≤ c5 → (Kd.int .u8).C W A5 l1.length l1 → RdAt (W.alloc (.cells #[.slice A5 l1.length c5] 55)) W.heap.size l1 := fun W A5 c5 h1 h2 => ⟨A5, c5, heap_alloc_new _ _, h1, Kd.C_alloc h2 _, fun ad ha h0 => by
        obtain ⟨ad2, e2, hc⟩ := Kd.at_int h2 0 (by omega) (by omega)
        have := World.block_lt_of_cell? W _ hc
        rw [ha] at e2
        injection e2 with e2
        rw [e2]
        exact this⟩
      cases hra : rall s ag (l1.length + 1) 0 l1 [] with
      | error x =>
        have hx : (x == 0) = false := by rcases rall_code _ _ _ _ _ (Nat.lt_succ_self _) hra with rfl | rfl <;> rfl
        have HRA := Aside0.mk hra
        clear hra
        go_enter Tryd.func15, Tryd.ntmps15
        go_wp2_with (first | (go_at_call 18; (with_reducible refine (pack_parted.calls a0 s _ true _ HP.out).mono ?_); rintro e w' ⟨rfl, hb⟩; have HB := Aside0.mk hb; clear hb) | (go_at_call 25; (with_reducible refine (clone_any w _ A1 c1 l1 HB.out hc1 (Kd.C_below HR.out HB.out) hn).mono ?_); rintro e w5 ⟨v5, rfl, hR5, hB5⟩; obtain ⟨A5, c5, rfl, hl5, hC5⟩ := Kd.R_reads hR5; have B5 := Aside0.mk hB5; have C5 := Aside0.mk hC5; clear hR5 hB5 hC5) | (go_at_call 26; (with_reducible refine (all_any w _ w5.heap.size s ag l1 (below_alloc B5.out _) (below_size B5.out) (hrd w5 A5 c5 hl5 C5.out) HY.out hn hs0 hs).mono ?_); rintro e w6 ⟨hB6, hP6⟩; obtain rfl : e = .returned (.tuple #[.slice none 0 0, .int .i64 x]) := (by unfold AllPost at hP6; rw [HRA.out] at hP6; exact hP6); have B6 := Aside0.mk hB6; clear hB6 hP6))
        go_ret2
        have := HRES2.out
        rw [HRA.out] at this
        obtain ⟨rfl, rfl⟩ := Prod.mk.inj this
        exact ⟨_, rfl, Kd.R_nil _ _ _ _ _, B6.out⟩
      | ok r =>
        have HRA := Aside0.mk hra
        clear hra
        by_cases h200 : 200 < r.length
        case' pos => have hr2 : (200 : Int) < (r.length : Int) := by omega
        case' neg => have hr2 : ¬ (200 : Int) < (r.length : Int) := by omega
        all_goals
          have HRES3 := HRES2.out
          rw [HRA.out] at HRES3
          simp only [h200, if_true, if_false] at HRES3
          obtain ⟨rfl, rfl⟩ := Prod.mk.inj HRES3
          go_enter Tryd.func15, Tryd.ntmps15
          go_wp2_with (first | (go_at_call 18; (with_reducible refine (pack_parted.calls a0 s _ true _ HP.out).mono ?_); rintro e w' ⟨rfl, hb⟩; have HB := Aside0.mk hb; clear hb) | (go_at_call 25; (with_reducible refine (clone_any w _ A1 c1 l1 HB.out hc1 (Kd.C_below HR.out HB.out) hn).mono ?_); rintro e w5 ⟨v5, rfl, hR5, hB5⟩; obtain ⟨A5, c5, rfl, hl5, hC5⟩ := Kd.R_reads hR5; have B5 := Aside0.mk hB5; have C5 := Aside0.mk hC5; clear hR5 hB5 hC5) | (go_at_call 26; (with_reducible refine (all_any w _ w5.heap.size s ag l1 (below_alloc B5.out _) (below_size B5.out) (hrd w5 A5 c5 hl5 C5.out) HY.out hn hs0 hs).mono ?_); rintro e w6 ⟨hB6, hP6⟩; obtain ⟨v6, rfl, hR6⟩ : ∃ v, e = .returned (.tuple #[v, .int .i64 0]) ∧ Kd.R k34 34 w6 w.heap.size (fun _ => True) v _ := (by unfold AllPost at hP6; rw [HRA.out] at hP6; exact hP6); obtain ⟨A6, c6, rfl, hl6, hC6⟩ := Kd.R_reads hR6; have B6 := Aside0.mk hB6; have R6 := Aside0.mk hR6; clear hB6 hP6 hR6 hC6))
          go_ret2
          first
            | exact ⟨_, rfl, R6.out, B6.out⟩
            | exact ⟨_, rfl, Kd.R_nil _ _ _ _ _, B6.out⟩
theorem pack_Read.calls (a0 : ByteArray) (A1 : Option Addr) (c1 : Nat) (l1 : List Int) (r1 : List (S34)) (r2 : Int) (w : World) (hr1 : Kd.C (Kd.int .u8) w A1 l1.length l1) (hc1 : l1.length ≤ c1) (h : pack_Read.f a0 l1 = some (r1, r2)) :
    Calls Tryd.prog 15 #[.string a0, .slice A1 l1.length c1] w fun e w' => ∃ v0_ : Value, e = .returned (.tuple #[v0_, .int .i64 r2]) ∧ Kd.R k34 34 w' w.heap.size (fun _ => True) v0_ r1 ∧ Below w.heap.size w w' := by
  unfold pack_Read.f at h
  split at h
  · rename_i hc
    obtain ⟨ha, hl, hb⟩ := hc
    have hsz := letters_size a0
    have hb2 : Bytes l1 := fun x hx => by have := List.all_eq_true.1 hb x hx; simpa using this
    refine read_walk a0 A1 c1 l1 r1 r2 (lettersOf a0).1 (lettersOf a0).2 (fineB a0) w hr1 hc1 (parted_f a0 ha) ?_ hl (by omega) hb2 ?_
    · intro hf
      unfold fineB at hf
      simp only [Bool.and_eq_true, decide_eq_true_eq] at hf
      exact hf.1.2
    · rw [← Option.some.inj h, rcode]
  · cases h
end Go.Proofs.YtalndlemejalaaaDoor.P
