/- pack: what the laws' plain functions tell, part by part. -/
import Derived.Test.YtalndlemejalaaaDoorGBack
import Derived.Test.YtalndlemejalaaaDoorPx5
namespace Go.Proofs.YtalndlemejalaaaDoor.P
open Go.RowKit Go.Proofs.YtalndlemejalaaaDoor.Box Go.Proofs.YtalndlemejalaaaDoorW.PrintWords Go.Proofs.YtalndlemejalaaaDoorW.PrintLast Go.Proofs.YtalndlemejalaaaDoorW.PrintMore
set_option linter.unusedVariables false

def conv (v : S34) : S51 := ⟨v.f0, v.f1⟩
theorem rd34 {l : List S34} {i : Nat} (h : i < l.length) : rd_T34 l (i : Int) = l[i] := by
  rw [rd_T34, Int.toNat_natCast, List.getD_eq_getElem?_getD, List.getElem?_eq_getElem h]; rfl
theorem wrap1 {i : Nat} (h : i < 9223372036854775807) : wrap64 ((i : Int) + 1) = ((i + 1 : Nat) : Int) := by unfold wrap64; omega
theorem own_l0 (l : List S34) (hl : l.length < 5864062014805) : ∀ (k i : Nat) (acc : List S51), l.length - i < k → i ≤ l.length → acc.length = i → groupagelaw03_own.l0 k acc l (l.length : Int) (i : Int) = some (acc ++ (l.drop i).map conv)
  | 0, i, acc, h, _, _ => by omega
  | k + 1, i, acc, h, hi, ha => by
    rw [groupagelaw03_own.l0]
    by_cases hlt : i < l.length
    · rw [if_pos (by omega), if_pos (by omega), if_pos (by omega), if_pos (by omega), wrap1 (by omega), own_l0 l hl k (i + 1) _ (by omega) (by omega) (by simp [ha]), rd34 hlt, List.drop_eq_getElem_cons hlt, List.map_cons, List.append_assoc]
      rfl
    · rw [if_neg (by omega), List.drop_eq_nil_of_le (by omega)]; simp
theorem own_f {l : List S34} (k : Nat) (hk : l.length < k) (hl : l.length < 5864062014805) : groupagelaw03_own.f k l = some (l.map conv) := by
  unfold groupagelaw03_own.f
  have := own_l0 l hl k 0 [] (by omega) (by omega) rfl
  simpa using this
theorem same3_l0 (l : List S51) (hl : l.length < 9223372036854775807) : ∀ (k i : Nat), l.length - i < k → i ≤ l.length → groupageref03_Same.l0 k l l (i : Int) = some true
  | 0, i, h, _ => by omega
  | k + 1, i, h, hi => by
    rw [groupageref03_Same.l0]
    by_cases hlt : i < l.length
    · rw [if_pos (by omega), if_pos (by omega), if_pos (by omega), if_neg (by simp), wrap1 (by omega)]
      exact same3_l0 l hl k (i + 1) (by omega) (by omega)
    · rw [if_neg (by omega)]
theorem same3_f {l : List S51} (k : Nat) (hk : l.length < k) (hl : l.length < 9223372036854775807) : groupageref03_Same.f k l l = some true := by
  unfold groupageref03_Same.f
  rw [if_pos rfl]
  exact same3_l0 l hl k 0 (by omega) (by omega)
theorem same2_l0 (l : List Int) (hl : l.length < 9223372036854775807) : ∀ (k i : Nat), l.length - i < k → i ≤ l.length → groupageref02_Same.l0 k l l (i : Int) = some true
  | 0, i, h, _ => by omega
  | k + 1, i, h, hi => by
    rw [groupageref02_Same.l0]
    by_cases hlt : i < l.length
    · rw [if_pos (by omega), if_pos (by omega), if_pos (by omega), if_pos rfl, wrap1 (by omega)]
      exact same2_l0 l hl k (i + 1) (by omega) (by omega)
    · rw [if_neg (by omega)]
theorem bytes_f {l : List Int} (k : Nat) (hk : l.length < k) (hl : l.length < 9223372036854775807) : groupageref03_Bytes.f k l l = some true := by
  unfold groupageref03_Bytes.f groupageref02_Same.f
  rw [if_pos rfl, show groupageref02_Same.l0 k l l 0 = some true from same2_l0 l hl k 0 (by omega) (by omega)]
  rfl
/-- What large tells is so of small values. -/
theorem large_l0 (a0 : ByteArray) (l : List S34) (hl : l.length < 9223372036854775807) (hs : ∀ y ∈ l, y.f1.size ≤ 140737488351232) : ∀ (n i : Nat) (x : Nat), l.length - i ≤ n → i ≤ l.length → x ≤ 140737488372232 →
    ∃ b, (∀ k, n < k → groupagelaw03_large.l0 k a0 l (x : Int) (i : Int) = some b) ∧ (b = false → l.length ≤ 300 ∧ a0.size ≤ 40)
  | n, i, x, hn, hi, hx => by
    by_cases hlt : i < l.length ∧ x ≤ 21000
    · obtain ⟨n, rfl⟩ : ∃ n', n = n' + 1 := ⟨n - 1, by omega⟩
      have hsz := hs _ (List.getElem_mem hlt.1)
      obtain ⟨b, h1, h2⟩ := large_l0 a0 l hl hs n (i + 1) (x + (l[i]'hlt.1).f1.size) (by omega) (by omega) (by omega)
      refine ⟨b, fun k hk => ?_, h2⟩
      obtain ⟨k, rfl⟩ : ∃ k', k = k' + 1 := ⟨k - 1, by omega⟩
      rw [groupagelaw03_large.l0, if_pos (by omega), if_pos (by omega), if_pos (by omega), rd34 hlt.1, wrap1 (by omega)]
      have e : wrap64 ((x : Int) + ((l[i]'hlt.1).f1.size : Int)) = ((x + (l[i]'hlt.1).f1.size : Nat) : Int) := by unfold wrap64; omega
      rw [e]
      exact h1 k (by omega)
    · refine ⟨if (l.length : Int) > 300 then true else if (x : Int) > 21000 then true else decide ((a0.size : Int) > 40), fun k hk => ?_, fun hb => ?_⟩
      · obtain ⟨k, rfl⟩ : ∃ k', k = k' + 1 := ⟨k - 1, by omega⟩
        rw [groupagelaw03_large.l0]
        by_cases h1 : i < l.length
        · rw [if_pos (by omega), if_neg (by omega)]
          split
          · rfl
          · split <;> rfl
        · rw [if_neg (by omega)]
          split
          · rfl
          · split <;> rfl
      · split at hb
        · cases hb
        · split at hb
          · cases hb
          · simp at hb
            omega
theorem large_f (a0 : ByteArray) (l : List S34) (hl : l.length < 9223372036854775807) (hs : ∀ y ∈ l, y.f1.size ≤ 140737488351232) : ∃ b, (∀ k, l.length < k → groupagelaw03_large.f k a0 l = some b) ∧ (b = false → l.length ≤ 300 ∧ a0.size ≤ 40) := by
  obtain ⟨b, h1, h2⟩ := large_l0 a0 l hl hs l.length 0 0 (by omega) (by omega) (by omega)
  exact ⟨b, fun k hk => h1 k hk, h2⟩
theorem awake_f : groupagelaw03_awake.f = some true := by
  decide +kernel
/-- What take tells of what rnum tells. -/
def tres (n : Nat) : Except Int (Nat × List Int) → Int × Int × Int
  | .error e => (0, 0, e)
  | .ok (u, t) => if fitB 110 (unzz u, ⟨#[]⟩) = true then (unzz u, ((n - t.length : Nat) : Int), 0) else (0, 0, 2)
theorem j2_f (k : Nat) (x : Int) (u : Nat) (hu : u < 18446744073709551616) : groupageref03_take.j2 (k + 1) x (u : Int) = some (if fitB 110 (unzz u, ⟨#[]⟩) = true then (unzz u, x, 0) else (0, 0, 2)) := by
  rw [groupageref03_take.j2]
  have e1 : Int.tmod (u : Int) 2 = ((u % 2 : Nat) : Int) := by rw [Int.tmod_eq_emod_of_nonneg (by omega)]; omega
  have e2 : Int.tdiv (u : Int) 2 = ((u / 2 : Nat) : Int) := by rw [Int.tdiv_eq_ediv_of_nonneg (by omega)]; omega
  have e3 : wrap64 (IntKind.u64.wrap (((u / 2 : Nat) : Int))) = ((u / 2 : Nat) : Int) := by rw [IntKind.wrap_u64]; unfold wrap64; omega
  rw [e1, e2, e3]
  by_cases h : u % 2 = 1
  · have e4 : wrap64 (-1 - ((u / 2 : Nat) : Int)) = unzz u := by unfold wrap64 unzz; rw [if_neg (by omega)]; omega
    rw [if_pos (by omega), e4, may_f, Option.bind_some]
    split <;> rfl
  · have e4 : ((u / 2 : Nat) : Int) = unzz u := by unfold unzz; rw [if_pos (by omega)]
    rw [if_neg (by omega), e4, may_f, Option.bind_some]
    split <;> rfl
theorem rnum_lt : ∀ (b : List Int) (i u u' : Nat) (t : List Int), Bytes b → i ≤ 9 → u < 128 ^ i → rnum i u b = .ok (u', t) → u' < 18446744073709551616
  | [], i, u, u', t, _, _, _, h => by simp [rnum] at h
  | c :: b, i, u, u', t, hb, hi, hu, h => by
    have hc := hb c List.mem_cons_self
    rw [rnum] at h
    split at h
    · cases h
    · rename_i hbad
      obtain ⟨_, h1, h2⟩ := or_step u i c hi hu hc.1 hc.2 (fun hh => hbad (.inl hh))
      split at h
      · injection h with h
        injection h with h3 _
        rw [← h3]; exact h2
      · rename_i h128
        have hi9 : i ≠ 9 := fun h9 => hbad (.inl ⟨h9, by omega⟩)
        exact rnum_lt b (i + 1) _ u' t (fun x hx => hb x (List.mem_cons_of_mem _ hx)) (by omega) h1 h
theorem tstep {u q : Nat} {c : Int} (h0 : 0 ≤ c) (h2 : u + (c % 128).toNat * q < 18446744073709551616) : IntKind.u64.wrap ((u : Int) + IntKind.u64.wrap (IntKind.u64.wrap (Int.tmod c 128) * (q : Int))) = ((u + (c % 128).toNat * q : Nat) : Int) := by
  have e1 : Int.tmod c 128 = ((c % 128).toNat : Int) := by rw [Int.tmod_eq_emod_of_nonneg h0]; omega
  have e3 : IntKind.u64.wrap (((c % 128).toNat : Nat) : Int) = (((c % 128).toNat : Nat) : Int) := by rw [IntKind.wrap_u64]; omega
  rw [e1, e3, ← Int.natCast_mul]
  generalize (c % 128).toNat * q = r at h2 ⊢
  rw [IntKind.wrap_u64, IntKind.wrap_u64]; omega
theorem tunit {i : Nat} (hi : i ≤ 8) : IntKind.u64.wrap (((128 ^ i : Nat) : Int) * 128) = ((128 ^ (i + 1) : Nat) : Int) := by
  have hp : 128 ^ (i + 1) ≤ 128 ^ 9 := Nat.pow_le_pow_right (by omega) (by omega)
  have e9 : (128 : Nat) ^ 9 = 9223372036854775808 := by decide
  rw [e9, Nat.pow_succ] at hp
  rw [Nat.pow_succ]
  generalize 128 ^ i = q at hp ⊢
  rw [IntKind.wrap_u64]; omega
/-- One byte of take, behind its tests. -/
theorem take_j1 (l : List Int) (at_ i u k : Nat) (c : Int) (bad : Bool) (hc : 0 ≤ c ∧ c ≤ 255) (hi : i ≤ 9) (hu : u < 128 ^ i) (hlt : at_ + i < l.length) (hl : l.length < 4611686018427387904) (hbad : bad = true ↔ ((i = 9 ∧ 1 < c) ∨ (c = 0 ∧ 0 < i)))
    (hnext : ∀ u' : Nat, u' < 128 ^ (i + 1) → i ≤ 8 → groupageref03_take.l0 (k + 1) l (at_ : Int) (u' : Int) ((128 ^ (i + 1) : Nat) : Int) ((i + 1 : Nat) : Int) = some (tres l.length (rnum (i + 1) u' (l.drop (at_ + (i + 1)))))) :
    groupageref03_take.j1 (k + 2) l (at_ : Int) (u : Int) ((128 ^ i : Nat) : Int) (i : Int) c bad = some (tres l.length (rnum i u (c :: l.drop (at_ + i + 1)))) := by
  rw [groupageref03_take.j1, rnum]
  by_cases hbd : bad = true
  · rw [if_pos hbd, if_pos (hbad.1 hbd)]; rfl
  · have hnb : ¬ ((i = 9 ∧ 1 < c) ∨ (c = 0 ∧ 0 < i)) := fun h => hbd (hbad.2 h)
    obtain ⟨_, h1, h2⟩ := or_step u i c hi hu hc.1 hc.2 (fun h => hnb (.inl h))
    rw [if_neg hbd, if_neg hnb, tstep hc.1 h2]
    generalize hu2 : u + (c % 128).toNat * 128 ^ i = u2 at h1 h2
    clear hu hu2
    by_cases h128 : c < 128
    · rw [if_pos h128, if_pos h128]
      have e0 : wrap64 ((at_ : Int) + (i : Int)) = ((at_ + i : Nat) : Int) := by clear h1 hnext; unfold wrap64; omega
      rw [e0, wrap1 (by clear h1 hnext; omega), j2_f k _ _ h2]
      simp only [tres, List.length_drop]
      have e6 : l.length - (l.length - (at_ + i + 1)) = at_ + i + 1 := by clear h1 hnext; omega
      rw [e6]
    · rw [if_neg h128, if_neg h128]
      have hi9 : i ≤ 8 := by
        rcases Nat.lt_or_ge i 9 with h | h
        · omega
        · exact absurd (Or.inl ⟨by omega, by omega⟩) hnb
      rw [tunit hi9, wrap1 (by clear h1 hnext; omega)]
      exact hnext u2 h1 hi9
theorem take_l0 (l : List Int) (hb : Bytes l) (hl : l.length < 4611686018427387904) (at_ : Nat) : ∀ (n i u k : Nat), n = 10 - i → i ≤ 9 → u < 128 ^ i → at_ + i ≤ l.length → 2 * n + 4 ≤ k →
    groupageref03_take.l0 k l (at_ : Int) (u : Int) ((128 ^ i : Nat) : Int) (i : Int) = some (tres l.length (rnum i u (l.drop (at_ + i))))
  | 0, i, u, k, hn, hi, _, _, _ => by omega
  | n + 1, i, u, k, hn, hi, hu, ha, hk => by
    obtain ⟨k, rfl⟩ : ∃ k', k = k' + 3 := ⟨k - 3, by omega⟩
    have e0 : wrap64 ((at_ : Int) + (i : Int)) = ((at_ + i : Nat) : Int) := by clear hu; unfold wrap64; omega
    rw [groupageref03_take.l0, if_pos (by clear hu; omega), e0]
    by_cases hlt : at_ + i < l.length
    · have hrd : rd l ((at_ + i : Nat) : Int) = l[at_ + i] := by rw [rd, Int.toNat_natCast, List.getD_eq_getElem?_getD, List.getElem?_eq_getElem hlt]; rfl
      have hc := hb _ (List.getElem_mem hlt)
      have key := fun (bad : Bool) (hbad : bad = true ↔ ((i = 9 ∧ 1 < l[at_ + i]) ∨ (l[at_ + i] = 0 ∧ 0 < i))) => take_j1 l at_ i u k l[at_ + i] bad hc hi hu hlt hl hbad (fun (u' : Nat) h1 hi8 => take_l0 l hb hl at_ n (i + 1) u' (k + 1) (by omega) (by omega) h1 (by omega) (by omega))
      clear hu
      rw [if_neg (by omega), if_pos (by omega), if_pos (by omega), hrd, List.drop_eq_getElem_cons hlt]
      generalize l[at_ + i] = c at hc key ⊢
      by_cases hi0 : (i : Int) > 0
      · rw [if_pos hi0]
        by_cases hc0 : c = 0
        · rw [if_pos hc0]; exact key true (by simp; right; exact ⟨hc0, by omega⟩)
        · rw [if_neg hc0]
          by_cases h9 : (i : Int) = 9
          · rw [if_pos h9]; exact key _ (by have : i = 9 := by omega
                                            simp [this, hc0])
          · rw [if_neg h9]; exact key false (by have : ¬ i = 9 := by omega
                                                simp [this, hc0])
      · rw [if_neg hi0]
        have hz : i = 0 := by omega
        rw [if_neg (by omega)]; exact key false (by simp [hz])
    · rw [if_pos (by omega), List.drop_eq_nil_of_le (by omega)]
      rfl
/-- What take tells, by rnumber. -/
def tnum (n : Nat) : Except Int (Int × List Int) → Int × Int × Int
  | .error e => (0, 0, e)
  | .ok (u, t) => (u, ((n - t.length : Nat) : Int), 0)
theorem take_f (l : List Int) (hb : Bytes l) (hl : l.length < 4611686018427387904) (at_ k : Nat) (ha : at_ ≤ l.length) (hk : 24 ≤ k) : groupageref03_take.f k l (at_ : Int) = some (tnum l.length (rnumber (l.drop at_))) := by
  unfold groupageref03_take.f
  have h := take_l0 l hb hl at_ 10 0 0 k rfl (by omega) (by decide) (by omega) (by omega)
  rw [rnumber_eq _ (fun x hx => hb x (List.mem_of_mem_drop hx))]
  refine Eq.trans h ?_
  rw [Nat.add_zero]
  cases rnum 0 0 (l.drop at_) with
  | error e => rfl
  | ok ut =>
    obtain ⟨u, t⟩ := ut
    simp only [tres]
    split <;> rfl
end Go.Proofs.YtalndlemejalaaaDoor.P
