/- pack: the reference's Read tells what rcode tells. -/
import Derived.Test.YtalndlemejalaaaDoorGPure
namespace Go.Proofs.YtalndlemejalaaaDoor.P
open Go.RowKit Go.Proofs.YtalndlemejalaaaDoor.Box Go.Proofs.YtalndlemejalaaaDoorW.PrintWords Go.Proofs.YtalndlemejalaaaDoorW.PrintLast Go.Proofs.YtalndlemejalaaaDoorW.PrintMore
set_option linter.unusedVariables false

/-- What Read makes of what its rounds tell. -/
def fin34 : Except Int (List S34) → List S34 × Int
  | .error e => ([], e)
  | .ok r => if 200 < r.length then ([], 4) else (r, 0)
def conv2 (p : List S34 × Int) : List S51 × Int := (p.1.map conv, p.2)
theorem read_l0 (s : ByteArray) (ag : Bool) (hs : 0 < s.size) (hs2 : s.size < 4611686018427387904) (l : List Int) (hb : Bytes l) (hl : l.length < 1000000) : ∀ (n at_ f k : Nat) (acc : List S34), n = l.length - at_ → at_ ≤ l.length → n < f → 3 * n + 40 ≤ k → acc.length + n ≤ l.length → (ag = false → acc.length ≤ s.size) →
    groupageref03_Read.l0 k l s ag (acc.map conv) (at_ : Int) = some (conv2 (fin34 (rall s ag f acc.length (l.drop at_) acc)))
  | n, at_, f, k, acc, hn, ha, hf, hk, hacc, hag => by
    obtain ⟨k, rfl⟩ : ∃ k', k = k' + 3 := ⟨k - 3, by omega⟩
    obtain ⟨f, rfl⟩ : ∃ f', f = f' + 1 := ⟨f - 1, by omega⟩
    have hlen : ((acc.map conv).length : Int) = (acc.length : Int) := by simp
    have hmod : ((acc.length : Int) % (s.size : Int)) = ((acc.length % s.size : Nat) : Int) := (Int.natCast_emod _ _).symm
    have htm : Int.tmod (acc.length : Int) (s.size : Int) = ((acc.length % s.size : Nat) : Int) := by rw [Int.tmod_eq_emod_of_nonneg (by omega), hmod]
    have hmlt : acc.length % s.size < s.size := Nat.mod_lt _ hs
    have hdl : (l.drop at_).length = n := by rw [List.length_drop]; omega
    have hempty : (l.drop at_).isEmpty = decide (n = 0) := by
      cases h : l.drop at_ with
      | nil => rw [h] at hdl; simp at hdl; simp [← hdl]
      | cons => rw [h] at hdl; simp at hdl; simp [← hdl]
    have key : ∀ stop : Bool, stop = !(rmore s ag acc.length (l.drop at_)) → groupageref03_Read.j1 (k + 2) l s ag (acc.map conv) (at_ : Int) (acc.length : Int) stop = some (conv2 (fin34 (rall s ag (f + 1) acc.length (l.drop at_) acc))) := by
      intro stop hst
      rw [groupageref03_Read.j1, rall_step]
      cases hm : rmore s ag acc.length (l.drop at_) with
      | false =>
        rw [hm] at hst
        subst hst
        simp only [Bool.not_false, if_true, Bool.false_eq_true, if_false, hempty]
        by_cases h0 : n = 0
        · rw [if_neg (by omega)]
          simp only [fin34, h0, decide_true, if_true]
          by_cases h200 : 200 < acc.length
          · rw [if_pos (by rw [hlen]; omega), if_pos h200]; rfl
          · rw [if_neg (by rw [hlen]; omega), if_neg h200]; rfl
        · rw [if_pos (by omega)]; simp only [h0, decide_false, Bool.false_eq_true, if_false]; rfl
      | true =>
        rw [hm] at hst
        subst hst
        simp only [Bool.not_true, Bool.false_eq_true, if_false, if_true]
        rw [take_f l hb (by omega) at_ (k + 1) ha (by omega), Option.bind_some]
        unfold rone letter
        cases hr : rnumber (l.drop at_) with
        | error e =>
          have he : e ≠ 0 := by rcases rnumber_code hr with rfl | rfl <;> decide
          simp only [tnum, he, if_false]
          unfold rtext
          rw [hr]
          by_cases hc : bt s ((acc.length % s.size : Nat) : Int) = 110 <;> simp only [hc, if_true, if_false] <;> rfl
        | ok nt =>
          obtain ⟨v, t⟩ := nt
          obtain ⟨q, hq0, hqt, hql⟩ := rnumber_left hr
          have hbd := rnumber_bound hr
          have htl : t.length = n - q := by rw [hqt, List.length_drop, hdl]
          have hnext : l.length - t.length = at_ + q := by omega
          have hdt : l.drop (at_ + q) = t := by rw [hqt, List.drop_drop]
          simp only [tnum, if_true]
          rw [if_neg (by omega), htm, if_pos (by omega), if_pos (by omega), hnext]
          have hag2 : ag = false → acc.length + 1 ≤ s.size := fun h => by
            unfold rmore at hm
            rw [h] at hm
            simp at hm
            omega
          by_cases hc : bt s ((acc.length % s.size : Nat) : Int) = 110
          · rw [if_pos hc, if_pos hc, if_pos (by simp; omega)]
            have h := read_l0 s ag hs hs2 l hb hl (n - q) (at_ + q) f (k + 1) (acc ++ [⟨v, ⟨#[]⟩⟩]) (by omega) (by omega) (by omega) (by omega) (by simp; omega) (by simpa using hag2)
            rw [List.map_append, List.length_append, hdt] at h
            exact h
          · rw [if_neg hc, if_neg hc]
            unfold rtext
            rw [hr]
            simp only
            have key2 : ∀ bad : Bool, (bad = true ↔ (v < 0 ∨ 1000 < v)) → groupageref03_Read.j2 (k + 1) l s ag (acc.map conv) v ((at_ + q : Nat) : Int) bad = some (conv2 (fin34 (match (match (if v < 0 ∨ 1000 < v then .error 2 else if (t.length : Int) < v then .error 3 else .ok (strOfNums (t.take v.toNat), t.drop v.toNat) : Except Int (ByteArray × List Int)) with | .error e => .error e | .ok (x, t) => .ok ((⟨0, x⟩ : S34), t) : Except Int (S34 × List Int)) with | .error e => .error e | .ok (v, t) => rall s ag f (acc.length + 1) t (acc ++ [v])))) := by
              intro bad hbad
              rw [groupageref03_Read.j2]
              by_cases hv : v < 0 ∨ 1000 < v
              · rw [if_pos (hbad.2 hv)]; simp only [hv, if_true]; rfl
              · have hw : wrap64 (((at_ + q : Nat) : Int) + v) = ((at_ + q + v.toNat : Nat) : Int) := by unfold wrap64; omega
                rw [if_neg (fun h => hv (hbad.1 h)), hw]
                simp only [hv, if_false]
                by_cases h3 : (t.length : Int) < v
                · rw [if_pos (by omega)]; simp only [h3, if_true]; rfl
                · rw [if_neg (by omega), if_pos (by omega), if_pos (by omega), if_pos (by omega), if_pos (by simp; omega)]
                  simp only [h3, if_false]
                  have h := read_l0 s ag hs hs2 l hb hl (n - q - v.toNat) (at_ + q + v.toNat) f k (acc ++ [⟨0, strOfNums (t.take v.toNat)⟩]) (by omega) (by omega) (by omega) (by omega) (by simp; omega) (by simpa using hag2)
                  rw [List.map_append, List.length_append] at h
                  have e1 : l.drop (at_ + q + v.toNat) = t.drop v.toNat := by rw [← hdt, List.drop_drop]
                  have e2 : (l.take (at_ + q + v.toNat)).drop (at_ + q) = t.take v.toNat := by
                    rw [← hdt, List.drop_take]; congr 1; omega
                  rw [e1] at h
                  simp only [Int.toNat_natCast, e2]
                  exact h
            by_cases hv0 : v < 0
            · exact (if_pos hv0).trans (key2 true (by simp [hv0]))
            · exact (if_neg hv0).trans (key2 _ (by simp; omega))
    rw [groupageref03_Read.l0, hlen]
    cases ag with
    | true =>
      rw [if_pos rfl, if_neg (by omega)]
      unfold rmore at key
      simp only [if_true, hempty] at key
      by_cases h0 : (acc.length : Int) % (s.size : Int) = 0
      · rw [if_pos h0]
        by_cases h1 : (at_ : Int) = (l.length : Int)
        · rw [if_pos h1]; exact key true (by have : n = 0 := by omega
                                             simp [this]; omega)
        · rw [if_neg h1]; exact key false (by have : ¬ n = 0 := by omega
                                              simp [this])
      · rw [if_neg h0]; exact key false (by simp; omega)
    | false =>
      rw [if_neg (by simp)]
      refine key _ ?_
      unfold rmore
      have := hag rfl
      simp
      by_cases h : acc.length = s.size
      · simp [h]
      · have : acc.length < s.size := by omega
        simp [this]; omega
end Go.Proofs.YtalndlemejalaaaDoor.P
