/- pack: values' bytes are read back; what is read is so written; a piece of the bytes tells a piece of the values. -/
import Derived.Test.YtalndlemejalaaaDoorGCode
import Derived.Test.YtalndlemejalaaaDoorGWrite
namespace Go.Proofs.YtalndlemejalaaaDoor.P
open Go.RowKit Go.Proofs.YtalndlemejalaaaDoor.Box Go.Proofs.YtalndlemejalaaaDoorW.PrintWords Go.Proofs.YtalndlemejalaaaDoorW.PrintLast Go.Proofs.YtalndlemejalaaaDoorW.PrintMore
set_option linter.unusedVariables false

theorem str_bytes (s : ByteArray) : strOfNums (bytesOf s) = s := by
  unfold strOfNums bytesOf
  rw [List.map_map]
  have e : ((fun n : Int => UInt8.ofNat n.toNat) ∘ fun b : UInt8 => (b.toNat : Int)) = id := by
    funext b
    simp
  rw [e, List.map_id]
theorem bytes_str (l : List Int) (h : Bytes l) : bytesOf (strOfNums l) = l := by
  unfold strOfNums bytesOf
  simp only [List.map_map]
  conv => rhs; rw [← List.map_id l]
  refine List.map_congr_left fun x hx => ?_
  have := h x hx
  simp only [Function.comp, id, UInt8.toNat_ofNat']
  omega
theorem rtext_enc {s : ByteArray} (h : s.size ≤ 1000) (t : List Int) : rtext (numB (s.size : Int) ++ (bytesOf s ++ t)) = .ok (s, t) := by
  unfold rtext
  rw [rnumber_enc (by omega) (by omega)]
  simp only
  have hl := bytesOf_length s
  rw [if_neg (by omega), if_neg (by rw [List.length_append, hl]; omega)]
  rw [Int.toNat_natCast, ← hl, List.take_left, List.drop_left, str_bytes]
theorem rtext_canon {b : List Int} {s : ByteArray} {t : List Int} (hb : Bytes b) (h : rtext b = .ok (s, t)) : b = numB (s.size : Int) ++ (bytesOf s ++ t) ∧ s.size ≤ 1000 := by
  unfold rtext at h
  cases hr : rnumber b with
  | error e => rw [hr] at h; cases h
  | ok nt =>
    obtain ⟨n, t'⟩ := nt
    rw [hr] at h
    simp only at h
    split at h
    · cases h
    · rename_i h1
      split at h
      · cases h
      · rename_i h2
        injection h with h
        injection h with h3 h4
        obtain ⟨eb, _, _⟩ := rnumber_canon hb hr
        have hb' : Bytes t' := fun x hx => hb x (by rw [eb]; exact List.mem_append_right _ hx)
        have hsz : s.size = n.toNat := by rw [← h3, strOfNums_size, List.length_take]; omega
        refine ⟨?_, by omega⟩
        have e1 : (s.size : Int) = n := by omega
        rw [e1, ← h3, bytes_str _ (fun x hx => hb' x (List.mem_of_mem_take hx)), ← h4, List.take_append_drop]
        exact eb

/-- The letter at a place. -/
def letter (s : ByteArray) (i : Nat) : Int := bt s ((i % s.size : Nat) : Int)
/-- Values' bytes. -/
def encs (s : ByteArray) : Nat → List S34 → List Int
  | _, [] => []
  | i, v :: t => encV (letter s i) (pr34 v) ++ encs s (i + 1) t
def fitAll (s : ByteArray) : Nat → List S34 → Prop
  | _, [] => True
  | i, v :: t => fitB (letter s i) (pr34 v) = true ∧ fitAll s (i + 1) t
/-- Do so many values, from a place on, end where a form may end? -/
def ends (s : ByteArray) (ag : Bool) (n : Nat) : Prop := if ag = true then n % s.size = 0 else n = s.size
theorem wgo_some {s : ByteArray} : ∀ (vs : List S34) (i : Nat) (acc : List Int), fitAll s i vs → wgo s i (vs.map pr34) acc = some (acc ++ encs s i vs)
  | [], i, acc, _ => by simp [wgo, encs]
  | v :: vs, i, acc, h => by
    have h1 : fitB (bt s ((i % s.size : Nat) : Int)) (pr34 v) = true := h.1
    rw [List.map_cons, wgo, if_pos h1, wgo_some vs _ _ h.2, encs, ← List.append_assoc]; rfl
theorem wgo_none {s : ByteArray} : ∀ (vs : List S34) (i : Nat) (acc c : List Int), wgo s i (vs.map pr34) acc = some c → fitAll s i vs ∧ c = acc ++ encs s i vs
  | [], i, acc, c, h => by simp [wgo] at h; exact ⟨trivial, by simp [encs, h]⟩
  | v :: vs, i, acc, c, h => by
    rw [List.map_cons, wgo] at h
    split at h
    · rename_i hf
      obtain ⟨h1, h2⟩ := wgo_none vs _ _ c h
      exact ⟨⟨hf, h1⟩, by rw [h2, encs, List.append_assoc]; rfl⟩
    · cases h
theorem fit_110 {v : S34} (h : fitB 110 (pr34 v) = true) : v = ⟨v.f0, ⟨#[]⟩⟩ ∧ -4611686018427387904 ≤ v.f0 ∧ v.f0 ≤ 4611686018427387904 := by
  obtain ⟨h1, h2, h3⟩ := fit_n.1 h
  refine ⟨?_, h2, h3⟩
  obtain ⟨f0, f1⟩ := v
  have : f1 = ⟨#[]⟩ := by
    obtain ⟨a⟩ := f1
    congr 1
    exact Array.size_eq_zero_iff.1 h1
  rw [this]
theorem fit_other {c : Int} {v : S34} (hc : ¬ c = 110) : fitB c (pr34 v) = true ↔ v.f0 = 0 ∧ v.f1.size ≤ 1000 := by
  unfold fitB
  rw [if_neg hc]
  simp only [Bool.and_eq_true, decide_eq_true_eq]
  rfl
/-- One value at a letter, taken from the front: of its own bytes, the value and the rest. -/
def rone (c : Int) (b : List Int) : Except Int (S34 × List Int) :=
  if c = 110 then (match rnumber b with | .error e => .error e | .ok (n, t) => .ok (⟨n, ⟨#[]⟩⟩, t)) else (match rtext b with | .error e => .error e | .ok (x, t) => .ok (⟨0, x⟩, t))
theorem rone_enc {c : Int} {v : S34} (h : fitB c (pr34 v) = true) (t : List Int) : rone c (encV c (pr34 v) ++ t) = .ok (v, t) := by
  unfold rone encV
  by_cases hc : c = 110
  · subst hc
    obtain ⟨e, h0, h1⟩ := fit_110 h
    rw [if_pos rfl, if_pos rfl]
    show (match rnumber (numB v.f0 ++ t) with | .error e => _ | .ok (n, t) => _) = _
    rw [rnumber_enc h0 h1]
    simp only
    rw [← e]
  · obtain ⟨h0, h1⟩ := (fit_other hc).1 h
    rw [if_neg hc, if_neg hc, List.append_assoc]
    show (match rtext (numB (v.f1.size : Int) ++ (bytesOf v.f1 ++ t)) with | .error e => _ | .ok (n, t) => _) = _
    rw [rtext_enc h1]
    simp only
    rw [← h0]
theorem rone_canon {c : Int} {b : List Int} {v : S34} {t : List Int} (hb : Bytes b) (h : rone c b = .ok (v, t)) : b = encV c (pr34 v) ++ t ∧ fitB c (pr34 v) = true := by
  unfold rone at h
  by_cases hc : c = 110
  · subst hc
    rw [if_pos rfl] at h
    cases hr : rnumber b with
    | error e => rw [hr] at h; cases h
    | ok nt =>
      obtain ⟨n, t'⟩ := nt
      rw [hr] at h
      simp only at h
      injection h with h
      injection h with h1 h2
      obtain ⟨e, h3, h4⟩ := rnumber_canon hb hr
      subst h1; subst h2
      exact ⟨by rw [encV, if_pos rfl]; exact e, fit_n.2 ⟨rfl, h3, h4⟩⟩
  · rw [if_neg hc] at h
    cases hr : rtext b with
    | error e => rw [hr] at h; cases h
    | ok nt =>
      obtain ⟨n, t'⟩ := nt
      rw [hr] at h
      simp only at h
      injection h with h
      injection h with h1 h2
      obtain ⟨e, h3⟩ := rtext_canon hb hr
      subst h1; subst h2
      exact ⟨by rw [encV, if_neg hc, List.append_assoc]; exact e, (fit_other hc).2 ⟨rfl, h3⟩⟩
theorem rall_step (s : ByteArray) (ag : Bool) (f i : Nat) (b : List Int) (acc : List S34) : rall s ag (f + 1) i b acc =
    if rmore s ag i b = true then (match rone (letter s i) b with | .error e => .error e | .ok (v, t) => rall s ag f (i + 1) t (acc ++ [v])) else if b.isEmpty then .ok acc else .error 2 := by
  rw [rall]
  unfold rone letter
  split
  · split
    · cases rnumber b <;> rfl
    · cases rtext b <;> rfl
  · rfl
theorem encV_pos (c : Int) (v : Int × ByteArray) : 0 < (encV c v).length := by
  unfold encV
  split
  · exact vb_pos _
  · rw [List.length_append]
    have : 0 < (numB (v.2.size : Int)).length := vb_pos _
    omega
theorem rall_enc {s : ByteArray} {ag : Bool} (hs : 0 < s.size) : ∀ (vs : List S34) (f i : Nat) (acc : List S34), fitAll s i vs → ends s ag (i + vs.length) → vs.length < f → rall s ag f i (encs s i vs) acc = .ok (acc ++ vs)
  | [], f, i, acc, _, he, hf => by
    obtain ⟨f, rfl⟩ : ∃ f', f = f' + 1 := ⟨f - 1, by simp at hf; omega⟩
    rw [rall_step, if_neg]
    · simp [encs]
    · unfold rmore ends at *
      cases ag
      · simp at he ⊢; omega
      · simp [encs] at he ⊢; exact he
  | v :: vs, f, i, acc, hfit, he, hf => by
    obtain ⟨f, rfl⟩ : ∃ f', f = f' + 1 := ⟨f - 1, by simp at hf; omega⟩
    rw [rall_step, if_pos]
    · rw [encs, rone_enc hfit.1]
      simp only
      rw [rall_enc hs vs f (i + 1) _ hfit.2 (by rw [List.length_cons] at he; rw [show i + 1 + vs.length = i + (vs.length + 1) by omega]; exact he) (by simp at hf; omega), List.append_assoc]
      rfl
    · unfold rmore ends at *
      cases ag
      · simp at he ⊢; omega
      · have := encV_pos (letter s i) (pr34 v)
        have h1 : (encs s i (v :: vs)).isEmpty = false := by
          rw [encs]
          cases h : encV (letter s i) (pr34 v) with
          | nil => rw [h] at this; simp at this
          | cons => rfl
        simp [h1]
theorem rall_canon {s : ByteArray} {ag : Bool} : ∀ (f i : Nat) (b : List Int) (acc r : List S34), Bytes b → (ag = false → i ≤ s.size) → rall s ag f i b acc = .ok r → ∃ vs, r = acc ++ vs ∧ b = encs s i vs ∧ fitAll s i vs ∧ ends s ag (i + vs.length)
  | 0, _, _, _, _, _, _, h => by simp [rall] at h
  | f + 1, i, b, acc, r, hb, hi, h => by
    rw [rall_step] at h
    split at h
    · rename_i hm
      cases hr : rone (letter s i) b with
      | error e => rw [hr] at h; cases h
      | ok vt =>
        obtain ⟨v, t⟩ := vt
        rw [hr] at h
        simp only at h
        obtain ⟨eb, hf⟩ := rone_canon hb hr
        obtain ⟨vs, e1, e2, e3, e4⟩ := rall_canon f (i + 1) t _ r (fun x hx => hb x (by rw [eb]; exact List.mem_append_right _ hx)) (fun ha => by
          unfold rmore at hm
          rw [ha] at hm
          simp at hm
          omega) h
        refine ⟨v :: vs, by rw [e1, List.append_assoc]; rfl, by rw [encs, ← e2]; exact eb, ⟨hf, e3⟩, ?_⟩
        rw [List.length_cons, show i + (vs.length + 1) = i + 1 + vs.length by omega]
        exact e4
    · rename_i hm
      split at h
      · rename_i he
        injection h with h
        refine ⟨[], by simp [h], by simpa [encs] using he, trivial, ?_⟩
        unfold rmore at hm
        unfold ends
        cases ag
        · have := hi rfl
          simp at hm ⊢; omega
        · simp at hm ⊢; exact hm.2
      · cases h
/-- A front of the bytes of values that is the bytes of values: those values come first. -/
theorem encs_front {s : ByteArray} : ∀ (m l : List S34) (i : Nat) (d : List Int), fitAll s i m → fitAll s i l → encs s i l = encs s i m ++ d → ∃ l', l = m ++ l' ∧ encs s (i + m.length) l' = d
  | [], l, i, d, _, _, h => ⟨l, rfl, by simpa [encs] using h⟩
  | v :: m, [], i, d, _, _, h => by
    have := encV_pos (letter s i) (pr34 v)
    have h2 := congrArg List.length h
    simp [encs] at h2
    omega
  | v :: m, w :: l, i, d, hm, hl, h => by
    rw [encs, encs, List.append_assoc] at h
    have h1 := rone_enc hl.1 (encs s (i + 1) l)
    rw [h, rone_enc hm.1] at h1
    injection h1 with h1
    injection h1 with h1 h2
    obtain ⟨l', e, e2⟩ := encs_front m l (i + 1) d hm.2 hl.2 h2.symm
    exact ⟨l', by rw [h1, e]; rfl, by rw [List.length_cons, show i + (m.length + 1) = i + 1 + m.length by omega]; exact e2⟩
theorem fitAll_tail {s : ByteArray} : ∀ (m l : List S34) (i : Nat), fitAll s i (m ++ l) → fitAll s i m
  | [], _, _, _ => trivial
  | v :: m, l, i, h => ⟨h.1, fitAll_tail m l (i + 1) h.2⟩
end Go.Proofs.YtalndlemejalaaaDoor.P
