/- The reader takes values by letters; its deferred closure recovers a stop. -/
import Derived.Test.YtalndlemejalaaaDoorGText
import Derived.Test.YtalndlemejalaaaDoorWAt
import Derived.Defers
import Derived.Recover
import Derived.Laws.Pointers
import Derived.RegionTactic
import Derived.Laws.EntriesVeiled
namespace Go.Proofs.YtalndlemejalaaaDoor.P
open Go.RowKit Go.Proofs.YtalndlemejalaaaDoor.Box Go.Proofs.YtalndlemejalaaaDoorW.PrintWords Go.Proofs.YtalndlemejalaaaDoorW.PrintLast Go.Proofs.YtalndlemejalaaaDoorW.PrintMore
set_option linter.unusedVariables false
set_option linter.unusedSimpArgs false

set_option maxHeartbeats 2000000 in
theorem catch_idle (p q : Nat) (w : World) :
    CallsD Tryd.prog 30 #[.pointer (some ⟨p, 0, none⟩), .pointer (some ⟨q, 0, none⟩)] .returning w fun e u' w' => e = .returned (.tuple #[]) ∧ u' = .returning ∧ w' = w := by
  refine callsD_of_wpS Tryd.func30 rfl fun c₀ cs hu => ?_
  apply wpS_seq
  apply wpS_region
  simp [wpOpsS, go_sem, recoverD, hu, Tryd.ntmps30, Exit.thenS]
  apply wpS_seq
  apply wpS_seq
  apply wpS_region
  simp [wpOpsS, go_sem, Exit.thenS]
  refine wpS_cond (t := true) (by simp [Act.eval, Array.replicate]) ?_
  simp only [if_true]
  refine wpS_of_wp (wp_ret ?_)
  cases c₀
  simp_all [bodyPostS, results, Tryd.results30, Exit.thenS]

set_option maxHeartbeats 2000000 in
theorem catch_panicking (p q : Nat) (v : Value) (x0 x : Int) (older : List PanicEntry) (w : World) (hp : w.cell? ⟨p, 0, none⟩ = some v) (hq : w.cell? ⟨q, 0, none⟩ = some (.int .i64 x0)) (fp : w.frozen? ⟨p, 0, none⟩ = false) (fq : w.frozen? ⟨q, 0, none⟩ = false) (hpq : p ≠ q) :
    CallsD Tryd.prog 30 #[.pointer (some ⟨p, 0, none⟩), .pointer (some ⟨q, 0, none⟩)] (.panicking ({ v := .iface 66 (.agg #[.int .i64 x]), recovered := false } :: older)) w fun e u' w' =>
      e = .returned (.tuple #[]) ∧ u' = .panicking ({ v := .iface 66 (.agg #[.int .i64 x]), recovered := true } :: older) ∧ w' = ((w.drew).setCell ⟨p, 0, none⟩ (.slice none 0 0)).setCell ⟨q, 0, none⟩ (.int .i64 x) := by
  refine callsD_of_wpS Tryd.func30 rfl fun c₀ cs hu => ?_
  apply wpS_seq
  apply wpS_region
  simp [wpOpsS, go_sem, recoverD, hu, Tryd.ntmps30, Exit.thenS]
  apply wpS_seq
  apply wpS_seq
  apply wpS_region
  simp [wpOpsS, go_sem, Exit.thenS]
  refine wpS_cond (t := false) (by simp [Act.eval, Array.replicate]) ?_
  simp only [Bool.false_eq_true, if_false]
  refine wpS_of_wp ?_
  refine wp_skip ?_
  simp only [Exit.thenS]
  have hta : ∀ (v : Value) (W : World), (Instr.typeAssert (.iface 66 v) 20 66 false).run Tryd.prog W = .ok v W := fun v W => by rfl
  have hfl : ∀ W : World, (Instr.field 66 (.agg #[.int .i64 x]) 0).run Tryd.prog W = .ok (.int .i64 x) W := fun W => by rfl
  have hqp : ∀ u, ((w.drew).setCell ⟨p, 0, none⟩ u).cell? ⟨q, 0, none⟩ = some (.int .i64 x0) := fun u => (World.cell?_setCell_far _ ⟨p, 0, none⟩ ⟨q, 0, none⟩ u hpq).trans hq
  refine wpS_of_wp ?_
  go_region
  all_goals simp [bodyPostS, results, Tryd.results30]

def rmore (s : ByteArray) (ag : Bool) (i : Nat) (b : List Int) : Bool := if ag then !b.isEmpty || decide (i % s.size ≠ 0) else decide (i < s.size)
def rall (s : ByteArray) (ag : Bool) : Nat → Nat → List Int → List S34 → Except Int (List S34)
  | 0, _, _, _ => .error 0
  | f + 1, i, b, acc =>
    if rmore s ag i b = true then
      if bt s ((i % s.size : Nat) : Int) = 110 then
        match rnumber b with
        | .error e => .error e
        | .ok (n, t) => rall s ag f (i + 1) t (acc ++ [⟨n, ⟨#[]⟩⟩])
      else
        match rtext b with
        | .error e => .error e
        | .ok (x, t) => rall s ag f (i + 1) t (acc ++ [⟨0, x⟩])
    else if b.isEmpty then .ok acc else .error 2
def AllPost (R : Except Int (List S34)) (w0 : World) (e : Ending) (w' : World) : Prop :=
  match R with
  | .error x => e = .returned (.tuple #[.slice none 0 0, .int .i64 x])
  | .ok l => ∃ v, e = .returned (.tuple #[v, .int .i64 0]) ∧ Kd.R k34 34 w' w0.heap.size (fun _ => True) v l

/-- What all holds between its rounds: the reader's bytes, the named results' boxes, the row of its own. -/
structure AllInv (w0 : World) (g p : Nat) (d : List Int) (v : Value) (acc : List S34) (W : World) : Prop where
  rd : RdAt W g d
  be : Below w0.heap.size w0 W
  hp : W.heap[p]? = some (.cells #[v] 22 (0, 0))
  hq : W.heap[p + 1]? = some (.cells #[.int .i64 0] 26 (0, 0))
  ro : Kd.R k34 34 W w0.heap.size (fun k => p + 2 ≤ k) v acc
  gp : g < p
  wg : w0.heap.size ≤ g
theorem AllInv.cell {w0 : World} {g p : Nat} {d : List Int} {v : Value} {acc : List S34} {W : World} (h : AllInv w0 g p d v acc W) : W.cell? ⟨p, 0, none⟩ = some v := by simp [World.cell?, h.hp]
theorem AllInv.froz {w0 : World} {g p : Nat} {d : List Int} {v : Value} {acc : List S34} {W : World} (h : AllInv w0 g p d v acc W) : W.frozen? ⟨p, 0, none⟩ = false := frozen_of_row W p 0 _ 22 h.hp
theorem AllInv.cellq {w0 : World} {g p : Nat} {d : List Int} {v : Value} {acc : List S34} {W : World} (h : AllInv w0 g p d v acc W) : W.cell? ⟨p + 1, 0, none⟩ = some (.int .i64 0) := by simp [World.cell?, h.hq]
theorem AllInv.frozq {w0 : World} {g p : Nat} {d : List Int} {v : Value} {acc : List S34} {W : World} (h : AllInv w0 g p d v acc W) : W.frozen? ⟨p + 1, 0, none⟩ = false := frozen_of_row W (p + 1) 0 _ 26 h.hq
theorem AllInv.lt {w0 : World} {g p : Nat} {d : List Int} {v : Value} {acc : List S34} {W : World} (h : AllInv w0 g p d v acc W) : p + 1 < W.heap.size := (Array.getElem?_eq_some_iff.1 h.hq).1
theorem AllInv.below {w0 : World} {g p : Nat} {d : List Int} {v : Value} {acc : List S34} {W W1 : World} (h : AllInv w0 g p d v acc W) (hb : Below W.heap.size W W1) : AllInv w0 g p d v acc W1 :=
  ⟨h.rd.below hb, below_then h.be (below_size h.be) hb, (hb.block p (by have := h.lt; omega)).trans h.hp, (hb.block _ h.lt).trans h.hq, Kd.R_below h.ro hb, h.gp, h.wg⟩
theorem AllInv.alloc {w0 : World} {g p : Nat} {d : List Int} {v : Value} {acc : List S34} {W : World} (h : AllInv w0 g p d v acc W) (o : Obj) : AllInv w0 g p d v acc (W.alloc o) := h.below ((Below.refl _ _).alloc (Nat.le_refl _) _)
theorem AllInv.drew {w0 : World} {g p : Nat} {d : List Int} {v : Value} {acc : List S34} {W : World} (h : AllInv w0 g p d v acc W) : AllInv w0 g p d v acc W.drew := h.below (below_drew (Below.refl _ _))
theorem AllInv.taken {w0 : World} {g p : Nat} {d t : List Int} {v : Value} {acc : List S34} {W W1 : World} (h : AllInv w0 g p d v acc W) (hb : Below w0.heap.size w0 W1) (hk : KeepBut W W1 g none) (hr : RdAt W1 g t) : AllInv w0 g p t v acc W1 :=
  ⟨hr, hb, (hk.2 p (by have := h.lt; omega) (by have := h.gp; omega) (by simp)).trans h.hp, (hk.2 _ h.lt (by have := h.gp; omega) (by simp)).trans h.hq, Kd.R_keep h.ro hk (fun k (hk' : p + 2 ≤ k) => by have := h.gp; omega), h.gp, h.wg⟩
theorem AllInv.grown {w0 : World} {g p : Nat} {d : List Int} {v v1 : Value} {acc acc1 : List S34} {W W1 : World} (h : AllInv w0 g p d v acc W) (hg : W.grownBy W1 v.ownBlock) (hb : Below w0.heap.size w0 W1) (ho : Kd.R k34 34 W1 w0.heap.size (fun k => p + 2 ≤ k) v1 acc1) :
    W1.cell? ⟨p, 0, none⟩ = some v ∧ W1.frozen? ⟨p, 0, none⟩ = false ∧ AllInv w0 g p d v1 acc1 (W1.setCell ⟨p, 0, none⟩ v1) := by
  have hne : ∀ k, k < p + 2 → some k ≠ v.ownBlock := fun k hk he => by have := h.ro.1 k he.symm; omega
  have hlt := h.lt
  have hgp := h.gp
  have b1 : ∀ k, k < p + 2 → W1.heap[k]? = W.heap[k]? := fun k hk => hg.block k (by omega) (hne k hk)
  have hp1 : W1.heap[p]? = some (.cells #[v] 22 (0, 0)) := (b1 p (by omega)).trans h.hp
  refine ⟨by simp [World.cell?, hp1], frozen_of_row W1 p 0 _ 22 hp1, ?_, hb.setCell (by show w0.heap.size ≤ p; have := h.wg; omega) _, ?_, ?_, Kd.R_far ho (fun k (hk : p + 2 ≤ k) => by show k ≠ p; omega) _, h.gp, h.wg⟩
  · obtain ⟨A, c, h1, h2, h3, h4⟩ := h.rd
    have b2 : ∀ k, k < p → (W1.setCell ⟨p, 0, none⟩ v1).heap[k]? = W.heap[k]? := fun k hk => (Below.heap_setCell _ _ _ _ (by show k ≠ p; omega)).trans (b1 k (by omega))
    refine ⟨A, c, (b2 g hgp).trans h1, h2, ?_, h4⟩
    refine Kd.C_foot_neS (S := fun k => p ≤ k) (fun h => h) h3 (fun ad ha h0 => ?_) _ ⟨?_, fun k _ hk => b2 k (by omega)⟩
    · have := h4 ad ha h0
      show ¬ p ≤ ad.block
      omega
    · rw [World.size_setCell]
      exact hg.size
  · rw [heap_setCell_same _ _ _ _ _ _ hp1]; simp
  · rw [Below.heap_setCell _ _ _ _ (by show p + 1 ≠ p; omega), b1 _ (by omega)]; exact h.hq

theorem res26 (a : Act) (N : Nat) (v : Value) (h6 : N ≠ 6) (h7 : N ≠ 7) : results Tryd.f26 (a.put (some N) v).tmps = results Tryd.f26 a.tmps := by
  simp [results, Tryd.results26, Act.put, Array.getElem?_setIfInBounds_ne h6, Array.getElem?_setIfInBounds_ne h7]
theorem all_stop (w0 w5 : World) (p : Nat) (v : Value) (x : Int) (R : Except Int (List S34)) (tmps : Array Value) (hR : R = .error x) (hB : Below w0.heap.size w0 w5) (hp : w5.heap[p]? = some (.cells #[v] 22 (0, 0))) (hq : w5.heap[p + 1]? = some (.cells #[.int .i64 0] 26 (0, 0))) (hg : w0.heap.size ≤ p)
    (h6 : tmps.getD 6 undef = .pointer (some ⟨p, 0, none⟩)) (h7 : tmps.getD 7 undef = .pointer (some ⟨p + 1, 0, none⟩)) :
    Leaves Tryd.prog Tryd.f26 tmps (fun e w' => Below w0.heap.size w0 w' ∧ AllPost R w0 e w') [{ target := .fn (.func 30) #[.pointer (some ⟨p, 0, none⟩), .pointer (some ⟨p + 1, 0, none⟩)], args := #[] }] (.panicking [{ v := .iface 66 (.agg #[.int .i64 x]), recovered := false }]) w5 := by
  have c6 : w5.cell? ⟨p, 0, none⟩ = some v := by simp [World.cell?, hp]
  have c7 : w5.cell? ⟨p + 1, 0, none⟩ = some (.int .i64 0) := by simp [World.cell?, hq]
  refine leaves_cons (f := 30) (args := #[.pointer (some ⟨p, 0, none⟩), .pointer (some ⟨p + 1, 0, none⟩)]) (by simp) (by simp [go_sem]) ?_
  refine (catch_panicking p (p + 1) v 0 x [] w5 c6 c7 (frozen_of_row _ _ _ _ _ hp) (frozen_of_row _ _ _ _ _ hq) (by omega)).mono ?_
  rintro e u' w'' ⟨rfl, rfl, rfl⟩
  have d1 : ((w5.drew).setCell ⟨p, 0, none⟩ (.slice none 0 0)).heap[p]? = some (.cells #[.slice none 0 0] 22 (0, 0)) := by
    rw [heap_setCell_same _ _ _ _ _ _ (show w5.drew.heap[p]? = _ from hp)]; simp
  have d2 : ((w5.drew).setCell ⟨p, 0, none⟩ (.slice none 0 0)).heap[p + 1]? = some (.cells #[.int .i64 0] 26 (0, 0)) := by
    rw [Below.heap_setCell _ _ _ _ (by show p + 1 ≠ p; omega)]; exact hq
  have e1 : (((w5.drew).setCell ⟨p, 0, none⟩ (.slice none 0 0)).setCell ⟨p + 1, 0, none⟩ (.int .i64 x)).cell? ⟨p, 0, none⟩ = some (.slice none 0 0) := by
    have : (((w5.drew).setCell ⟨p, 0, none⟩ (.slice none 0 0)).setCell ⟨p + 1, 0, none⟩ (.int .i64 x)).heap[p]? = some (.cells #[.slice none 0 0] 22 (0, 0)) := by
      rw [Below.heap_setCell _ _ _ _ (by show p ≠ p + 1; omega)]; exact d1
    simp [World.cell?, this]
  have e2 : (((w5.drew).setCell ⟨p, 0, none⟩ (.slice none 0 0)).setCell ⟨p + 1, 0, none⟩ (.int .i64 x)).cell? ⟨p + 1, 0, none⟩ = some (.int .i64 x) := by
    have : (((w5.drew).setCell ⟨p, 0, none⟩ (.slice none 0 0)).setCell ⟨p + 1, 0, none⟩ (.int .i64 x)).heap[p + 1]? = some (.cells #[.int .i64 x] 26 (0, 0)) := by
      rw [heap_setCell_same _ _ _ _ _ _ d2]; simp
    simp [World.cell?, this]
  have hbb : Below w0.heap.size w0 (((w5.drew).setCell ⟨p, 0, none⟩ (.slice none 0 0)).setCell ⟨p + 1, 0, none⟩ (.int .i64 x)) := (((below_drew hB).setCell hg _).setCell (by show w0.heap.size ≤ p + 1; omega) _)
  generalize ((w5.drew).setCell ⟨p, 0, none⟩ (.slice none 0 0)).setCell ⟨p + 1, 0, none⟩ (.int .i64 x) = w9 at e1 e2 hbb ⊢
  clear d1 d2 c6 c7
  refine ⟨.tuple #[.slice none 0 0, .int .i64 x], ?_, hbb, by rw [hR]; rfl⟩
  simp only [Array.getD_eq_getD_getElem?] at h6 h7
  simp [results, Tryd.results26, h6, h7, go_sem, e1, e2]
theorem all_end (w0 w5 : World) (p : Nat) (l : List S34) (v : Value) (R : Except Int (List S34)) (tmps : Array Value) (hR : R = .ok l) (hB : Below w0.heap.size w0 w5) (hp : w5.cell? ⟨p, 0, none⟩ = some v) (hq : w5.cell? ⟨p + 1, 0, none⟩ = some (.int .i64 0)) (hv : Kd.R k34 34 w5 w0.heap.size (fun _ => True) v l)
    (h6 : tmps.getD 6 undef = .pointer (some ⟨p, 0, none⟩)) (h7 : tmps.getD 7 undef = .pointer (some ⟨p + 1, 0, none⟩)) :
    Leaves Tryd.prog Tryd.f26 tmps (fun e w' => Below w0.heap.size w0 w' ∧ AllPost R w0 e w') [{ target := .fn (.func 30) #[.pointer (some ⟨p, 0, none⟩), .pointer (some ⟨p + 1, 0, none⟩)], args := #[] }] .returning w5 := by
  refine leaves_cons (f := 30) (args := #[.pointer (some ⟨p, 0, none⟩), .pointer (some ⟨p + 1, 0, none⟩)]) (by simp) (by simp [go_sem]) ?_
  refine (catch_idle p (p + 1) w5).mono ?_
  rintro e u' w'' ⟨rfl, rfl, rfl⟩
  refine ⟨.tuple #[v, .int .i64 0], ?_, hB, by rw [hR]; exact ⟨v, rfl, hv⟩⟩
  simp only [Array.getD_eq_getD_getElem?] at h6 h7
  simp [results, Tryd.results26, h6, h7, go_sem, hp, hq]

theorem all_fin {w0 : World} {g p : Nat} {d : List Int} {v : Value} {acc : List S34} {W : World} (h : AllInv w0 g p d v acc W) (R : Except Int (List S34)) (tmps : Array Value) (hR : R = .ok acc)
    (h6 : tmps.getD 6 undef = .pointer (some ⟨p, 0, none⟩)) (h7 : tmps.getD 7 undef = .pointer (some ⟨p + 1, 0, none⟩)) :
    Leaves Tryd.prog Tryd.f26 tmps (fun e w' => Below w0.heap.size w0 w' ∧ AllPost R w0 e w') [{ target := .fn (.func 30) #[.pointer (some ⟨p, 0, none⟩), .pointer (some ⟨p + 1, 0, none⟩)], args := #[] }] .returning ((W.setCell ⟨p, 0, none⟩ v).setCell ⟨p + 1, 0, none⟩ (.int .i64 0)) := by
  have hg := h.wg
  have hp := h.gp
  have d1 : (W.setCell ⟨p, 0, none⟩ v).heap[p]? = some (.cells #[v] 22 (0, 0)) := by rw [heap_setCell_same _ _ _ _ _ _ h.hp]; simp
  have d2 : (W.setCell ⟨p, 0, none⟩ v).heap[p + 1]? = some (.cells #[.int .i64 0] 26 (0, 0)) := by rw [Below.heap_setCell _ _ _ _ (by show p + 1 ≠ p; omega)]; exact h.hq
  have e1 : ((W.setCell ⟨p, 0, none⟩ v).setCell ⟨p + 1, 0, none⟩ (.int .i64 0)).heap[p]? = some (.cells #[v] 22 (0, 0)) := by rw [Below.heap_setCell _ _ _ _ (by show p ≠ p + 1; omega)]; exact d1
  have e2 : ((W.setCell ⟨p, 0, none⟩ v).setCell ⟨p + 1, 0, none⟩ (.int .i64 0)).heap[p + 1]? = some (.cells #[.int .i64 0] 26 (0, 0)) := by rw [heap_setCell_same _ _ _ _ _ _ d2]; simp
  refine all_end w0 _ p acc v R tmps hR ((h.be.setCell (by show w0.heap.size ≤ p; omega) _).setCell (by show w0.heap.size ≤ p + 1; omega) _) (by simp [World.cell?, e1]) (by simp [World.cell?, e2]) ?_ h6 h7
  exact Kd.R_mono (Kd.R_far (Kd.R_far h.ro (fun k (hk : p + 2 ≤ k) => by show k ≠ p; omega) _) (fun k (hk : p + 2 ≤ k) => by show k ≠ p + 1; omega) _) (fun _ _ => trivial)

set_option maxHeartbeats 8000000 in
set_option maxRecDepth 100000 in
theorem all_any (w0 w : World) (g : Nat) (s : ByteArray) (ag : Bool) (b : List Int) (hB : Below w0.heap.size w0 w) (hg : w0.heap.size ≤ g) (h : RdAt w g b) (hb : Bytes b) (hl : b.length ≤ 1048576) (hs0 : 0 < s.size) (hs : s.size ≤ 140737488351232) :
    Calls Tryd.prog 26 #[.pointer (some ⟨g, 0, none⟩), .string s, .bool ag] w fun e w' => Below w0.heap.size w0 w' ∧ AllPost (rall s ag (b.length + 1) 0 b []) w0 e w' := by
  have hmf : ∀ (fn : Fn) (first cap : Array Value) (w : World), (Instr.makeFunc fn first cap).run Tryd.prog w = .ok (.func fn first cap) w := fun _ _ _ _ => rfl
  have HB := Aside0.mk hB
  have HR := Aside0.mk h
  have HY := Aside0.mk hb
  have HG := Aside0.mk hg
  have hgl : g < w.heap.size := by obtain ⟨A, c, hg, _⟩ := h; exact (Array.getElem?_eq_some_iff.1 hg).1
  clear hB hg h hb
  obtain ⟨R, hRR⟩ : ∃ R, R = rall s ag (b.length + 1) 0 b [] := ⟨_, rfl⟩
  rw [← hRR]
  have HRR := Aside0.mk hRR
  clear hRR
  go_enter_defers Tryd.func26, Tryd.ntmps26
  go_wp2
  obtain ⟨p, hp⟩ : ∃ p, p = w.heap.size := ⟨_, rfl⟩
  rw [← hp]
  have hgp : g < p := by omega
  have HPP := Aside0.mk hp
  clear hp
  go_loopw [8] (fun i wr => ∃ (k f : Nat) (d : List Int) (acc : List S34) (v : Value), i = .int .i64 k ∧ k + d.length ≤ b.length ∧ Aside0 (d.length < f) ∧ Aside0 (rall s ag f k d acc = R) ∧ Aside0 (Bytes d) ∧ Aside0 (acc.length = k) ∧ Aside0 (AllInv w0 g p d v acc wr)) (fun i _ => b.length + 1 - (intOf i).toNat)
  case atStart =>
    refine ⟨0, b.length + 1, b, [], .slice none 0 0, rfl, by omega, ⟨by omega⟩, ⟨HRR.out.symm⟩, HY, ⟨rfl⟩, ⟨⟨?_, ?_, ?_, ?_, Kd.R_nil _ _ _ _ _, hgp, HG.out⟩⟩⟩
    · exact (HR.out.below ((Below.refl _ _).alloc (Nat.le_refl _) _)).below ((Below.refl _ _).alloc (Nat.le_refl _) _)
    · exact below_alloc (below_alloc HB.out _) _
    · exact (((Below.refl _ _).alloc (Nat.le_refl _) _).block p (by rw [HPP.out]; simp)).trans (by rw [HPP.out]; exact heap_alloc_new _ _)
    · have := heap_alloc_new (w.alloc (.cells #[.slice none 0 0] 22)) (.cells #[.int .i64 0] 26)
      rw [HPP.out]; simpa using this
  case round =>
    obtain ⟨k, f, d, acc, v, rfl, hkd, HF, HA, HD, HL, HI⟩ := hrel
    clear HB HR
    have cp := HI.out.cell
    have fp := HI.out.froz
    obtain ⟨A, c, hg0, _, _, _⟩ := HI.out.rd
    have cg : wr.cell? ⟨g, 0, none⟩ = some (.slice A d.length c) := by simp [World.cell?, hg0]
    clear hg0
    obtain ⟨j, hj⟩ : ∃ j : Int, (k : Int) % (s.size : Int) = j := ⟨_, rfl⟩
    have hmod : k % s.size < s.size := Nat.mod_lt _ hs0
    have hj2 : j = ((k % s.size : Nat) : Int) := by rw [← hj]; exact (Int.natCast_emod k s.size).symm
    have hj0 : 0 ≤ j := by omega
    have hj1 : j < (s.size : Int) := by omega
    have hbt := bt_at s j
    obtain ⟨c, hc⟩ : ∃ c, c = bt s j := ⟨_, rfl⟩
    rw [← hc] at hbt
    have hsne : ¬ ((s.size : Int) = 0) := by omega
    obtain ⟨f, rfl⟩ : ∃ f', f = f' + 1 := ⟨f - 1, by have := HF.out; omega⟩
    have HA1 : Aside0 (R = if rmore s ag k d = true then if c = 110 then (match rnumber d with | .error e => .error e | .ok (n, t) => rall s ag f (k + 1) t (acc ++ [⟨n, ⟨#[]⟩⟩])) else (match rtext d with | .error e => .error e | .ok (x, t) => rall s ag f (k + 1) t (acc ++ [⟨0, x⟩])) else if d.isEmpty then .ok acc else .error 2) := ⟨by rw [← HA.out, rall, ← hj2, ← hc]⟩
    have hdl : d.length ≤ 140737488351232 := by omega
    have HM : Aside0 (rmore s ag k d = true → (ag = true ∧ 0 < d.length) ∨ (ag = true ∧ d.length = 0 ∧ ¬ j = 0) ∨ (ag = false ∧ k < s.size)) := ⟨by
      unfold rmore
      cases ag
      · simp
      · cases d <;> simp
        intro h1 h2
        omega⟩
    have HJ := Aside0.mk hj2
    clear hj2 hmod hc HA
    by_cases hm : rmore s ag k d = true
    · have hways := HM.out hm
      have HA2 := Aside0.mk (HA1.out.trans (if_pos hm))
      clear hm HM HA1
      by_cases h110 : c = 110
      · have hcb : (c == 110) = true := by simp [h110]
        have HA3 := Aside0.mk (HA2.out.trans (if_pos h110))
        clear HA2
        cases hrn : rnumber d with
        | error x =>
          have HA4 : Aside0 (R = .error x) := ⟨by rw [HA3.out, hrn]⟩
          have HRN := Aside0.mk hrn
          clear HA3 hrn
          rcases hways with ⟨rfl, hw⟩ | ⟨rfl, hw, hw2⟩ | ⟨rfl, hw⟩
          all_goals
            go_wp2
            refine start_ (n := 7) (S := fun w' => w'.cell? ⟨p, 0, none⟩ = some v) (ds := [6]) #[false, false, false, false, false, false, false] (by kernel_rfl) rfl rfl (HI.out.drew.cell) (fun hHeld => ?_)
            refine pure_ (i := 1) (N := some 46) (v := ?_) (a' := ?_) #[false, true, false, false, false, false, false] rfl rfl (by kernel_rfl) (fun _ a_ _ h_ => leaves_put (res26 a_ _ _ (by decide) (by decide)) _ _ _ h_) (Or.inl ⟨by rfl, ?_⟩) ?_ ?_
            rotate_left
            · intro w'
              go_simp
              with_reducible rfl
            rotate_left
            · simp only [Act.put, List.setIfInBounds_toArray, List.set_cons_zero, List.set_cons_succ, i64_w, i32_w]
              rfl
            refine take_ (i := 0) (N := some 45) (v := ?_) (a' := ?_) #[true, true, false, false, false, false, false] rfl rfl (by kernel_rfl) (fun _ a_ _ h_ => leaves_put (res26 a_ _ _ (by decide) (by decide)) _ _ _ h_) (Or.inl ⟨by rfl, ?_⟩) hHeld ?_ ?_
            rotate_left
            · intro w' s0
              go_simp
              with_reducible rfl
            rotate_left
            · simp only [Act.put, List.setIfInBounds_toArray, List.set_cons_zero, List.set_cons_succ, i64_w, i32_w]
              rfl
            refine one_ (i := 2) (N := some 47) #[true, true, true, false, false, false, false] rfl rfl (by kernel_rfl) (by decide) (fun K hK => ?_)
            refine goesP_ Tryd.func31 (by kernel_rfl) rfl #[.pointer (some ⟨g, 0, none⟩)] (by rfl) rfl rfl (by simp only [List.map_toArray, List.map_cons, List.map_nil]; rfl) ?_
            with_reducible refine (number_any w0 _ g d HI.out.drew.be HG.out HI.out.drew.rd HD.out hdl).mono ?_
            rintro e w5 ⟨hB5, hK5, hN⟩
            obtain rfl : e = stopV x := (by unfold NumPost at hN; rw [HRN.out] at hN; exact hN)
            have hlt5 := HI.out.drew.lt
            have h5p := (hK5.2 p (by omega) (by omega) (by simp)).trans HI.out.drew.hp
            have h5q := (hK5.2 (p + 1) hlt5 (by omega) (by simp)).trans HI.out.drew.hq
            exact Or.inr ⟨_, rfl, all_stop w0 w5 p v x R _ HA4.out hB5 h5p h5q (by have := HG.out; omega) (by rfl) (by rfl)⟩
        | ok nt =>
          obtain ⟨n, t⟩ := nt
          have HA4 : Aside0 (R = rall s ag f (k + 1) t (acc ++ [⟨n, ⟨#[]⟩⟩])) := ⟨by rw [HA3.out, hrn]⟩
          have HRN := Aside0.mk hrn
          obtain ⟨m, hm0, hmt, hml⟩ := rnumber_left hrn
          have htl : t.length < d.length := by rw [hmt, List.length_drop]; omega
          have HT : Aside0 (Bytes t) := ⟨fun x hx => HD.out x (by rw [hmt] at hx; exact List.mem_of_mem_drop hx)⟩
          clear HA3 hrn hmt
          rcases hways with ⟨rfl, hw⟩ | ⟨rfl, hw, hw2⟩ | ⟨rfl, hw⟩
          case inr.inl => exact absurd htl (by omega)
          all_goals
            go_wp2
            refine start_ (n := 7) (S := fun w' => w'.cell? ⟨p, 0, none⟩ = some v) (ds := [6]) #[false, false, false, false, false, false, false] (by kernel_rfl) rfl rfl (HI.out.drew.cell) (fun hHeld => ?_)
            refine pure_ (i := 1) (N := some 46) (v := ?_) (a' := ?_) #[false, true, false, false, false, false, false] rfl rfl (by kernel_rfl) (fun _ a_ _ h_ => leaves_put (res26 a_ _ _ (by decide) (by decide)) _ _ _ h_) (Or.inl ⟨by rfl, ?_⟩) ?_ ?_
            rotate_left
            · intro w'
              go_simp
              with_reducible rfl
            rotate_left
            · simp only [Act.put, List.setIfInBounds_toArray, List.set_cons_zero, List.set_cons_succ, i64_w, i32_w]
              rfl
            refine take_ (i := 0) (N := some 45) (v := ?_) (a' := ?_) #[true, true, false, false, false, false, false] rfl rfl (by kernel_rfl) (fun _ a_ _ h_ => leaves_put (res26 a_ _ _ (by decide) (by decide)) _ _ _ h_) (Or.inl ⟨by rfl, ?_⟩) hHeld ?_ ?_
            rotate_left
            · intro w' s0
              go_simp
              with_reducible rfl
            rotate_left
            · simp only [Act.put, List.setIfInBounds_toArray, List.set_cons_zero, List.set_cons_succ, i64_w, i32_w]
              rfl
            refine one_ (i := 2) (N := some 47) #[true, true, true, false, false, false, false] rfl rfl (by kernel_rfl) (by decide) (fun K hK => ?_)
            refine goes_ Tryd.func31 (by kernel_rfl) rfl #[.pointer (some ⟨g, 0, none⟩)] (by rfl) rfl rfl (by simp only [List.map_toArray, List.map_cons, List.map_nil]; rfl) ?_
            with_reducible refine (number_any w0 _ g d HI.out.drew.be HG.out HI.out.drew.rd HD.out hdl).mono ?_
            rintro e w5 ⟨hB5, hK5, hN⟩
            obtain ⟨rfl, hR5⟩ : e = .returned (.int .i64 n) ∧ RdAt w5 g t := (by unfold NumPost at hN; rw [HRN.out] at hN; exact hN)
            have I5 := Aside0.mk (HI.out.drew.taken hB5 hK5 hR5)
            clear hB5 hK5 hN hR5
            refine ⟨_, rfl, ?_⟩
            refine hK.out _ _ (I5.out.cell) (fun hHeld => ?_)
            clear hK K
            refine norm_ (a' := ?_) ?_ ?_
            rotate_left
            · show Act.put _ (some 47) _ = _
              simp only [Act.put, List.setIfInBounds_toArray, List.set_cons_zero, List.set_cons_succ, i64_w, i32_w]
              rfl
            refine one_ (i := 3) (N := some 48) #[true, true, true, true, false, false, false] rfl rfl (by kernel_rfl) (by decide) (fun K hK => ?_)
            refine goes_ Tryd.func13 (by kernel_rfl) rfl #[.int .i64 n] (by rfl) rfl rfl (by simp only [List.map_toArray, List.map_cons, List.map_nil]; rfl) ?_
            with_reducible refine (pack_Number.calls n n ⟨#[]⟩ _ rfl).mono ?_
            rintro e w6 ⟨rfl, hb6⟩
            have I6 := Aside0.mk (I5.out.below hb6)
            clear hb6
            refine ⟨_, rfl, ?_⟩
            refine hK.out _ _ (I6.out.cell) (fun hHeld => ?_)
            clear hK K
            refine norm_ (a' := ?_) ?_ ?_
            rotate_left
            · show Act.put _ (some 48) _ = _
              simp only [Act.put, List.setIfInBounds_toArray, List.set_cons_zero, List.set_cons_succ, i64_w, i32_w]
              rfl
            refine one_ (i := 4) (N := some 49) #[true, true, true, true, true, false, false] rfl rfl (by kernel_rfl) (by decide) (fun K hK => ?_)
            refine value_ (w1 := ?_) (v := ?_) (by rfl) rfl ?_ ?_
            rotate_left 2
            · go_simp
              constructor
              · rfl
              · rfl
            refine hK.out _ _ ((I6.out.alloc _).cell) (fun hHeld => ?_)
            clear hK K
            refine norm_ (a' := ?_) ?_ ?_
            rotate_left
            · show Act.put _ (some 49) _ = _
              simp only [Act.put, List.setIfInBounds_toArray, List.set_cons_zero, List.set_cons_succ, i64_w, i32_w]
              rfl
            refine one_ (i := 5) (N := some 50) #[true, true, true, true, true, true, false] rfl rfl (by kernel_rfl) (by decide) (fun K hK => ?_)
            refine Kd.R_append_step k34 (w0 := w0) w0.heap.size (by rfl) (.tmp 45) (.tmp 49) 22 34 (.agg #[(.int .i64 0), (.string ⟨#[]⟩)]) 24 rfl Tryd.underlying22 info34 rfl (by decide) (by omega) v acc ⟨n, ⟨#[]⟩⟩ [.int .i64 n, .string ⟨#[]⟩] (fun k => p + 2 ≤ k) (fun _ => False) rfl rfl (k34_mkM _ _ _ ⟨n, ⟨#[]⟩⟩) (fun _ hk => hk.elim) (fun k hk => by have := I6.out.lt; show p + 2 ≤ k; omega) I6.out.ro I6.out.be (below_size I6.out.be) (by have := HL.out; omega) ?_
            intro v1 w7 ho7 hb7 hg7 hat7
            obtain ⟨c7, f7, i7⟩ := I6.out.grown hg7 hb7 ho7
            obtain ⟨A7, cc7, rfl, _, _⟩ := Kd.R_reads ho7
            rw [List.length_append, List.length_singleton] at i7
            have I7 := Aside0.mk i7
            clear ho7 hb7 hg7 hat7 i7
            refine hK.out _ _ (c7) (fun hHeld => ?_)
            clear hK K
            refine norm_ (a' := ?_) ?_ ?_
            rotate_left
            · show Act.put _ (some 50) _ = _
              simp only [Act.put, List.setIfInBounds_toArray, List.set_cons_zero, List.set_cons_succ, i64_w, i32_w]
              rfl
            refine last_ (i := 6) (N := none) #[true, true, true, true, true, true, true] rfl rfl (by kernel_rfl) (by decide) (fun K hK => ?_)
            refine skip_ (w1 := ?_) (by rfl) rfl ?_ ?_
            rotate_left
            · go_simp
              rfl
            refine hK.out _ _ ?_
            clear hK K
            refine done_ (by kernel_rfl) ?_

            go_wp2
            go_roundw
            case rel => exact ⟨k + 1, f, t, _, _, by go_num, by omega, ⟨by have := HF.out; omega⟩, ⟨HA4.out.symm⟩, HT, ⟨by have := HL.out; simp [this]⟩, I7⟩
            case measure => first | (simp [intOf]; done) | (simp [intOf]; omega)
      · have hcb : (c == 110) = false := by simp [h110]
        have HA3 := Aside0.mk (HA2.out.trans (if_neg h110))
        clear HA2 h110
        cases hrn : rtext d with
        | error x =>
          have HA4 : Aside0 (R = .error x) := ⟨by rw [HA3.out, hrn]⟩
          have HRN := Aside0.mk hrn
          clear HA3 hrn
          rcases hways with ⟨rfl, hw⟩ | ⟨rfl, hw, hw2⟩ | ⟨rfl, hw⟩
          all_goals
            go_wp2
            refine start_ (n := 7) (S := fun w' => w'.cell? ⟨p, 0, none⟩ = some v) (ds := [6]) #[false, false, false, false, false, false, false] (by kernel_rfl) rfl rfl (HI.out.drew.cell) (fun hHeld => ?_)
            refine pure_ (i := 1) (N := some 52) (v := ?_) (a' := ?_) #[false, true, false, false, false, false, false] rfl rfl (by kernel_rfl) (fun _ a_ _ h_ => leaves_put (res26 a_ _ _ (by decide) (by decide)) _ _ _ h_) (Or.inl ⟨by rfl, ?_⟩) ?_ ?_
            rotate_left
            · intro w'
              go_simp
              with_reducible rfl
            rotate_left
            · simp only [Act.put, List.setIfInBounds_toArray, List.set_cons_zero, List.set_cons_succ, i64_w, i32_w]
              rfl
            refine take_ (i := 0) (N := some 51) (v := ?_) (a' := ?_) #[true, true, false, false, false, false, false] rfl rfl (by kernel_rfl) (fun _ a_ _ h_ => leaves_put (res26 a_ _ _ (by decide) (by decide)) _ _ _ h_) (Or.inl ⟨by rfl, ?_⟩) hHeld ?_ ?_
            rotate_left
            · intro w' s0
              go_simp
              with_reducible rfl
            rotate_left
            · simp only [Act.put, List.setIfInBounds_toArray, List.set_cons_zero, List.set_cons_succ, i64_w, i32_w]
              rfl
            refine one_ (i := 2) (N := some 53) #[true, true, true, false, false, false, false] rfl rfl (by kernel_rfl) (by decide) (fun K hK => ?_)
            refine goesP_ Tryd.func32 (by kernel_rfl) rfl #[.pointer (some ⟨g, 0, none⟩)] (by rfl) rfl rfl (by simp only [List.map_toArray, List.map_cons, List.map_nil]; rfl) ?_
            with_reducible refine (text_any w0 _ g d HI.out.drew.be HG.out HI.out.drew.rd HD.out hdl).mono ?_
            rintro e w5 ⟨hB5, hK5, hN⟩
            obtain rfl : e = stopV x := (by unfold TextPost at hN; rw [HRN.out] at hN; exact hN)
            have hlt5 := HI.out.drew.lt
            have h5p := (hK5.2 p (by omega) (by omega) (by simp)).trans HI.out.drew.hp
            have h5q := (hK5.2 (p + 1) hlt5 (by omega) (by simp)).trans HI.out.drew.hq
            exact Or.inr ⟨_, rfl, all_stop w0 w5 p v x R _ HA4.out hB5 h5p h5q (by have := HG.out; omega) (by rfl) (by rfl)⟩
        | ok nt =>
          obtain ⟨n, t⟩ := nt
          have HA4 : Aside0 (R = rall s ag f (k + 1) t (acc ++ [⟨0, n⟩])) := ⟨by rw [HA3.out, hrn]⟩
          have HRN := Aside0.mk hrn
          obtain ⟨m, hm0, hmt, hml⟩ := rtext_left hrn
          have htl : t.length < d.length := by rw [hmt, List.length_drop]; omega
          have HT : Aside0 (Bytes t) := ⟨fun x hx => HD.out x (by rw [hmt] at hx; exact List.mem_of_mem_drop hx)⟩
          clear HA3 hrn hmt
          rcases hways with ⟨rfl, hw⟩ | ⟨rfl, hw, hw2⟩ | ⟨rfl, hw⟩
          case inr.inl => exact absurd htl (by omega)
          all_goals
            go_wp2
            refine start_ (n := 7) (S := fun w' => w'.cell? ⟨p, 0, none⟩ = some v) (ds := [6]) #[false, false, false, false, false, false, false] (by kernel_rfl) rfl rfl (HI.out.drew.cell) (fun hHeld => ?_)
            refine pure_ (i := 1) (N := some 52) (v := ?_) (a' := ?_) #[false, true, false, false, false, false, false] rfl rfl (by kernel_rfl) (fun _ a_ _ h_ => leaves_put (res26 a_ _ _ (by decide) (by decide)) _ _ _ h_) (Or.inl ⟨by rfl, ?_⟩) ?_ ?_
            rotate_left
            · intro w'
              go_simp
              with_reducible rfl
            rotate_left
            · simp only [Act.put, List.setIfInBounds_toArray, List.set_cons_zero, List.set_cons_succ, i64_w, i32_w]
              rfl
            refine take_ (i := 0) (N := some 51) (v := ?_) (a' := ?_) #[true, true, false, false, false, false, false] rfl rfl (by kernel_rfl) (fun _ a_ _ h_ => leaves_put (res26 a_ _ _ (by decide) (by decide)) _ _ _ h_) (Or.inl ⟨by rfl, ?_⟩) hHeld ?_ ?_
            rotate_left
            · intro w' s0
              go_simp
              with_reducible rfl
            rotate_left
            · simp only [Act.put, List.setIfInBounds_toArray, List.set_cons_zero, List.set_cons_succ, i64_w, i32_w]
              rfl
            refine one_ (i := 2) (N := some 53) #[true, true, true, false, false, false, false] rfl rfl (by kernel_rfl) (by decide) (fun K hK => ?_)
            refine goes_ Tryd.func32 (by kernel_rfl) rfl #[.pointer (some ⟨g, 0, none⟩)] (by rfl) rfl rfl (by simp only [List.map_toArray, List.map_cons, List.map_nil]; rfl) ?_
            with_reducible refine (text_any w0 _ g d HI.out.drew.be HG.out HI.out.drew.rd HD.out hdl).mono ?_
            rintro e w5 ⟨hB5, hK5, hN⟩
            obtain ⟨rfl, hR5⟩ : e = .returned (.string n) ∧ RdAt w5 g t := (by unfold TextPost at hN; rw [HRN.out] at hN; exact hN)
            have I5 := Aside0.mk (HI.out.drew.taken hB5 hK5 hR5)
            clear hB5 hK5 hN hR5
            refine ⟨_, rfl, ?_⟩
            refine hK.out _ _ (I5.out.cell) (fun hHeld => ?_)
            clear hK K
            refine norm_ (a' := ?_) ?_ ?_
            rotate_left
            · show Act.put _ (some 53) _ = _
              simp only [Act.put, List.setIfInBounds_toArray, List.set_cons_zero, List.set_cons_succ, i64_w, i32_w]
              rfl
            refine one_ (i := 3) (N := some 54) #[true, true, true, true, false, false, false] rfl rfl (by kernel_rfl) (by decide) (fun K hK => ?_)
            refine goes_ Tryd.func14 (by kernel_rfl) rfl #[.string n] (by rfl) rfl rfl (by simp only [List.map_toArray, List.map_cons, List.map_nil]; rfl) ?_
            with_reducible refine (pack_Text.calls n 0 n _ rfl).mono ?_
            rintro e w6 ⟨rfl, hb6⟩
            have I6 := Aside0.mk (I5.out.below hb6)
            clear hb6
            refine ⟨_, rfl, ?_⟩
            refine hK.out _ _ (I6.out.cell) (fun hHeld => ?_)
            clear hK K
            refine norm_ (a' := ?_) ?_ ?_
            rotate_left
            · show Act.put _ (some 54) _ = _
              simp only [Act.put, List.setIfInBounds_toArray, List.set_cons_zero, List.set_cons_succ, i64_w, i32_w]
              rfl
            refine one_ (i := 4) (N := some 55) #[true, true, true, true, true, false, false] rfl rfl (by kernel_rfl) (by decide) (fun K hK => ?_)
            refine value_ (w1 := ?_) (v := ?_) (by rfl) rfl ?_ ?_
            rotate_left 2
            · go_simp
              constructor
              · rfl
              · rfl
            refine hK.out _ _ ((I6.out.alloc _).cell) (fun hHeld => ?_)
            clear hK K
            refine norm_ (a' := ?_) ?_ ?_
            rotate_left
            · show Act.put _ (some 55) _ = _
              simp only [Act.put, List.setIfInBounds_toArray, List.set_cons_zero, List.set_cons_succ, i64_w, i32_w]
              rfl
            refine one_ (i := 5) (N := some 56) #[true, true, true, true, true, true, false] rfl rfl (by kernel_rfl) (by decide) (fun K hK => ?_)
            refine Kd.R_append_step k34 (w0 := w0) w0.heap.size (by rfl) (.tmp 51) (.tmp 55) 22 34 (.agg #[(.int .i64 0), (.string ⟨#[]⟩)]) 24 rfl Tryd.underlying22 info34 rfl (by decide) (by omega) v acc ⟨0, n⟩ [.int .i64 0, .string n] (fun k => p + 2 ≤ k) (fun _ => False) rfl rfl (k34_mkM _ _ _ ⟨0, n⟩) (fun _ hk => hk.elim) (fun k hk => by have := I6.out.lt; show p + 2 ≤ k; omega) I6.out.ro I6.out.be (below_size I6.out.be) (by have := HL.out; omega) ?_
            intro v1 w7 ho7 hb7 hg7 hat7
            obtain ⟨c7, f7, i7⟩ := I6.out.grown hg7 hb7 ho7
            obtain ⟨A7, cc7, rfl, _, _⟩ := Kd.R_reads ho7
            rw [List.length_append, List.length_singleton] at i7
            have I7 := Aside0.mk i7
            clear ho7 hb7 hg7 hat7 i7
            refine hK.out _ _ (c7) (fun hHeld => ?_)
            clear hK K
            refine norm_ (a' := ?_) ?_ ?_
            rotate_left
            · show Act.put _ (some 56) _ = _
              simp only [Act.put, List.setIfInBounds_toArray, List.set_cons_zero, List.set_cons_succ, i64_w, i32_w]
              rfl
            refine last_ (i := 6) (N := none) #[true, true, true, true, true, true, true] rfl rfl (by kernel_rfl) (by decide) (fun K hK => ?_)
            refine skip_ (w1 := ?_) (by rfl) rfl ?_ ?_
            rotate_left
            · go_simp
              rfl
            refine hK.out _ _ ?_
            clear hK K
            refine done_ (by kernel_rfl) ?_

            go_wp2
            go_roundw
            case rel => exact ⟨k + 1, f, t, _, _, by go_num, by omega, ⟨by have := HF.out; omega⟩, ⟨HA4.out.symm⟩, HT, ⟨by have := HL.out; simp [this]⟩, I7⟩
            case measure => first | (simp [intOf]; done) | (simp [intOf]; omega)
    · have HA2 := Aside0.mk (HA1.out.trans (if_neg hm))
      have hw : (ag = true ∧ d.length = 0 ∧ j = 0) ∨ (ag = false ∧ ¬ k < s.size) := by
        have e := HJ.out
        unfold rmore at hm
        cases ag
        · simpa using hm
        · cases d
          · simp at hm
            exact .inl ⟨rfl, rfl, by omega⟩
          · simp at hm
      clear hm HM HA1
      obtain ⟨A9, c9, rfl, _, _⟩ := Kd.R_reads HI.out.ro
      have cq := HI.out.cellq
      have fq := HI.out.frozq
      rcases hw with ⟨rfl, hw, hw2⟩ | ⟨rfl, hw⟩
      · have HA3 : Aside0 (R = .ok acc) := ⟨by rw [HA2.out]; cases d <;> simp at hw ⊢⟩
        go_wp2
        all_goals exact all_fin HI.out R _ HA3.out (by rfl) (by rfl)
      · have hk2 : ¬ ((k : Int) < (s.size : Int)) := by omega
        by_cases hd : d.length = 0
        · have HA3 : Aside0 (R = .ok acc) := ⟨by rw [HA2.out]; cases d <;> simp at hd ⊢⟩
          go_wp2
          exact all_fin HI.out R _ HA3.out (by rfl) (by rfl)
        · have HA3 : Aside0 (R = .error 2) := ⟨by rw [HA2.out]; cases d <;> simp at hd ⊢⟩
          have hd2 : 0 < d.length := by omega
          go_wp2
          exact all_stop w0 wr p _ 2 R _ HA3.out HI.out.be HI.out.hp HI.out.hq (by have := HG.out; omega) (by rfl) (by rfl)
end Go.Proofs.YtalndlemejalaaaDoor.P
