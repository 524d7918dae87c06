/- What an argument reads as, opened to a kind of the print's words (Kd): ints, bools, strings, structs, slices, one in another (no dump in sight). -/
import Derived.Test.YtalndlemejalaaaDoorBox
import Derived.Deep.Slices
import Derived.ChangeSame
import Derived.SizedLaws
namespace Go.Proofs.YtalndlemejalaaaDoor.Open
open Go.RowKit Go.Proofs.YtalndlemejalaaaDoorW.PrintWords

/-- Cells that read by the type t are of the kind d; 'wf': what is known of what they tell. -/
def Opens {α : Type} (P : Program) (d : Kd α) (t : TypeId) (wf : α → Prop) : Prop :=
  ∀ (H : Type) (enc : TypeId × Value → H) (w : World) (base : Nat) (sp : Nat → Bool) (held : Bool) (fuel : Nat) (cs : List Value) (x : DataW H × List MemPlace),
    DataW.trod enc P w base sp held fuel t cs = some x → (∀ n ∈ x.1.weights P t, n ≤ reachBytes) → ∃ a, d.K w a cs ∧ wf a
theorem Opens.int {P : Program} {t : TypeId} {k : IntKind} (ht : P.underlying t = some (.int k)) : Opens P (Kd.int k) t (fun n => (Lit.int k n).wf = true) := by
  intro H enc w base sp held fuel cs x h _
  obtain ⟨n, rfl, rfl, hw⟩ := DataW.trod_int ht h
  exact ⟨n, rfl, hw⟩
theorem Opens.bool {P : Program} {t : TypeId} (ht : P.underlying t = some .bool) : Opens P Kd.bool t (fun _ => True) := by
  intro H enc w base sp held fuel cs x h _
  obtain ⟨n, rfl, rfl⟩ := DataW.trod_bool ht h
  exact ⟨n, rfl, trivial⟩
theorem Opens.string {P : Program} {t : TypeId} (ht : P.underlying t = some .string) : Opens P Kd.string t (fun s => s.size ≤ 140737488351232) := by
  intro H enc w base sp held fuel cs x h hw
  obtain ⟨s, rfl, rfl, _⟩ := DataW.trod_string ht h
  have := hw s.data.toList.length (by simp [DataW.weights])
  refine ⟨s, rfl, ?_⟩
  have e : reachBytes = 140737488351232 := by decide
  rw [e] at this
  simpa using this
theorem Opens.iso {α β : Type} {P : Program} {d : Kd α} {t : TypeId} {wf : α → Prop} {f : β → α} (g : α → β) (hg : ∀ a, f (g a) = a) (h : Opens P d t wf) : Opens P (Kd.iso d f) t (fun b => wf (f b)) := by
  intro H enc w base sp held fuel cs x hx hw
  obtain ⟨a, hk, ha⟩ := h H enc w base sp held fuel cs x hx hw
  exact ⟨g a, by show d.K w (f (g a)) cs; rw [hg]; exact hk, by show wf (f (g a)); rw [hg]; exact ha⟩

/-- Fields' cells, one behind another. -/
def Segs {H : Type} (enc : TypeId × Value → H) (P : Program) (w : World) (base : Nat) (sp : Nat → Bool) (held : Bool) : List TypeId → List Value → List (DataW H) → Prop
  | [], cs, ds => cs = [] ∧ ds = []
  | t :: ts, cs, ds => ∃ c r fuel x ds', cs = c ++ r ∧ DataW.trod enc P w base sp held fuel t c = some x ∧ ds = x.1 :: ds' ∧ Segs enc P w base sp held ts r ds'
def OpensL {α : Type} (P : Program) (d : Kd α) (ts : List TypeId) (wf : α → Prop) : Prop :=
  ∀ (H : Type) (enc : TypeId × Value → H) (w : World) (base : Nat) (sp : Nat → Bool) (held : Bool) (cs : List Value) (ds : List (DataW H)),
    Segs enc P w base sp held ts cs ds → (∀ n ∈ DataW.weightsEach P ts ds, n ≤ reachBytes) → ∃ a, d.K w a cs ∧ wf a
theorem OpensL.one {α : Type} {P : Program} {d : Kd α} {t : TypeId} {wf : α → Prop} (h : Opens P d t wf) : OpensL P d [t] wf := by
  rintro H enc w base sp held cs ds ⟨c, r, fuel, x, ds', rfl, hx, rfl, rfl, rfl⟩ hw
  rw [List.append_nil]
  exact h H enc w base sp held fuel c x hx (fun n hn => hw n (by simp [DataW.weightsEach, hn]))
theorem OpensL.cons {α β : Type} {P : Program} {d : Kd α} {d' : Kd β} {t : TypeId} {ts : List TypeId} {wf : α → Prop} {wf' : β → Prop} (h : Opens P d t wf) (h' : OpensL P d' ts wf') : OpensL P (Kd.pair d d') (t :: ts) (fun p => wf p.1 ∧ wf' p.2) := by
  rintro H enc w base sp held cs ds ⟨c, r, fuel, x, ds', rfl, hx, rfl, hs⟩ hw
  obtain ⟨a, hk, ha⟩ := h H enc w base sp held fuel c x hx (fun n hn => hw n (by simp [DataW.weightsEach, hn]))
  obtain ⟨b, hk', hb⟩ := h' H enc w base sp held r ds' hs (fun n hn => hw n (by simp [DataW.weightsEach, hn]))
  exact ⟨(a, b), ⟨c, r, rfl, hk, hk'⟩, ha, hb⟩
/-- The fields lie in line from a place on; the place behind them. -/
def inLine (P : Program) : List Field → Nat → Option Nat
  | [], o => some o
  | f :: r, o => if f.offset = o then inLine P r (o + P.cellsOf f.type) else none
theorem segs_of {H : Type} {enc : TypeId × Value → H} {P : Program} {w : World} {base : Nat} {sp : Nat → Bool} {held : Bool} {n : Nat} {cs : List Value} : ∀ (fs : List Field) (o : Nat) (xs : List (DataW H × List MemPlace)), xs.length = fs.length →
    (∀ (i : Nat) (f : Field), fs[i]? = some f → DataW.trod enc P w base sp held n f.type ((cs.drop f.offset).take (P.cellsOf f.type)) = xs[i]?) → inLine P fs o = some cs.length → Segs enc P w base sp held (fs.map (·.type)) (cs.drop o) (xs.map (·.1))
  | [], o, xs, hl, _, ho => by
    injection ho with ho
    cases xs with
    | nil => exact ⟨by rw [ho]; simp, rfl⟩
    | cons => simp at hl
  | f :: fs, o, [], hl, _, _ => by simp at hl
  | f :: fs, o, x :: xs, hl, hx, ho => by
    rw [inLine] at ho
    split at ho
    · rename_i he
      have h0 := hx 0 f rfl
      rw [he] at h0
      refine ⟨(cs.drop o).take (P.cellsOf f.type), (cs.drop o).drop (P.cellsOf f.type), n, x, xs.map (·.1), (List.take_append_drop _ _).symm, by simpa using h0, rfl, ?_⟩
      rw [List.drop_drop]
      exact segs_of fs _ xs (by simpa using hl) (fun i g hg => by simpa using hx (i + 1) g (by simpa using hg)) ho
    · cases ho
theorem Opens.struct {α : Type} {P : Program} {d : Kd α} {t : TypeId} {wf : α → Prop} {fs : Array Field} (ht : P.underlying t = some (.struct fs)) (ho : inLine P fs.toList 0 = some (P.cellsOf t)) (h : OpensL P d (fs.toList.map (·.type)) wf) : Opens P d t wf := by
  intro H enc w base sp held fuel cs x hx hw
  obtain ⟨xs, n, rfl, rfl, hl, hxl, hf⟩ := DataW.trod_struct ht hx
  have hs := segs_of (enc := enc) (w := w) (base := base) (sp := sp) (held := held) (n := n) (cs := cs) fs.toList 0 xs (by simpa using hxl) (fun i f hi => hf i f (by simpa using hi)) (by rw [ho, hl])
  rw [List.drop_zero] at hs
  refine h H enc w base sp held cs _ hs (fun m hm => hw m ?_)
  simpa [DataW.weights, ht] using hm
theorem weightsAll_mem {H : Type} {P : Program} {e : TypeId} : ∀ {ds : List (DataW H)} {d : DataW H} {n : Nat}, d ∈ ds → n ∈ d.weights P e → n ∈ DataW.weightsAll P e ds
  | [], _, _, h, _ => by cases h
  | d0 :: ds, d, n, h, hn => by
    rw [DataW.weightsAll]
    rcases List.mem_cons.1 h with rfl | h
    · exact List.mem_append_left _ hn
    · exact List.mem_append_right _ (weightsAll_mem h hn)
theorem slice_core {α : Type} {P : Program} {d : Kd α} {t e : TypeId} {b : Nat} {wf : α → Prop} (ht : P.underlying t = some (.slice e)) (hc : P.cellsOf e = d.sz) (hb : P.bytesOf e = b) (h : Opens P d e wf)
    {H : Type} {enc : TypeId × Value → H} {w : World} {base : Nat} {sp : Nat → Bool} {held : Bool} {fuel : Nat} {cs : List Value} {x : DataW H × List MemPlace} (hx : DataW.trod enc P w base sp held fuel t cs = some x) (hw : ∀ n ∈ x.1.weights P t, n ≤ reachBytes) :
    ∃ (A : Option Addr) (c : Nat) (l : List α), cs = [.slice A l.length c] ∧ l.length ≤ c ∧ c ≤ maxLen ∧ d.C w A l.length l ∧ l.length * b ≤ 140737488351232 ∧ ∀ y ∈ l, wf y := by
  rcases Deep.open_slice ht hx with ⟨rfl, _⟩ | ⟨a, len, cap, m, n, D, Pl, rfl, hba, hl, hm, hmm, rfl, hi⟩
  · exact ⟨none, 0, [], rfl, Nat.le_refl _, by decide, Kd.C_nil d w, by simp, fun y hy => by cases hy⟩
  · have hlm : len ≤ m := by rw [hmm]; split <;> omega
    have each : ∀ i : Fin len, ∃ y : α, ∃ cs', w.cells? base (a.add (i.1 * P.cellsOf e)) (P.cellsOf e) = some cs' ∧ d.K w y cs' ∧ wf y := by
      intro i
      obtain ⟨cs', h1, h2⟩ := hi i.1 (by omega)
      obtain ⟨y, hk, hy⟩ := h H enc w base sp held n cs' _ h2 (fun q hq => hw q (by
        simp only [DataW.weights, ht]
        refine List.mem_cons_of_mem _ (List.mem_append_left _ (weightsAll_mem (d := D i.1) ?_ hq))
        exact List.mem_map.2 ⟨i.1, List.mem_range.2 i.2, rfl⟩))
      exact ⟨y, cs', h1, hk, hy⟩
    have hlen : (List.ofFn fun i => Classical.choose (each i)).length = len := by simp
    have hget : ∀ j y, (List.ofFn fun i => Classical.choose (each i))[j]? = some y → ∃ cs', w.cells? base (a.add (j * P.cellsOf e)) (P.cellsOf e) = some cs' ∧ d.K w y cs' ∧ wf y := by
      intro j y hj
      obtain ⟨hjl, hy⟩ := List.getElem?_eq_some_iff.1 hj
      rw [List.getElem_ofFn] at hy
      rw [← hy]
      exact Classical.choose_spec (each ⟨j, by simpa using hjl⟩)
    generalize (List.ofFn fun i => Classical.choose (each i)) = l at hlen hget
    subst hlen
    refine ⟨some a, cap, l, rfl, hl, hm, ⟨rfl, Nat.le_trans hl (Nat.le_trans hm (by decide)), fun _ => ⟨a, rfl, fun j p hj => ?_⟩⟩, ?_, fun y hy => ?_⟩
    · obtain ⟨cs', h1, hk, _⟩ := hget j p hj
      obtain ⟨_, hcl, hcell⟩ := World.cells?_some h1
      refine ⟨cs', by rw [hcl, hc], hk, fun i u hu => ?_⟩
      have hil : i < P.cellsOf e := by rw [← hcl]; exact (List.getElem?_eq_some_iff.1 hu).1
      have h3 := hcell i hil
      rw [Deep.add_add, hu, hc] at h3
      exact h3
    · have h1 := hw ((l.length + (m - l.length)) * P.bytesOf e) (by simp [DataW.weights, ht])
      have e1 : reachBytes = 140737488351232 := by decide
      rw [e1, hb] at h1
      exact Nat.le_trans (Nat.mul_le_mul_right _ (by omega)) h1
    · obtain ⟨j, hj⟩ := List.mem_iff_getElem?.1 hy
      obtain ⟨_, _, _, hy⟩ := hget j y hj
      exact hy
theorem Opens.slice {α : Type} {P : Program} {d : Kd α} {t e : TypeId} {b : Nat} {wf : α → Prop} (ht : P.underlying t = some (.slice e)) (hc : P.cellsOf e = d.sz) (hb : P.bytesOf e = b) (h : Opens P d e wf) :
    Opens P (Kd.slice e d) t (fun l => l.length * b ≤ 140737488351232 ∧ ∀ y ∈ l, wf y) := by
  intro H enc w base sp held fuel cs x hx hw
  obtain ⟨A, c, l, rfl, hl, _, hC, hb2, hy⟩ := slice_core ht hc hb h hx hw
  exact ⟨l, ⟨A, c, rfl, hl, hC⟩, hb2, hy⟩
/-- An argument that is a slice. -/
theorem arg_slice {α : Type} {P : Program} {d : Kd α} {t e : TypeId} {b : Nat} {wf : α → Prop} (ht : P.underlying t = some (.slice e)) (hc : P.cellsOf e = d.sz) (hb : P.bytesOf e = b) (h : Opens P d e wf)
    {H : Type} {enc : TypeId × Value → H} {w : World} {base : Nat} {sp : Nat → Bool} {held : Bool} {A : Option Addr} {len cap : Nat} {x : DataW H} {ps : List MemPlace} (hx : DataW.Trod enc P w base sp held t (.slice A len cap) x ps)
    {ts : List TypeId} {ds : List (DataW H)} {j : Nat} (hsz : (DataW.weightsEach P ts ds).all (· ≤ reachBytes) = true) (hj : ts[j]? = some t) (hd : ds[j]? = some x) :
    ∃ l : List α, len = l.length ∧ l.length ≤ cap ∧ cap ≤ maxLen ∧ d.C w A l.length l ∧ l.length * b ≤ 140737488351232 ∧ ∀ y ∈ l, wf y := by
  obtain ⟨fuel, hf⟩ := hx
  obtain ⟨A', c', l, he, h1, h2, h3, h4, h5⟩ := slice_core ht hc hb h hf (fun n hn => by
    have := List.all_eq_true.1 hsz n (DataW.weights_mem_each hj hd n hn)
    simpa using this)
  simp [Value.cells] at he
  obtain ⟨rfl, rfl, rfl⟩ := he
  exact ⟨l, rfl, h1, h2, h3, h4, h5⟩
end Go.Proofs.YtalndlemejalaaaDoor.Open
