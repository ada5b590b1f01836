/- Texts of the seat, without what this claim does not use. -/
import Derived.Test.YtngmdccheaidkaaTW
import Derived.Deep.Slices
import Derived.SizedLaws
import Derived.OpenShut
/- What came in, read as lists and numbers: a reading for each kind of data, put together out of readings of its parts. -/
namespace Go.Proofs.Ytngmdccheaidkaa.Pr
open Go.RowKit Go.Proofs.YtngmdccheaidkaaW.PrintWords Go.Proofs.YtngmdccheaidkaaW.PrintLast Go.Proofs.YtngmdccheaidkaaW.PrintMore
open Go.Deep

/-- What a type's cells say: of whatever reads at type t as a datum of fair weight there is a value of kind d, that fits. -/
def Opens {α : Type} {H : Type} (enc : TypeId × Value → H) (P : Program) (w : World) (base : Nat) (spare : Nat → Bool) (held : Bool) (t : TypeId) (d : Kd α) (Fit : α → Prop) : Prop :=
  ∀ (fuel : Nat) (cs : List Value) (x : DataW H × List MemPlace), DataW.trod enc P w base spare held fuel t cs = some x → (∀ n ∈ x.1.weights P t, n ≤ reachBytes) → ∃ v, d.K w v cs ∧ Fit v

section
variable {H : Type} {enc : TypeId × Value → H} {P : Program} {w : World} {base : Nat} {spare : Nat → Bool} {held : Bool} {t : TypeId}
theorem choose_list {α : Type} {p : Nat → α → Prop} : ∀ {n : Nat}, (∀ i, i < n → ∃ x, p i x) → ∃ xs : List α, xs.length = n ∧ ∀ i x, xs[i]? = some x → p i x
  | 0, _ => ⟨[], rfl, fun i x h => by simp at h⟩
  | n + 1, h => by
    obtain ⟨xs, hl, hx⟩ := choose_list (n := n) (fun i hi => h i (by omega))
    obtain ⟨y, hy⟩ := h n (by omega)
    refine ⟨xs ++ [y], by simp [hl], fun i x hi => ?_⟩
    rcases Nat.lt_or_ge i xs.length with c | c
    · rw [List.getElem?_append_left c] at hi; exact hx i x hi
    · rw [List.getElem?_append_right c] at hi
      have : i - xs.length = 0 := by
        have := (List.getElem?_eq_some_iff.1 hi).1
        simp at this; omega
      rw [this] at hi
      simp only [List.getElem?_cons_zero, Option.some.injEq] at hi
      subst hi
      rw [show i = n by omega]; exact hy
theorem weightsAll_mem {e : TypeId} : ∀ {l : List (DataW H)} {i : Nat} {y : DataW H}, l[i]? = some y → ∀ n ∈ y.weights P e, n ∈ DataW.weightsAll P e l
  | [], i, y, h, _, _ => by simp at h
  | z :: l, 0, y, h, n, hn => by
    simp only [List.getElem?_cons_zero, Option.some.injEq] at h
    subst h
    exact List.mem_append_left _ hn
  | z :: l, i + 1, y, h, n, hn => by
    simp only [List.getElem?_cons_succ] at h
    exact List.mem_append_right _ (weightsAll_mem h n hn)
theorem opens_slice {α : Type} {d : Kd α} {Fit : α → Prop} {e : Nat} (ht : P.underlying t = some (.slice e)) (hc : P.cellsOf e = d.sz) (hd : Opens enc P w base spare held e d Fit) :
    Opens enc P w base spare held t (Kd.slice e d) (fun xs => xs.length * P.bytesOf e ≤ 140737488351232 ∧ ∀ x ∈ xs, Fit x) := by
  intro fuel cs x h hw
  rcases open_slice ht h with ⟨rfl, rfl⟩ | ⟨a, len, cap, m, n, D, Pl, rfl, hb, hl, hm, hmm, rfl, hx⟩
  · exact ⟨[], ⟨none, 0, rfl, Nat.le_refl _, Kd.C_nil d w⟩, by simp, by simp⟩
  · have hlm : len ≤ m := by rw [hmm]; split <;> omega
    have key : ∀ i, i < len → ∃ v : α, (∃ c, c.length = d.sz ∧ d.K w v c ∧ ∀ j u, c[j]? = some u → w.cell? (a.add (i * d.sz + j)) = some u) ∧ Fit v := by
      intro i hi
      obtain ⟨cs', h1, h2⟩ := hx i (by omega)
      obtain ⟨_, hlen, hcell⟩ := World.cells?_some h1
      obtain ⟨v, hv, hf⟩ := hd _ _ _ h2 (fun n hn => hw n (by
        simp only [DataW.weights, ht]
        refine List.mem_cons_of_mem _ (List.mem_append_left _ ?_)
        exact weightsAll_mem (i := i) (by simp [hi]) n hn))
      refine ⟨v, ⟨cs', by rw [hlen, hc], hv, fun j u hu => ?_⟩, hf⟩
      have hj : j < P.cellsOf e := by
        have := (List.getElem?_eq_some_iff.1 hu).1
        omega
      have := hcell j hj
      rw [Deep.add_add, hc] at this
      rw [this]; exact hu
    obtain ⟨xs, hxl, hxs⟩ := choose_list key
    subst hxl
    refine ⟨xs, ⟨some a, cap, rfl, hl, rfl, by unfold maxLen at hm; omega, fun _ => ⟨a, rfl, fun j p hj => (hxs j p hj).1⟩⟩, ?_, ?_⟩
    · have := hw _ (by simp only [DataW.weights, ht]; exact List.mem_cons_self)
      simp only [List.length_map, List.length_range] at this
      exact Nat.le_trans (Nat.mul_le_mul_right _ (by omega)) this
    · intro y hy
      obtain ⟨i, hi⟩ := List.getElem?_of_mem hy
      exact (hxs i y hi).2
/-- The fields of a struct, in line, from some cell on. -/
inductive Fields (P : Program) (enc : TypeId × Value → H) (w : World) (base : Nat) (spare : Nat → Bool) (held : Bool) : Nat → List Field → {α : Type} → Kd α → (α → Prop) → Prop
  | last {α : Type} {o : Nat} {f : Field} {d : Kd α} {Fit : α → Prop} (ho : f.offset = o) (hs : P.cellsOf f.type = d.sz) (h : Opens enc P w base spare held f.type d Fit) : Fields P enc w base spare held o [f] d Fit
  | cons {α β : Type} {o : Nat} {f : Field} {fs : List Field} {d : Kd α} {d' : Kd β} {Fit : α → Prop} {Fit' : β → Prop} (ho : f.offset = o) (hs : P.cellsOf f.type = d.sz) (h : Opens enc P w base spare held f.type d Fit)
      (hr : Fields P enc w base spare held (o + d.sz) fs d' Fit') : Fields P enc w base spare held o (f :: fs) (Kd.pair d d') (fun x => Fit x.1 ∧ Fit' x.2)
end
end Go.Proofs.Ytngmdccheaidkaa.Pr
