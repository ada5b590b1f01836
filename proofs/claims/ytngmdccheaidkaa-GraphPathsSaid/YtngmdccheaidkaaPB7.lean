/- Plain laws: the document's steps. -/
import Derived.Test.YtngmdccheaidkaaPB2
import Derived.Test.YtngmdccheaidkaaPB4
import Derived.Test.YtngmdccheaidkaaF26
namespace Go.Proofs.Ytngmdccheaidkaa.Pr
open Go.RowKit Go.Proofs.YtngmdccheaidkaaW.PrintWords Go.Proofs.YtngmdccheaidkaaW.PrintLast Go.Proofs.YtngmdccheaidkaaW.PrintMore
section
variable {n : Int} {l : List S27} {a : Int}
/-- Ahead of level d. -/
def DI (n : Int) (l : List S27) (a : Int) (d : Nat) (f : List Int) : Prop := f.length = n.toNat ∧ ∀ x, 0 ≤ x → x < n →
  (∃ p, Short (Ed l) a p x ∧ p.length ≤ d + 1 ∧ rd f x = (p.length : Int) - 1) ∨ ((∀ q, Walk (Ed l) a q x → d + 1 < q.length) ∧ rd f x = -1)
/-- Within level d, ahead of edge j. -/
def DL (n : Int) (l : List S27) (a : Int) (d j : Nat) (f : List Int) : Prop := f.length = n.toNat ∧ ∀ x, 0 ≤ x → x < n →
  (∃ p, Short (Ed l) a p x ∧ p.length ≤ d + 1 ∧ rd f x = (p.length : Int) - 1) ∨ (∃ p, Short (Ed l) a p x ∧ p.length = d + 2 ∧ rd f x = (d : Int) + 1) ∨
    ((∀ q, Walk (Ed l) a q x → d + 1 < q.length) ∧ rd f x = -1 ∧ ∀ (i : Nat) (e : S27), i < j → l[i]? = some e → e.f1 = x → ∀ p, Short (Ed l) a p e.f0 → p.length ≠ d + 1)
theorem DL.start {d f} (h : DI n l a d f) : DL n l a d 0 f := ⟨h.1, fun x h0 h1 => by
  rcases h.2 x h0 h1 with k | ⟨k, k2⟩
  · exact .inl k
  · exact .inr (.inr ⟨k, k2, fun i e hi => by omega⟩)⟩
theorem DL.stop {d f} (h : DL n l a d l.length f) : DI n l a (d + 1) f := ⟨h.1, fun x h0 h1 => by
  rcases h.2 x h0 h1 with ⟨p, k1, k2, k3⟩ | ⟨p, k1, k2, k3⟩ | ⟨k1, k2, k3⟩
  · exact .inl ⟨p, k1, by omega, k3⟩
  · exact .inl ⟨p, k1, by omega, by omega⟩
  · refine .inr ⟨fun q hq => ?_, k2⟩
    have hl := k1 q hq
    rcases hq.last with ⟨rfl, rfl⟩ | ⟨q', u, rfl, hw, hu⟩
    · simp only [List.length_cons, List.length_nil] at hl; omega
    · simp only [List.length_append, List.length_cons, List.length_nil] at hl ⊢
      by_cases c : q'.length = d + 1
      · exfalso
        obtain ⟨i, hi⟩ := List.getElem?_of_mem (show (⟨u, x⟩ : S27) ∈ l from hu)
        refine k3 i _ (List.getElem?_eq_some_iff.1 hi).1 hi rfl q' ⟨hw, fun r hr => ?_⟩ c
        have := k1 _ (hr.snoc hu)
        simp only [List.length_append, List.length_cons, List.length_nil] at this
        omega
      · omega⟩
theorem DL.node {d j f} (h : DL n l a d j f) {x : Int} (h0 : 0 ≤ x) (h1 : x < n) : (rd f x = (d : Int) ↔ ∃ p, Short (Ed l) a p x ∧ p.length = d + 1) ∧ (rd f x < 0 → rd f x = -1) := by
  rcases h.2 x h0 h1 with ⟨p, k1, k2, k3⟩ | ⟨p, k1, k2, k3⟩ | ⟨k1, k2, k3⟩
  · have := k1.1.pos
    refine ⟨⟨fun e => ⟨p, k1, by omega⟩, fun ⟨q, hq, e⟩ => by have := k1.len hq; omega⟩, fun _ => by omega⟩
  · refine ⟨⟨fun e => by omega, fun ⟨q, hq, e⟩ => by have := k1.len hq; omega⟩, fun _ => by omega⟩
  · refine ⟨⟨fun e => by omega, fun ⟨q, hq, e⟩ => by have := k1 q hq.1; omega⟩, fun _ => k2⟩
theorem DL.keep {d j f} (h : DL n l a d j f) {e : S27} (he : l[j]? = some e) (hno : (∃ p, Short (Ed l) a p e.f0 ∧ p.length = d + 1) → ¬ rd f e.f1 < 0) : DL n l a d (j + 1) f := ⟨h.1, fun x h0 h1 => by
  rcases h.2 x h0 h1 with k | k | ⟨k1, k2, k3⟩
  · exact .inl k
  · exact .inr (.inl k)
  · refine .inr (.inr ⟨k1, k2, fun i e' hi he' hx p hp hl => ?_⟩)
    by_cases c : i = j
    · subst c
      obtain rfl := Option.some.inj (he.symm.trans he')
      exact hno ⟨p, hp, hl⟩ (by rw [hx, k2]; decide)
    · exact k3 i e' (by omega) he' hx p hp hl⟩
theorem DL.put {d j f} (h : DL n l a d j f) {e : S27} (he : l[j]? = some e) (hv : 0 ≤ e.f1 ∧ e.f1 < n) (hu : ∃ p, Short (Ed l) a p e.f0 ∧ p.length = d + 1) (hneg : rd f e.f1 < 0) : DL n l a d (j + 1) (f.set e.f1.toNat ((d : Int) + 1)) := by
  obtain ⟨p, hp, hpl⟩ := hu
  have hlen := h.1
  have hed : Ed l e.f0 e.f1 := List.mem_of_getElem? he
  refine ⟨by rw [List.length_set]; exact hlen, fun x h0 h1 => ?_⟩
  rw [rd_set _ _ _ _ hv.1 (by omega) h0]
  by_cases c : x = e.f1
  · rw [if_pos c]
    subst c
    have hw := hp.1.snoc hed
    have hlong : ∀ q, Walk (Ed l) a q e.f1 → d + 1 < q.length := by
      rcases h.2 _ h0 h1 with ⟨q, k1, k2, k3⟩ | ⟨q, k1, k2, k3⟩ | ⟨k1, _⟩
      · have := k1.1.pos; omega
      · omega
      · exact k1
    exact .inr (.inl ⟨p ++ [e.f1], ⟨hw, fun q hq => by have := hlong q hq; simp only [List.length_append, List.length_cons, List.length_nil]; omega⟩, by simp only [List.length_append, List.length_cons, List.length_nil]; omega, rfl⟩)
  · rw [if_neg c]
    rcases h.2 x h0 h1 with k | k | ⟨k1, k2, k3⟩
    · exact .inl k
    · exact .inr (.inl k)
    · refine .inr (.inr ⟨k1, k2, fun i e' hi he' hx q hq hl => ?_⟩)
      by_cases c2 : i = j
      · subst c2
        obtain rfl := Option.some.inj (he.symm.trans he')
        exact c hx.symm
      · exact k3 i e' (by omega) he' hx q hq hl
/-- How far each node is. -/
def IsSteps (n : Int) (R : Int → Int → Prop) (a : Int) (r : List Int) : Prop := r.length = n.toNat ∧ ∀ x, 0 ≤ x → x < n → (∃ p, Short R a p x ∧ rd r x = (p.length : Int) - 1) ∨ (¬ Rt R a x ∧ rd r x = -1)
theorem steps_l2 (ok : OkE n l) {d : Nat} (hd : d < n.toNat) {r : List Int} (hnext : ∀ f, DI n l a (d + 1) f → Ev (fun k => lambrequinref10_Steps.l1 k n l f ((d : Int) + 1)) r ∨ ∃ r, IsSteps n (Ed l) a r ∧ Ev (fun k => lambrequinref10_Steps.l1 k n l f ((d : Int) + 1)) r) :
    ∀ m j f, l.length = j + m → DL n l a d j f → ∃ f', DI n l a (d + 1) f' ∧ ∀ r, Ev (fun k => lambrequinref10_Steps.l1 k n l f' ((d : Int) + 1)) r → Ev (fun k => lambrequinref10_Steps.l2 k n l f (d : Int) (j : Int)) r
  | 0, j, f, e, h => by
    have hn1 := ok.n1
    obtain rfl : j = l.length := by omega
    refine ⟨f, h.stop, fun r hr => Ev.step (fun k => ?_) hr⟩
    rw [lambrequinref10_Steps.l2, if_neg (by omega), w64 (by omega)]
  | m + 1, j, f, e, h => by
    have hn1 := ok.n1
    have hlim := ok.len
    have hj : j < l.length := by omega
    have hm := ok.mem _ (List.getElem_mem hj)
    have hget := List.getElem?_eq_getElem hj
    have hlen := h.1
    have hu := (h.node hm.1 hm.2.1).1
    by_cases c : rd f l[j].f0 = (d : Int)
    · by_cases c2 : rd f l[j].f1 < 0
      · obtain ⟨f', h1, h2⟩ := steps_l2 ok hd hnext m (j + 1) _ (by omega) (h.put hget hm.2.2 (hu.1 c) c2)
        refine ⟨f', h1, fun r hr => Ev.step (fun k => ?_) (h2 r hr)⟩
        rw [lambrequinref10_Steps.l2, if_pos (by omega), if_pos (by omega), rd27_get hj, if_pos hm.1, if_pos (by omega), if_pos c, if_pos hm.2.2.1, if_pos (by omega), if_pos c2, w64 (n := (d : Int) + 1) (by omega), w64 (by omega)]
        rfl
      · obtain ⟨f', h1, h2⟩ := steps_l2 ok hd hnext m (j + 1) f (by omega) (h.keep hget (fun _ => c2))
        refine ⟨f', h1, fun r hr => Ev.step (fun k => ?_) (h2 r hr)⟩
        rw [lambrequinref10_Steps.l2, if_pos (by omega), if_pos (by omega), rd27_get hj, if_pos hm.1, if_pos (by omega), if_pos c, if_pos hm.2.2.1, if_pos (by omega), if_neg c2, w64 (by omega)]
        rfl
    · obtain ⟨f', h1, h2⟩ := steps_l2 ok hd hnext m (j + 1) f (by omega) (h.keep hget (fun q => absurd (hu.2 q) c))
      refine ⟨f', h1, fun r hr => Ev.step (fun k => ?_) (h2 r hr)⟩
      rw [lambrequinref10_Steps.l2, if_pos (by omega), if_pos (by omega), rd27_get hj, if_pos hm.1, if_pos (by omega), if_neg c, w64 (by omega)]
      rfl
theorem DI.done (ok : OkE n l) (a0 : 0 ≤ a) (a1 : a < n) {f} (h : DI n l a n.toNat f) : IsSteps n (Ed l) a f := ⟨h.1, fun x h0 h1 => by
  rcases h.2 x h0 h1 with ⟨p, k1, _, k3⟩ | ⟨k1, k2⟩
  · exact .inl ⟨p, k1, k3⟩
  · refine .inr ⟨fun hr => ?_, k2⟩
    obtain ⟨p, hp⟩ := Short.some hr
    have hl := nodup_len (n := n.toNat) hp.nodup (hp.1.all (P := fun z => 0 ≤ z ∧ z < (n.toNat : Int)) (fun u v huv => by have := ok.edge huv; omega) ⟨a0, by omega⟩)
    have := k1 p hp.1
    omega⟩
theorem steps_l1 (ok : OkE n l) (a0 : 0 ≤ a) (a1 : a < n) : ∀ m d f, n.toNat = d + m → DI n l a d f → ∃ r, Ev (fun k => lambrequinref10_Steps.l1 k n l f (d : Int)) r ∧ IsSteps n (Ed l) a r
  | 0, d, f, e, h => by
    obtain rfl : d = n.toNat := by omega
    refine ⟨f, Ev.step (fun k => ?_) (Ev.now _), h.done ok a0 a1⟩
    rw [lambrequinref10_Steps.l1, if_neg (by omega)]
  | m + 1, d, f, e, h => by
    obtain ⟨f', h1, h2⟩ := steps_l2 ok (d := d) (r := []) (by omega) (fun f hf => .inr (by
      obtain ⟨r, k1, k2⟩ := steps_l1 ok a0 a1 m (d + 1) f (by omega) hf
      exact ⟨r, k2, k1⟩)) l.length 0 f (by omega) (DL.start h)
    obtain ⟨r, k1, k2⟩ := steps_l1 ok a0 a1 m (d + 1) f' (by omega) h1
    refine ⟨r, Ev.step (fun k => ?_) (h2 r k1), k2⟩
    rw [lambrequinref10_Steps.l1, if_pos (by omega)]
    rfl
theorem DI.start (a0 : 0 ≤ a) (a1 : a < n) : DI n l a 0 ((List.replicate n.toNat (-1)).set a.toNat 0) := by
  refine ⟨by simp, fun x h0 h1 => ?_⟩
  rw [rd_set _ _ _ _ a0 (by simp; omega) h0]
  by_cases c : x = a
  · subst c
    rw [if_pos rfl]
    exact .inl ⟨[x], ⟨.one x, fun q hq => hq.pos⟩, by simp, by simp⟩
  · rw [if_neg c]
    refine .inr ⟨fun q hq => ?_, ?_⟩
    · cases hq with
      | one => exact absurd rfl c
      | cons _ t => have := t.pos; simp only [List.length_cons]; omega
    · unfold rd
      rw [List.getD_eq_getElem?_getD, List.getElem?_replicate, if_pos (by omega)]; rfl
theorem steps_l0 {r : List Int} {x2 : Int} (hn : n ≤ 1000) (h : Ev (fun k => lambrequinref10_Steps.j1 k n l x2 (List.replicate n.toNat (-1)) (decide (x2 < 0 ∨ n ≤ x2))) r) : ∀ m i, n.toNat = i + m → (n < 0 → m = 0) → Ev (fun k => lambrequinref10_Steps.l0 k n l x2 (List.replicate i (-1)) (i : Int)) r
  | 0, i, e, _ => by
    obtain rfl : i = n.toNat := by omega
    refine Ev.step (fun k => ?_) h
    rw [lambrequinref10_Steps.l0, if_neg (by omega)]
    by_cases c : x2 < 0
    · rw [if_pos c, decide_eq_true (.inl c)]
    · rw [if_neg c]
      congr 1
      simp [c]
  | m + 1, i, e, hm => by
    refine Ev.step (fun k => ?_) (steps_l0 hn h m (i + 1) (by omega) (by omega))
    rw [lambrequinref10_Steps.l0, if_pos (by omega), if_pos (by simp; omega), w64 (by omega), List.replicate_succ']
    rfl
theorem Steps_ok (ok : OkE n l) (a0 : 0 ≤ a) (a1 : a < n) : ∃ r, Ev (fun k => lambrequinref10_Steps.f k n l a) r ∧ IsSteps n (Ed l) a r := by
  obtain ⟨r, h1, h2⟩ := steps_l1 ok a0 a1 n.toNat 0 _ (by omega) (DI.start a0 a1)
  refine ⟨r, ?_, h2⟩
  refine steps_l0 (x2 := a) (l := l) ok.n1 (Ev.step (fun k => ?_) h1) n.toNat 0 (by omega) (by omega)
  rw [lambrequinref10_Steps.j1, decide_eq_false (by omega), if_neg (by simp), if_pos a0, if_pos (by simp; omega)]
  rfl
theorem Steps_out (hn : n ≤ 1000) (h : a < 0 ∨ n ≤ a) : Ev (fun k => lambrequinref10_Steps.f k n l a) (List.replicate n.toNat (-1)) := by
  refine steps_l0 (x2 := a) (l := l) hn (Ev.step (fun k => ?_) (Ev.now _)) n.toNat 0 (by omega) (by omega)
  rw [lambrequinref10_Steps.j1, decide_eq_true h, if_pos rfl]
end
end Go.Proofs.Ytngmdccheaidkaa.Pr
