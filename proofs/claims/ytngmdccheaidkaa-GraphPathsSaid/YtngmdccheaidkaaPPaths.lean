/- The statement GraphPaths, of lists and numbers alone. -/
import Derived.Test.YtngmdccheaidkaaPB6
import Derived.Test.YtngmdccheaidkaaPB7
import Derived.Test.YtngmdccheaidkaaF6
namespace Go.Proofs.Ytngmdccheaidkaa.Pr
open Go.RowKit Go.Proofs.YtngmdccheaidkaaW.PrintWords Go.Proofs.YtngmdccheaidkaaW.PrintLast Go.Proofs.YtngmdccheaidkaaW.PrintMore
section
variable {n : Int} {es : List S27} {a b : Int} {p : List Int}
theorem paths_l2 {i : Nat} (hi : i < p.length) (hpl : p.length ≤ 1000) (hnd : p.Nodup) (hnext : Ev (fun k => lambrequinlaw10_GraphPaths.l0 k true n es a b p ((i : Int) + 1)) true) : ∀ m j, i = j + m → Ev (fun k => lambrequinlaw10_GraphPaths.l2 k true n es a b p (i : Int) (j : Int)) true
  | 0, j, e => by
    refine Ev.step (fun k => ?_) hnext
    rw [lambrequinlaw10_GraphPaths.l2, if_neg (by omega), w64 (by omega)]
  | m + 1, j, e => by
    refine Ev.step (fun k => ?_) (paths_l2 hi hpl hnd hnext m (j + 1) (by omega))
    rw [lambrequinlaw10_GraphPaths.l2, if_pos (by omega), if_pos (by omega), if_pos (by omega), if_pos (by omega), if_pos (by omega), rd_get hi, rd_get (l := p) (j := j) (by omega), if_neg, w64 (by omega)]
    · rfl
    · have := List.pairwise_iff_getElem.1 (List.nodup_iff_pairwise_ne.1 hnd) j i (by omega) hi (by omega)
      exact fun e => this e.symm
theorem paths_l1 {i : Nat} (h1 : 1 ≤ i) (hi : i < p.length) (hpl : p.length ≤ 1000) (hel : es.length ≤ 1000) (hed : Ed es (p[i - 1]'(by omega)) p[i]) (hnext : Ev (fun k => lambrequinlaw10_GraphPaths.l2 k true n es a b p (i : Int) 0) true) :
    ∀ m j (c : Bool), es.length = j + m → (c = false → ∃ j' e, j ≤ j' ∧ es[j']? = some e ∧ e.f0 = p[i - 1]'(by omega) ∧ e.f1 = p[i]) → Ev (fun k => lambrequinlaw10_GraphPaths.l1 k true n es a b p (i : Int) c (j : Int)) true
  | 0, j, c, e, hc => by
    have hct : c = true := by
      rcases c with _ | _
      · obtain ⟨j', e', k1, k2, _⟩ := hc rfl
        have := (List.getElem?_eq_some_iff.1 k2).1
        omega
      · rfl
    subst hct
    refine Ev.step (fun k => ?_) hnext
    rw [lambrequinlaw10_GraphPaths.l1, if_neg (by omega), if_pos rfl]
  | m + 1, j, c, e, hc => by
    have hj : j < es.length := by omega
    rcases c with _ | _
    · obtain ⟨j', e', k1, k2, k3, k4⟩ := hc rfl
      have hp1 : rd p ((i : Int) - 1) = p[i - 1]'(by omega) := by rw [show (i : Int) - 1 = ((i - 1 : Nat) : Int) by omega, rd_get]
      by_cases c0 : es[j].f0 = p[i - 1]'(by omega)
      · refine Ev.step (fun k => ?_) (paths_l1 h1 hi hpl hel hed hnext m (j + 1) (es[j].f1 == p[i]) (by omega) (fun hf => ?_))
        · rw [lambrequinlaw10_GraphPaths.l1, if_pos (by omega), if_neg (by simp), if_pos (by omega), w64 (n := (i : Int) - 1) (by omega), if_pos (by omega), if_pos (by omega), rd27_get hj, hp1, if_pos c0, if_pos (by omega), if_pos (by omega), rd_get hi, w64 (by omega)]
          rfl
        · refine ⟨j', e', ?_, k2, k3, k4⟩
          by_cases e2 : j' = j
          · subst e2
            have : es[j'] = e' := (List.getElem?_eq_some_iff.1 k2).2
            rw [this, k4] at hf
            simp at hf
          · omega
      · refine Ev.step (fun k => ?_) (paths_l1 h1 hi hpl hel hed hnext m (j + 1) false (by omega) (fun _ => ⟨j', e', ?_, k2, k3, k4⟩))
        · rw [lambrequinlaw10_GraphPaths.l1, if_pos (by omega), if_neg (by simp), if_pos (by omega), w64 (n := (i : Int) - 1) (by omega), if_pos (by omega), if_pos (by omega), rd27_get hj, hp1, if_neg c0, w64 (by omega)]
          rfl
        · by_cases e2 : j' = j
          · subst e2
            have : es[j'] = e' := (List.getElem?_eq_some_iff.1 k2).2
            rw [this] at c0
            exact absurd k3 c0
          · omega
    · refine Ev.step (fun k => ?_) (paths_l1 h1 hi hpl hel hed hnext m (j + 1) true (by omega) (fun h => by cases h))
      rw [lambrequinlaw10_GraphPaths.l1, if_pos (by omega), if_pos rfl, w64 (by omega)]
      rfl
theorem walk_edge {R : Int → Int → Prop} {a b : Int} {p : List Int} (h : Walk R a p b) : ∀ i (h1 : i + 1 < p.length), R (p[i]'(by omega)) p[i + 1] := by
  induction h with
  | one a => intro i h1; simp at h1
  | @cons a c b p h t ih =>
    intro i h1
    cases i with
    | zero =>
      have hh := t.head
      cases p with
      | nil => simp at hh
      | cons u v =>
        simp only [List.head?_cons, Option.some.injEq] at hh
        subst hh
        exact h
    | succ i => exact ih i (by simpa using h1)
theorem paths_l0 (ok : OkE n es) (hel : es.length ≤ 1000) (a0 : 0 ≤ a) (a1 : a < n) (b0 : 0 ≤ b) (b1 : b < n) (hp : Least (Ed es) a p b) : ∀ m i, 1 ≤ i → p.length = i + m → Ev (fun k => lambrequinlaw10_GraphPaths.l0 k true n es a b p (i : Int)) true
  | 0, i, h1, e => by
    have hn1 := ok.n1
    have hpl := Path_len ok a0 a1 (.inl ⟨⟨_, hp.1.1⟩, hp⟩)
    obtain ⟨r, hr, hrs⟩ := Steps_ok ok a0 a1
    have hfirst : rd p 0 = a := by
      have := hp.1.1.head
      cases p with
      | nil => simp at this
      | cons u v => simp at this; simp [rd, this]
    have hlast : rd p ((p.length : Int) - 1) = b := by
      have := hp.1.1.getLast
      rw [List.getLast?_eq_getElem?] at this
      have h2 := (List.getElem?_eq_some_iff.1 this)
      rw [show (p.length : Int) - 1 = ((p.length - 1 : Nat) : Int) by omega, rd_get (by omega)]
      exact h2.2
    have hstep : rd r b = (p.length : Int) - 1 := by
      rcases hrs.2 b b0 b1 with ⟨q, k1, k2⟩ | ⟨k1, _⟩
      · rw [k2, k1.len hp.1]
      · exact absurd ⟨_, hp.1.1⟩ k1
    refine Ev.step (f := fun k => (lambrequinref10_Steps.f k n es a).bind fun t466 => (if b < (t466.length : Int) then (some (((p.length : Int) - 1) == (rd t466 b))) else (none))) (fun k => ?_) (Ev.bind hr ⟨0, fun k _ => ?_⟩)
    · rw [lambrequinlaw10_GraphPaths.l0, if_neg (by omega), if_pos rfl, if_pos (by omega), hfirst, if_pos rfl, w64 (by omega), if_pos (by omega), if_pos (by omega), hlast, if_pos rfl]
      congr 1
      funext t
      rw [if_pos b0]
    · rw [if_pos (by rw [hrs.1]; omega), hstep]; simp
  | m + 1, i, h1, e => by
    have hn1 := ok.n1
    have hpl := Path_len ok a0 a1 (.inl ⟨⟨_, hp.1.1⟩, hp⟩)
    have hi : i < p.length := by omega
    have ih := paths_l0 ok hel a0 a1 b0 b1 hp m (i + 1) (by omega) (by omega)
    have hed : Ed es (p[i - 1]'(by omega)) p[i] := by
      have := walk_edge hp.1.1 (i - 1) (by omega)
      simpa [show i - 1 + 1 = i by omega] using this
    have h2 := paths_l2 (n := n) (es := es) (a := a) (b := b) hi (by omega) hp.1.nodup ih i 0 (by omega)
    have hl1 := paths_l1 (n := n) (es := es) (a := a) (b := b) h1 hi (by omega) hel hed h2 es.length 0 false (by omega) (fun _ => by
      obtain ⟨j, hj⟩ := List.getElem?_of_mem (show (⟨p[i - 1]'(by omega), p[i]⟩ : S27) ∈ es from hed)
      exact ⟨j, _, Nat.zero_le _, hj, rfl, rfl⟩)
    refine Ev.step (fun k => ?_) hl1
    rw [lambrequinlaw10_GraphPaths.l0, if_pos (by omega)]
    rfl
end
theorem GraphPaths.pure {a0 : Int} {l : List S45} {a2 a3 : Int} (h0 : 0 ≤ a0 ∧ a0 ≤ 255) (hl : ∀ x ∈ l, (0 ≤ x.f0 ∧ x.f0 ≤ 255) ∧ 0 ≤ x.f1 ∧ x.f1 ≤ 255) (hll : l.length < 1000000000000000) (h2 : 0 ≤ a2 ∧ a2 ≤ 255) (h3 : 0 ≤ a3 ∧ a3 ≤ 255) :
    ∃ k, lambrequinlaw10_GraphPaths.f k a0 l a2 a3 = some true := by
  obtain ⟨n, es, he, hn, hel, ok⟩ := ends_ok h0 hl hll
  refine Ev.rounds (g := fun k => lambrequinlaw10_GraphPaths.f k a0 l a2 a3) ?_
  have p0 := Int.tmod_nonneg n h2.1
  have p1 := Int.tmod_lt_of_pos a2 (b := n) (by omega)
  have q0 := Int.tmod_nonneg n h3.1
  have q1 := Int.tmod_lt_of_pos a3 (b := n) (by omega)
  obtain ⟨p, hp, hpp⟩ := Path_ok ok p0 p1 q0 q1
  unfold lambrequinlaw10_GraphPaths.f
  refine Ev.bind shown_ok (Ev.bind he ?_)
  generalize hA : Int.tmod a2 n = A at p0 p1 hp hpp
  generalize hB : Int.tmod a3 n = B at q0 q1 hp hpp
  refine Ev.congr (f := fun k => (graph_Path.f k n es A B).bind fun t457 => ((graph_Reach.f k n es A).bind fun t460 => (if (t460.length : Int) = n then (if 0 ≤ B then (if B < (t460.length : Int) then (lambrequinlaw10_GraphPaths.j0 k true n es A B t457 ((decide ((t457.length : Int) > 0)) != (rdOf false t460 B))) else (none)) else (none)) else (lambrequinlaw10_GraphPaths.j0 k true n es A B t457 true)))) (fun k => ?_) ?_
  · show (if n = 0 then _ else _) = _
    rw [if_neg (by omega), w64 (n := a2) (by omega), w64 (n := a3) (by omega), hA, hB]
  · refine Ev.bind hp (Ev.bind ⟨es.length + 1, fun k hk => Reach_ok ok p0 p1 hk⟩ (Ev.congr (f := fun k => lambrequinlaw10_GraphPaths.j0 k true n es A B p false) (fun k => ?_) ?_))
    · rw [reachP_len, if_pos (by omega), if_pos q0, if_pos (by omega)]
      congr 1
      have hb := rd_reachP (n := n.toNat) (R := Ed es) (a := A) (x := B) q0 (by omega)
      rcases hpp with ⟨k1, k2⟩ | ⟨k1, rfl⟩
      · rw [hb.2 k1]
        have := k2.1.1.pos
        simp; omega
      · have : rdOf false (reachP n.toNat (Ed es) A) B = false := by
          rcases h : rdOf false (reachP n.toNat (Ed es) A) B with _ | _
          · rfl
          · exact absurd (hb.1 h) k1
        rw [this]; rfl
    · rcases hpp with ⟨k1, k2⟩ | ⟨k1, rfl⟩
      · have hpos := k2.1.1.pos
        refine Ev.step (fun k => ?_) (paths_l0 ok (by omega) p0 p1 q0 q1 k2 (p.length - 1) 1 (by omega) (by omega))
        rw [lambrequinlaw10_GraphPaths.j0, if_neg (by simp), if_neg (by omega)]
        rfl
      · refine Ev.step (fun k => ?_) (Ev.now _)
        rw [lambrequinlaw10_GraphPaths.j0, if_neg (by simp), if_pos (by simp)]
end Go.Proofs.Ytngmdccheaidkaa.Pr
