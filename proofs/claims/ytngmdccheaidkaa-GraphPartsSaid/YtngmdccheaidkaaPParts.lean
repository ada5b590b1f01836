/- The statement GraphParts, of lists and numbers alone. -/
import Derived.Test.YtngmdccheaidkaaPB6
import Derived.Test.YtngmdccheaidkaaF5
namespace Go.Proofs.Ytngmdccheaidkaa.Pr
open Go.RowKit Go.Proofs.YtngmdccheaidkaaW.PrintWords Go.Proofs.YtngmdccheaidkaaW.PrintLast Go.Proofs.YtngmdccheaidkaaW.PrintMore
section
variable {n : Int} {es : List S27} {out : List (List Int)} {done : List Bool}
/-- In which part a node is. -/
def OfOk (n : Int) (out : List (List Int)) (f : List Int) (Q : Nat → Int → Prop) : Prop := f.length = n.toNat ∧ ∀ (i : Nat) (p : List Int) (x : Int), out[i]? = some p → x ∈ p → Q i x → rd f x = (i : Int)
theorem idx_one (hp : PS n.toNat (Ed es) done out 0) {i j : Nat} {p q : List Int} {x : Int} (h1 : out[i]? = some p) (h2 : out[j]? = some q) (k1 : x ∈ p) (k2 : x ∈ q) : i = j :=
  Nat.le_antisymm (hp.ord j i q p h2 h1 x k2 x k1 (Rt.refl x)) (hp.ord i j p q h1 h2 x k1 x k2 (Rt.refl x))
theorem parts_l3 (ok : OkE n es) (hp : PS n.toNat (Ed es) done out 0) {f : List Int} (hf : OfOk n out f fun _ _ => True) {x : Int} (x0 : 0 ≤ x) (x1 : x < n)
    (hnext : Ev (fun k => lambrequinlaw10_GraphParts.l2 k true n es f n (x + 1)) true) : ∀ m j, n.toNat = j + m → Ev (fun k => lambrequinlaw10_GraphParts.l3 k true n es f n x (reachP n.toNat (Ed es) x) (j : Int)) true
  | 0, j, e => by
    have hn1 := ok.n1
    refine Ev.step (fun k => ?_) hnext
    rw [lambrequinlaw10_GraphParts.l3, if_neg (by omega), w64 (by omega)]
  | m + 1, j, e => by
    have hn1 := ok.n1
    have ih := parts_l3 ok hp hf x0 x1 hnext m (j + 1) (by omega)
    have hat : ∀ z : Int, 0 ≤ z → z < n → ∃ (i : Nat) (p : List Int), out[i]? = some p ∧ z ∈ p ∧ rd f z = (i : Int) := fun z z0 z1 => by
      obtain ⟨p, hpm, hz⟩ := (hp.mem z.toNat (by omega)).1 (hp.none.1 rfl _ (by omega))
      rw [Int.toNat_of_nonneg z0] at hz
      obtain ⟨i, hi⟩ := List.getElem?_of_mem hpm
      exact ⟨i, p, hi, hz, hf.2 i p z hi hz trivial⟩
    obtain ⟨i, p, hi, hx, ex⟩ := hat x x0 x1
    obtain ⟨i', q, hi', hy, ey⟩ := hat (j : Int) (by omega) (by omega)
    have hmut : i = i' ↔ Rt (Ed es) x (j : Int) ∧ Rt (Ed es) (j : Int) x := by
      constructor
      · rintro rfl
        obtain rfl := Option.some.inj (hi.symm.trans hi')
        exact ((hp.part _ (List.mem_of_getElem? hi)).2.2.2 _ hx _ (by omega) (by omega)).1 hy
      · rintro ⟨k1, k2⟩
        exact Nat.le_antisymm (hp.ord i' i q p hi' hi _ hy _ hx k2) (hp.ord i i' p q hi hi' _ hx _ hy k1)
    refine Ev.step (f := fun k => (graph_Reach.f k n es (j : Int)).bind fun t441 => if (t441.length : Int) = n then (if rdOf false (reachP n.toNat (Ed es) x) (j : Int) = true then (if (((rd f x) == (rd f (j : Int))) != (rdOf false t441 x)) = true then (some false) else (if (rd f (j : Int)) > (rd f x) then (some false) else (lambrequinlaw10_GraphParts.l3 k true n es f n x (reachP n.toNat (Ed es) x) ((j : Int) + 1)))) else (if (((rd f x) == (rd f (j : Int))) != false) = true then (some false) else (lambrequinlaw10_GraphParts.l3 k true n es f n x (reachP n.toNat (Ed es) x) ((j : Int) + 1)))) else some false) (fun k => ?_)
      (Ev.bind ⟨es.length + 1, fun k hk => Reach_ok ok (by omega) (by omega) hk⟩ (Ev.congr (fun k => ?_) ih))
    · rw [lambrequinlaw10_GraphParts.l3, if_pos (by omega)]
      congr 1
      funext t
      rw [reachP_len, if_pos (by omega)]
      by_cases c : (t.length : Int) = n
      · rw [if_pos c, if_pos c, if_pos x0, if_pos (by rw [hf.1]; omega), if_pos (by omega), if_pos (by rw [hf.1]; omega), if_pos (by omega), w64 (by omega), if_pos (show x < (t.length : Int) by omega)]
      · rw [if_neg c, if_neg c]
    · rw [reachP_len, if_pos (by omega), ex, ey]
      by_cases c : rdOf false (reachP n.toNat (Ed es) x) (j : Int) = true
      · rw [if_pos c, if_neg, if_neg]
        · rfl
        · have := hp.ord i i' p q hi hi' _ hx _ hy ((rd_reachP (n := n.toNat) (by omega) (by omega)).1 c)
          omega
        · rw [rd_reachP (by omega) (by omega)] at c
          have hb := rd_reachP (n := n.toNat) (R := Ed es) (a := (j : Int)) (x := x) x0 (by omega)
          have h2 : i = i' ↔ rdOf false (reachP n.toNat (Ed es) (j : Int)) x = true := by
            rw [hmut, hb]; exact ⟨fun h => h.2, fun h => ⟨c, h⟩⟩
          by_cases e2 : i = i'
          · rw [h2.1 e2]; simp [e2]
          · have h3 : rdOf false (reachP n.toNat (Ed es) (j : Int)) x = false := by
              rcases h : rdOf false (reachP n.toNat (Ed es) (j : Int)) x with _ | _
              · rfl
              · exact absurd (h2.2 h) e2
            rw [h3]
            simp; omega
      · rw [if_neg c, if_neg]
        · rfl
        · rw [rd_reachP (by omega) (by omega)] at c
          have : ¬ i = i' := fun e2 => c (hmut.1 e2).1
          simp; omega
theorem parts_l2 (ok : OkE n es) (hp : PS n.toNat (Ed es) done out 0) {f : List Int} (hf : OfOk n out f fun _ _ => True) : ∀ m i, n.toNat = i + m → Ev (fun k => lambrequinlaw10_GraphParts.l2 k true n es f n (i : Int)) true
  | 0, i, e => by
    refine Ev.step (fun k => ?_) (Ev.now _)
    rw [lambrequinlaw10_GraphParts.l2, if_neg (by omega), if_pos rfl]
    simp
  | m + 1, i, e => by
    have ih := parts_l2 ok hp hf m (i + 1) (by omega)
    have h3 := parts_l3 ok hp hf (x := (i : Int)) (by omega) (by omega) ih n.toNat 0 (by omega)
    refine Ev.step (f := fun k => (graph_Reach.f k n es (i : Int)).bind fun t => lambrequinlaw10_GraphParts.l3 k true n es f n (i : Int) t 0) (fun k => ?_) (Ev.bind ⟨es.length + 1, fun k hk => Reach_ok ok (by omega) (by omega) hk⟩ h3)
    rw [lambrequinlaw10_GraphParts.l2, if_pos (by omega)]
theorem parts_l1 (ok : OkE n es) (hp : PS n.toNat (Ed es) done out 0) (hol : out.length < 1000000000000) {i : Nat} {p : List Int} (hi : out[i]? = some p)
    (hnext : ∀ f many, OfOk n out f (fun i' _ => i' < i + 1) → many + (((out.drop (i + 1)).map List.length).sum : Int) = n → Ev (fun k => lambrequinlaw10_GraphParts.l0 k true n es out f many ((i : Int) + 1)) true) :
    ∀ m j f (many : Int), p.length = j + m → 0 ≤ many → OfOk n out f (fun i' x => i' < i ∨ i' = i ∧ x ∈ p.take j) → many + (m : Int) + (((out.drop (i + 1)).map List.length).sum : Int) = n →
      Ev (fun k => lambrequinlaw10_GraphParts.l1 k true n es out f many (i : Int) (j : Int)) true
  | 0, j, f, many, e, hm0, hf, hm => by
    have hil := (List.getElem?_eq_some_iff.1 hi).1
    have hr : rd_L1 out (i : Int) = p := by rw [rdL1_get hil]; exact (List.getElem?_eq_some_iff.1 hi).2
    refine Ev.step (fun k => ?_) (hnext f many ⟨hf.1, fun i' q x h1 h2 h3 => hf.2 i' q x h1 h2 ?_⟩ (by omega))
    · rw [lambrequinlaw10_GraphParts.l1, if_pos (by omega), if_pos (by omega), hr, if_neg (by omega), w64 (by omega)]
    · by_cases c : i' < i
      · exact .inl c
      · obtain rfl : i' = i := by omega
        obtain rfl := Option.some.inj (h1.symm.trans hi)
        exact .inr ⟨rfl, by rw [List.take_of_length_le (by omega)]; exact h2⟩
  | m + 1, j, f, many, e, hm0, hf, hm => by
    have hil := (List.getElem?_eq_some_iff.1 hi).1
    have hr : rd_L1 out (i : Int) = p := by rw [rdL1_get hil]; exact (List.getElem?_eq_some_iff.1 hi).2
    have hj : j < p.length := by omega
    have hpart := hp.part p (List.mem_of_getElem? hi)
    have hx := hpart.2.2.1 _ (List.getElem_mem hj)
    have hn1 := ok.n1
    have hfl := hf.1
    have ih := parts_l1 ok hp hol hi hnext m (j + 1) (f.set p[j].toNat (i : Int)) (many + 1) (by omega) (by omega) (by
      refine ⟨by rw [List.length_set]; exact hfl, fun i' q x h1 h2 h3 => ?_⟩
      have hxr := (hp.part q (List.mem_of_getElem? h1)).2.2.1 x h2
      rw [rd_set _ _ _ _ hx.1 (by omega) hxr.1]
      by_cases c : x = p[j]
      · rw [if_pos c]
        rw [idx_one hp h1 hi h2 (by rw [c]; exact List.getElem_mem hj)]
      · rw [if_neg c]
        refine hf.2 i' q x h1 h2 ?_
        rcases h3 with h3 | ⟨h3, h4⟩
        · exact .inl h3
        · refine .inr ⟨h3, ?_⟩
          rw [List.take_succ_eq_append_getElem hj] at h4
          rcases List.mem_append.1 h4 with h4 | h4
          · exact h4
          · rw [List.mem_singleton] at h4; exact absurd h4 c) (by omega)
    have hmn : many ≤ n := by omega
    have hpl : p.length ≤ n.toNat := nodup_len (List.nodup_iff_pairwise_ne.2 (hpart.1.imp (fun h => by omega))) hpart.2.2.1
    refine Ev.step (fun k => ?_) ih
    rw [lambrequinlaw10_GraphParts.l1, if_pos (by omega), if_pos (by omega), hr, if_pos (by omega), if_pos (by omega), rd_get hj, if_neg (by omega), if_neg (by omega), w64 (n := many + 1) (by omega), w64 (n := (j : Int) + 1) (by omega)]
    by_cases c : (j : Int) > 0
    · have hlt := List.pairwise_iff_getElem.1 hpart.1 (j - 1) j (by omega) hj (by omega)
      rw [if_pos c, w64 (by omega), if_pos (by omega), if_pos (by omega), show (j : Int) - 1 = ((j - 1 : Nat) : Int) by omega, rd_get (l := p) (j := j - 1) (by omega), if_neg (by omega), if_pos hx.1, if_pos (by omega)]
      rfl
    · rw [if_neg c, if_pos hx.1, if_pos (by omega)]
      rfl
theorem parts_l0 (ok : OkE n es) (hp : PS n.toNat (Ed es) done out 0) (hol : out.length < 1000000000000) : ∀ m i f (many : Int), out.length = i + m → 0 ≤ many → OfOk n out f (fun i' _ => i' < i) → many + (((out.drop i).map List.length).sum : Int) = n →
    Ev (fun k => lambrequinlaw10_GraphParts.l0 k true n es out f many (i : Int)) true
  | 0, i, f, many, e, hm0, hf, hm => by
    rw [List.drop_of_length_le (by omega)] at hm
    simp at hm
    subst hm
    have h2 := parts_l2 ok hp (f := f) ⟨hf.1, fun i' q x h1 h2 _ => hf.2 i' q x h1 h2 (by have := (List.getElem?_eq_some_iff.1 h1).1; omega)⟩ many.toNat 0 (by omega)
    refine Ev.step (fun k => ?_) h2
    rw [lambrequinlaw10_GraphParts.l0, if_neg (by omega)]
    rfl
  | m + 1, i, f, many, e, hm0, hf, hm => by
    have hi : i < out.length := by omega
    rw [List.drop_eq_getElem_cons hi, List.map_cons, List.sum_cons] at hm
    have h1 := parts_l1 ok hp hol (List.getElem?_eq_getElem hi) (fun f' many' hf' hm' => by
      by_cases c : 0 ≤ many'
      · exact parts_l0 ok hp hol m (i + 1) f' many' (by omega) c hf' hm'
      · exfalso
        have hs := hp.sum
        have : ((out.drop (i + 1)).map List.length).sum ≤ (out.map List.length).sum := by
          conv => rhs; rw [← List.take_append_drop (i + 1) out]
          rw [List.map_append, List.sum_append]; omega
        have := ok.n0
        omega) out[i].length 0 f many (by omega) hm0 ⟨hf.1, fun i' q x h1 h2 h3 => hf.2 i' q x h1 h2 (by
          rcases h3 with h3 | ⟨_, h3⟩
          · exact h3
          · simp at h3)⟩ (by omega)
    refine Ev.step (fun k => ?_) h1
    rw [lambrequinlaw10_GraphParts.l0, if_pos (by omega)]
    rfl
end
theorem GraphParts.pure {a0 : Int} {l : List S45} (h0 : 0 ≤ a0 ∧ a0 ≤ 255) (hl : ∀ x ∈ l, (0 ≤ x.f0 ∧ x.f0 ≤ 255) ∧ 0 ≤ x.f1 ∧ x.f1 ≤ 255) (hll : l.length < 1000000000000000) : ∃ k, lambrequinlaw10_GraphParts.f k a0 l = some true := by
  obtain ⟨n, es, he, hn, hel, ok⟩ := ends_ok h0 hl hll
  refine Ev.rounds (g := fun k => lambrequinlaw10_GraphParts.f k a0 l) ?_
  obtain ⟨r, done, hr, hps⟩ := Parts_ok ok
  have hs := hps.sum
  have hl0 := parts_l0 ok hps (Parts_len ok hps).1 r.length 0 (List.replicate n.toNat 0) 0 (by omega) (by omega) ⟨by simp, fun i' q x _ _ h => by omega⟩ (by rw [List.drop_zero]; omega)
  unfold lambrequinlaw10_GraphParts.f
  refine Ev.bind shown_ok (Ev.bind he (Ev.bind ⟨0, fun k _ => hr⟩ (Ev.congr (fun k => ?_) hl0)))
  show (if 0 ≤ n then (if n.toNat ≤ 35184372088832 then _ else none) else none) = _
  rw [if_pos (by omega), if_pos (by omega)]
  rfl
end Go.Proofs.Ytngmdccheaidkaa.Pr
