/- The statement GraphThrough, of lists and numbers alone. -/
import Derived.Test.YtngmdccheaidkaaPB6
import Derived.Test.YtngmdccheaidkaaF8
namespace Go.Proofs.Ytngmdccheaidkaa.Pr
open Go.RowKit Go.Proofs.YtngmdccheaidkaaW.PrintWords Go.Proofs.YtngmdccheaidkaaW.PrintLast Go.Proofs.YtngmdccheaidkaaW.PrintMore
section
variable {n : Int} {es : List S27} {a b : Int}
theorem through_l1 (ok : OkE n es) (a0 : 0 ≤ a) (a1 : a < n) (b0 : 0 ≤ b) (b1 : b < n) {p : List Int} (hp : Least (Ed es) a p b) : ∀ m i, p.length = i + m → Ev (fun k => lambrequinlaw10_GraphThrough.l1 k true n es a b p (i : Int)) true
  | 0, i, e => Ev.step (fun k => by rw [lambrequinlaw10_GraphThrough.l1, if_neg (by omega)]) (Ev.now _)
  | m + 1, i, e => by
    have hn0 := ok.n0
    have hn1 := ok.n1
    have hpl := Path_len ok a0 a1 (.inl ⟨⟨_, hp.1.1⟩, hp⟩)
    have hi : i < p.length := by omega
    have ih := through_l1 ok a0 a1 b0 b1 hp m (i + 1) (by omega)
    have hin := hp.1.1.all (P := fun z => 0 ≤ z ∧ z < n) (fun u v huv => (ok.edge huv).2.2) ⟨a0, a1⟩ _ (List.getElem_mem hi)
    have hcut : p = p.take i ++ p[i] :: p.drop (i + 1) := by rw [← List.drop_eq_getElem_cons hi, List.take_append_drop]
    have hpc := hp
    rw [hcut] at hpc
    have hahead := hpc.ahead
    have hback := (Short.cut hpc.1).2
    rw [← List.take_succ_eq_append_getElem hi] at hahead
    obtain ⟨q1, h1, k1⟩ := Path_ok ok a0 a1 hin.1 hin.2
    obtain ⟨q2, h2, k2⟩ := Path_ok ok hin.1 hin.2 b0 b1
    obtain rfl : q1 = p.take (i + 1) := k1.one (.inl ⟨⟨_, hahead.1.1⟩, hahead⟩)
    have hq2 : q2.length + i = p.length := by
      rcases k2 with ⟨_, k2⟩ | ⟨k2, _⟩
      · have := k2.1.len hback
        simp only [List.length_cons, List.length_drop] at this
        omega
      · exact absurd ⟨_, hback.1⟩ k2
    refine Ev.step (f := fun k => lambrequinlaw10_GraphThrough.j3 k true n es a b p (i : Int) false) (fun k => ?_) (Ev.step
      (f := fun k => (graph_Path.f k n es a p[i]).bind fun t535 => ((lambrequinref10_Ints.f k t535 (p.take (i + 1))).bind fun t542 => (if t542 = true then ((graph_Path.f k n es p[i] b).bind fun t544 => (if (t544.length : Int) = ((p.length : Int) - (i : Int)) then (lambrequinlaw10_GraphThrough.l1 k true n es a b p ((i : Int) + 1)) else (some false))) else (some false)))) (fun k => ?_)
      (Ev.bind h1 (Ev.bind (ints_self (by rw [List.length_take]; omega)) (Ev.congr (f := fun k => (graph_Path.f k n es p[i] b).bind fun t544 => (if (t544.length : Int) = ((p.length : Int) - (i : Int)) then (lambrequinlaw10_GraphThrough.l1 k true n es a b p ((i : Int) + 1)) else (some false))) (fun k => if_pos rfl) (Ev.bind h2 (Ev.congr (fun k => if_pos (by omega)) ih))))))
    · rw [lambrequinlaw10_GraphThrough.l1, if_pos (by omega), if_pos (by omega), rd_get hi, if_neg (by omega), decide_eq_false (by omega)]
    · rw [lambrequinlaw10_GraphThrough.j3, if_neg (by simp), if_pos (by omega), if_pos (by omega), rd_get hi, w64 (n := (i : Int) + 1) (by omega), w64 (by omega), show ((i : Int) + 1).toNat = i + 1 by omega]
      simp only [show (0 : Int) ≤ (i : Int) + 1 by omega, show (i : Int) + 1 ≤ (p.length : Int) by omega, if_true]
theorem through_l0 (ok : OkE n es) (a0 : 0 ≤ a) (a1 : a < n) (b0 : 0 ≤ b) (b1 : b < n) : ∀ m i, n.toNat = i + m → Ev (fun k => lambrequinlaw10_GraphThrough.l0 k true n es a b (reachP n.toNat (Ed es) a) (reachP n.toNat (Ed es) b) (i : Int)) true
  | 0, i, e => by
    obtain ⟨p, hp, hpp⟩ := Path_ok ok a0 a1 b0 b1
    have h1 : Ev (fun k => lambrequinlaw10_GraphThrough.l1 k true n es a b p 0) true := by
      rcases hpp with ⟨_, hpp⟩ | ⟨_, rfl⟩
      · exact through_l1 ok a0 a1 b0 b1 hpp p.length 0 (by omega)
      · exact Ev.step (fun k => by rw [lambrequinlaw10_GraphThrough.l1, if_neg (by simp)]) (Ev.now _)
    refine Ev.step (f := fun k => (graph_Path.f k n es a b).bind fun t529 => (lambrequinlaw10_GraphThrough.l1 k true n es a b t529 0)) (fun k => ?_) (Ev.bind hp h1)
    rw [lambrequinlaw10_GraphThrough.l0, if_neg (by omega)]
  | m + 1, i, e => by
    have hn1 := ok.n1
    refine Ev.step (fun k => ?_) (through_l0 ok a0 a1 b0 b1 m (i + 1) (by omega))
    rw [lambrequinlaw10_GraphThrough.l0, if_pos (by omega), if_pos b0, reachP_len, if_pos (by omega), w64 (by omega)]
    by_cases c : rdOf false (reachP n.toNat (Ed es) a) b = true
    · rw [if_pos c, if_pos (by omega), reachP_len, if_pos (by omega)]
      by_cases c2 : rdOf false (reachP n.toNat (Ed es) b) (i : Int) = true
      · rw [if_pos c2, if_pos (by omega), if_pos]
        · rfl
        · rw [rd_reachP (by omega) (by omega)] at c c2 ⊢
          exact c.trans c2
      · rw [if_neg c2]; rfl
    · rw [if_neg c]; rfl
end
theorem GraphThrough.pure {a0 : Int} {l : List S45} {a2 a3 : Int} (h0 : 0 ≤ a0 ∧ a0 ≤ 255) (hl : ∀ x ∈ l, (0 ≤ x.f0 ∧ x.f0 ≤ 255) ∧ 0 ≤ x.f1 ∧ x.f1 ≤ 255) (hll : l.length < 1000000000000000) (h2 : 0 ≤ a2 ∧ a2 ≤ 255) (h3 : 0 ≤ a3 ∧ a3 ≤ 255) :
    ∃ k, lambrequinlaw10_GraphThrough.f k a0 l a2 a3 = some true := by
  obtain ⟨n, es, he, hn, hel, ok⟩ := ends_ok h0 hl hll
  refine Ev.rounds (g := fun k => lambrequinlaw10_GraphThrough.f k a0 l a2 a3) ?_
  have p0 := Int.tmod_nonneg n h2.1
  have p1 := Int.tmod_lt_of_pos a2 (b := n) (by omega)
  have q0 := Int.tmod_nonneg n h3.1
  have q1 := Int.tmod_lt_of_pos a3 (b := n) (by omega)
  have hl0 := through_l0 ok p0 p1 q0 q1 n.toNat 0 (by omega)
  unfold lambrequinlaw10_GraphThrough.f
  refine Ev.bind shown_ok (Ev.bind he ?_)
  refine Ev.congr (f := fun k => (graph_Reach.f k n es (Int.tmod a2 n)).bind fun t520 => ((graph_Reach.f k n es (Int.tmod a3 n)).bind fun t523 => (if (t520.length : Int) = n then (lambrequinlaw10_GraphThrough.j0 k true n es (Int.tmod a2 n) (Int.tmod a3 n) t520 t523 ((t523.length : Int) != n)) else (lambrequinlaw10_GraphThrough.j0 k true n es (Int.tmod a2 n) (Int.tmod a3 n) t520 t523 true)))) (fun k => ?_) ?_
  · show (if n = 0 then _ else _) = _
    rw [if_neg (by omega), w64 (n := a2) (by omega), w64 (n := a3) (by omega)]
  · refine Ev.bind ⟨es.length + 1, fun k hk => Reach_ok ok p0 p1 hk⟩ (Ev.bind ⟨es.length + 1, fun k hk => Reach_ok ok q0 q1 hk⟩ (Ev.congr (f := fun k => lambrequinlaw10_GraphThrough.j0 k true n es (Int.tmod a2 n) (Int.tmod a3 n) (reachP n.toNat (Ed es) (Int.tmod a2 n)) (reachP n.toNat (Ed es) (Int.tmod a3 n)) false) (fun k => ?_) (Ev.step (fun k => ?_) hl0)))
    · rw [reachP_len, reachP_len, if_pos (by omega)]
      congr 1
      simp; omega
    · rw [lambrequinlaw10_GraphThrough.j0, if_neg (by simp)]; rfl
end Go.Proofs.Ytngmdccheaidkaa.Pr
