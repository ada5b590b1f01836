/- The statement GraphOrder, of lists and numbers alone. -/
import Derived.Test.YtngmdccheaidkaaPB6
import Derived.Test.YtngmdccheaidkaaF3
namespace Go.Proofs.Ytngmdccheaidkaa.Pr
open Go.RowKit Go.Proofs.YtngmdccheaidkaaW.PrintWords Go.Proofs.YtngmdccheaidkaaW.PrintLast Go.Proofs.YtngmdccheaidkaaW.PrintMore
theorem Ed_same {l m : List S27} (h : ∀ x, x ∈ l ↔ x ∈ m) : Ed l = Ed m := by
  funext x y
  exact propext (h _)
section
variable {n : Int} {es back : List S27} {a2 a3 : Int}
theorem order_l1 (hn : 1 ≤ n) (ok : OkE n es) (okb : OkE n back) (hsame : ∀ x, x ∈ es ↔ x ∈ back) (h2 : 0 ≤ a2 ∧ a2 ≤ 255) (h3 : 0 ≤ a3 ∧ a3 ≤ 255) :
    ∀ m i, (cleanP es).length = i + m → Ev (fun k => lambrequinlaw10_GraphOrder.l1 k a2 a3 true n es back (cleanP es) (cleanP es) (i : Int)) true
  | 0, i, e => by
    have q0 := Int.tmod_nonneg n h2.1
    have q1 := Int.tmod_lt_of_pos a2 (b := n) (by omega)
    have q2 := Int.tmod_nonneg n h3.1
    have q3 := Int.tmod_lt_of_pos a3 (b := n) (by omega)
    obtain ⟨r, done, hr, hps⟩ := Parts_ok ok
    obtain ⟨hl1, hl2⟩ := Parts_len ok hps
    obtain ⟨p, hp, hpp⟩ := Path_ok ok q0 q1 q2 q3
    obtain ⟨p', hp', hpp'⟩ := Path_ok okb q0 q1 q2 q3
    have hrb : graph_Parts.f n back = some r := by
      rw [Parts_is okb, ← Ed_same hsame, ← Parts_is ok]; exact hr
    rw [← Ed_same hsame] at hpp'
    obtain rfl := hpp.one hpp'
    have hpl := Path_len ok q0 q1 hpp
    have hn1 := ok.n1
    refine Ev.step (f := fun k => (graph_Parts.f n es).bind fun t226 => ((graph_Parts.f n back).bind fun t229 => ((lambrequinref10_Lists.f k t226 t229).bind fun t232 => (if t232 = true then ((graph_Path.f k n es (Int.tmod a2 n) (Int.tmod a3 n)).bind fun t233 => ((graph_Path.f k n back (Int.tmod a2 n) (Int.tmod a3 n)).bind fun t236 => ((lambrequinref10_Ints.f k t233 t236).bind fun t239 => (some t239)))) else (some false))))) (fun k => ?_)
      (Ev.bind ⟨0, fun _ _ => hr⟩ (Ev.bind ⟨0, fun _ _ => hrb⟩ (Ev.bind (lists_self hl1 hl2) (Ev.congr (fun k => if_pos rfl) (Ev.bind hp (Ev.bind hp' (Ev.bind (ints_self (by omega)) (Ev.now _))))))))
    rw [lambrequinlaw10_GraphOrder.l1, if_neg (by omega), if_neg (by omega), if_pos rfl, w64 (by omega), w64 (by omega)]
  | m + 1, i, e => by
    have hlen := cleanP_len es
    have hlim := ok.len
    have hi : i < (cleanP es).length := by omega
    refine Ev.step (fun k => ?_) (order_l1 hn ok okb hsame h2 h3 m (i + 1) (by omega))
    rw [lambrequinlaw10_GraphOrder.l1, if_pos (by omega), if_pos (by omega), if_pos (by omega), if_neg (by simp), w64 (n := (i : Int) + 1) (by omega)]
    by_cases c : (i : Int) > 0
    · rw [if_pos c, w64 (by omega), if_pos (by omega), if_pos (by omega), show ((i : Int) - 1) = ((i - 1 : Nat) : Int) by omega, rd27_get hi, rd27_get (i := i - 1) (by omega), if_neg]
      · rfl
      · have := List.pairwise_iff_getElem.1 (cleanP_rising es) (i - 1) i (by omega) hi (by omega)
        unfold ltS at this
        simp only [Bool.and_eq_true, beq_iff_eq]
        omega
    · rw [if_neg c]; rfl
theorem order_l0 (hn : 1 ≤ n) (ok : OkE n es) (hel : es.length ≤ 100) (h2 : 0 ≤ a2 ∧ a2 ≤ 255) (h3 : 0 ≤ a3 ∧ a3 ≤ 255) :
    ∀ m acc, m ≤ es.length → (∀ x ∈ acc, x ∈ es) → (∀ j (hj : j < es.length), m ≤ j → es[j] ∈ acc) → acc.length + 2 * m ≤ 200 → Ev (fun k => lambrequinlaw10_GraphOrder.l0 k a2 a3 true n es acc ((m : Int) - 1)) true
  | 0, acc, hm, ha, hj, hl => by
    have hsame : ∀ x, x ∈ es ↔ x ∈ acc := fun x => ⟨fun h => by
      obtain ⟨j, hj', rfl⟩ := List.getElem_of_mem h
      exact hj j hj' (Nat.zero_le _), ha x⟩
    have okb : OkE n acc := ⟨ok.n0, ok.n1, by omega, fun x hx => ok.mem x (ha x hx)⟩
    have h1 := order_l1 (a2 := a2) (a3 := a3) hn ok okb hsame h2 h3 _ 0 (Nat.zero_add _).symm
    refine Ev.step (f := fun k => lambrequinlaw10_GraphOrder.j1 k a2 a3 true n es acc (cleanP es) (cleanP es) false) (fun k => ?_) (Ev.step (fun k => ?_) h1)
    · rw [lambrequinlaw10_GraphOrder.l0, if_neg (by omega), Clean_ok ok, Clean_ok okb, ← cleanP_same hsame]
      simp
    · rw [lambrequinlaw10_GraphOrder.j1, if_neg (by simp)]; rfl
  | m + 1, acc, hm, ha, hj, hl => by
    have hi : m < es.length := by omega
    refine Ev.step (fun k => ?_) (order_l0 hn ok hel h2 h3 m (acc ++ [es[m], es[m]]) (by omega) (fun x hx => by
      rcases List.mem_append.1 hx with hx | hx
      · exact ha x hx
      · have : x = es[m] := by simpa using hx
        rw [this]; exact List.getElem_mem hi) (fun j hj' hm' => by
      by_cases e : j = m
      · subst e; simp
      · exact List.mem_append_left _ (hj j hj' (by omega))) (by simp only [List.length_append, List.length_cons, List.length_nil]; omega))
    rw [lambrequinlaw10_GraphOrder.l0, show ((m + 1 : Nat) : Int) - 1 = (m : Int) by omega, if_pos (by omega), if_pos (by omega), if_pos (by omega), rd27_get hi]
    simp only [Option.bind_some]
    rw [if_pos (by simp only [List.length_cons, List.length_nil]; omega), w64 (by omega)]
end
theorem GraphOrder.pure {a0 : Int} {l : List S45} {a2 a3 : Int} (h0 : 0 ≤ a0 ∧ a0 ≤ 255) (hl : ∀ x ∈ l, (0 ≤ x.f0 ∧ x.f0 ≤ 255) ∧ 0 ≤ x.f1 ∧ x.f1 ≤ 255) (hll : l.length < 1000000000000000) (h2 : 0 ≤ a2 ∧ a2 ≤ 255) (h3 : 0 ≤ a3 ∧ a3 ≤ 255) :
    ∃ k, lambrequinlaw10_GraphOrder.f k a0 l a2 a3 = some true := by
  obtain ⟨n, es, he, hn, hel, ok⟩ := ends_ok h0 hl hll
  refine Ev.rounds (g := fun k => lambrequinlaw10_GraphOrder.f k a0 l a2 a3) ?_
  unfold lambrequinlaw10_GraphOrder.f
  refine Ev.bind shown_ok (Ev.bind he (Ev.congr (fun k => ?_) (order_l0 (a2 := a2) (a3 := a3) hn.1 ok hel h2 h3 es.length [] (Nat.le_refl _) (by simp) (fun j hj hm => by omega) (by simp only [List.length_nil]; omega))))
  show lambrequinlaw10_GraphOrder.l0 k a2 a3 true n es [] (wrap64 ((es.length : Int) - 1)) = _
  rw [w64 (by omega)]
end Go.Proofs.Ytngmdccheaidkaa.Pr
