/- Plain laws: graph.reached, graph.Reach. -/
import Derived.Test.YtngmdccheaidkaaPB1
namespace Go.Proofs.Ytngmdccheaidkaa.Pr
open Go.RowKit Go.Proofs.YtngmdccheaidkaaW.PrintWords Go.Proofs.YtngmdccheaidkaaW.PrintLast Go.Proofs.YtngmdccheaidkaaW.PrintMore
theorem rdOf_set {α : Type} (d : α) (l : List α) (x y : Int) (v : α) (hx : 0 ≤ x) (hl : x < (l.length : Int)) (hy : 0 ≤ y) : rdOf d (l.set x.toNat v) y = if y = x then v else rdOf d l y := by
  unfold rdOf
  rw [List.getD_eq_getElem?_getD, List.getElem?_set, List.getD_eq_getElem?_getD]
  by_cases e : y = x
  · subst e
    rw [if_pos rfl, if_pos (by omega), if_pos rfl]; rfl
  · rw [if_neg (by omega), if_neg e]
theorem count_set_true {l : List Bool} {i : Nat} (h : i < l.length) (hf : l[i] = false) : (l.set i true).count false + 1 = l.count false := by
  rw [List.count_set h, hf]
  have : 0 < l.count false := List.count_pos_iff.2 (hf ▸ List.getElem_mem h)
  simp; omega
theorem rdOf_get {α : Type} {d : α} {l : List α} {x : Int} (h0 : 0 ≤ x) (h : x < (l.length : Int)) : rdOf d l x = l[x.toNat]'(by omega) := by
  unfold rdOf
  rw [List.getD_eq_getElem?_getD, List.getElem?_eq_getElem (by omega)]; rfl
theorem markP_ok {seen : List Bool} {todo : List Int} {x : Int} (h0 : 0 ≤ x) (h1 : x < (seen.length : Int)) (hl : todo.length ≤ 1000000) :
    ∃ s t, markP seen todo x = some (s, t) ∧ s.length = seen.length ∧ (∀ y, 0 ≤ y → (rdOf false s y = true ↔ rdOf false seen y = true ∨ y = x)) ∧
      (∀ y, y ∈ t ↔ y ∈ todo ∨ (y = x ∧ ¬ rdOf false seen y = true)) ∧ s.count false + t.length = seen.count false + todo.length := by
  unfold markP
  rw [if_pos ⟨h0, h1⟩]
  by_cases c : rdOf false seen x = true
  · rw [if_pos c]
    refine ⟨_, _, rfl, rfl, fun y hy => ?_, fun y => ?_, rfl⟩
    · constructor
      · exact .inl
      · rintro (h | rfl)
        · exact h
        · exact c
    · constructor
      · exact .inl
      · rintro (h | ⟨rfl, h⟩)
        · exact h
        · exact absurd c h
  · rw [if_neg c, if_pos hl]
    refine ⟨_, _, rfl, by simp, fun y hy => ?_, fun y => ?_, ?_⟩
    · rw [rdOf_set _ _ _ _ _ h0 h1 hy]
      split
      · rename_i e; simp [e]
      · rename_i e; simp [e]
    · rw [List.mem_append, List.mem_singleton]
      constructor
      · rintro (h | rfl)
        · exact .inl h
        · exact .inr ⟨rfl, c⟩
      · rintro (h | ⟨h, _⟩)
        · exact .inl h
        · exact .inr h
    · rw [rdOf_get h0 h1] at c
      have := count_set_true (l := seen) (i := x.toNat) (by omega) (by simpa using c)
      simp only [List.length_append, List.length_cons, List.length_nil]
      omega
theorem marksP_ok : ∀ {ys : List Int} {seen : List Bool} {todo : List Int}, (∀ y ∈ ys, 0 ≤ y ∧ y < (seen.length : Int)) → seen.count false + todo.length ≤ 1000000 →
    ∃ s t, marksP seen todo ys = some (s, t) ∧ s.length = seen.length ∧ (∀ y, 0 ≤ y → (rdOf false s y = true ↔ rdOf false seen y = true ∨ y ∈ ys)) ∧
      (∀ y, y ∈ t ↔ y ∈ todo ∨ (y ∈ ys ∧ ¬ rdOf false seen y = true)) ∧ s.count false + t.length = seen.count false + todo.length
  | [], seen, todo, _, _ => ⟨seen, todo, rfl, rfl, by simp, by simp, rfl⟩
  | x :: ys, seen, todo, hy, hl => by
    obtain ⟨s, t, e, h1, h2, h3, h4⟩ := markP_ok (seen := seen) (todo := todo) (x := x) (hy x (by simp)).1 (hy x (by simp)).2 (by omega)
    obtain ⟨s', t', e', k1, k2, k3, k4⟩ := marksP_ok (ys := ys) (seen := s) (todo := t) (fun y h => by rw [h1]; exact hy y (by simp [h])) (by omega)
    refine ⟨s', t', ?_, by omega, fun y h => ?_, fun y => ?_, by omega⟩
    · rw [marksP, e]; exact e'
    · rw [k2 y h, h2 y h, List.mem_cons, or_assoc]
    · rw [k3, h3, List.mem_cons]
      constructor
      · rintro ((h | ⟨rfl, h⟩) | ⟨h, hn⟩)
        · exact .inl h
        · exact .inr ⟨.inl rfl, h⟩
        · refine .inr ⟨.inr h, fun c => hn ((h2 y (hy y (by simp [h])).1).2 (.inl c))⟩
      · rintro (h | ⟨rfl | h, hn⟩)
        · exact .inl (.inl h)
        · exact .inl (.inr ⟨rfl, hn⟩)
        · by_cases e : y = x
          · exact .inl (.inr ⟨e, hn⟩)
          · exact .inr ⟨h, fun c => by
              rcases (h2 y (hy y (by simp [h])).1).1 c with c | c
              · exact hn c
              · exact e c⟩
theorem reachO_ok {nx : List (List Int)} {n : Nat} (hn : nx.length = n) (hn2 : n ≤ 1000000) {R : Int → Int → Prop} (hR : ∀ x y, 0 ≤ x → x < (n : Int) → (y ∈ rd_L1 nx x ↔ R x y)) (hin : ∀ x y, R x y → 0 ≤ y ∧ y < (n : Int)) (a : Int) :
    ∀ k (seen : List Bool) (todo : List Int), seen.length = n → (∀ x ∈ todo, 0 ≤ x ∧ x < (n : Int) ∧ rdOf false seen x = true) → (∀ x, 0 ≤ x → x < (n : Int) → rdOf false seen x = true → Rt R a x) →
      (∀ x, 0 ≤ x → x < (n : Int) → rdOf false seen x = true → x ∉ todo → ∀ y, R x y → rdOf false seen y = true) → (0 ≤ a ∧ a < (n : Int) ∧ rdOf false seen a = true) → seen.count false + todo.length ≤ 1000000 → seen.count false + todo.length + 1 ≤ k →
      ∃ r, reachO k nx seen todo = some r ∧ r.length = n ∧ ∀ x, 0 ≤ x → x < (n : Int) → (rdOf false r x = true ↔ Rt R a x)
  | 0, _, _, _, _, _, _, _, _, h => by omega
  | k + 1, seen, todo, hs, ht, hr, hc, ha, hl, hk => by
    rw [reachO]
    rcases List.eq_nil_or_concat todo with rfl | ⟨t, x, rfl⟩
    · refine ⟨seen, rfl, hs, fun x h0 h1 => ⟨hr x h0 h1, fun hx => ?_⟩⟩
      refine (hx.closed (P := fun z => 0 ≤ z ∧ z < (n : Int) ∧ rdOf false seen z = true) (fun u v hu huv => ?_) ha).2.2
      exact ⟨(hin u v huv).1, (hin u v huv).2, hc u hu.1 hu.2.1 hu.2.2 (by simp) v huv⟩
    · rw [List.concat_eq_append] at *
      obtain ⟨x0, x1, xs⟩ := ht x (by simp)
      have q1 : (t ++ [x]).getLast? = some x := by simp
      have q2 : (t ++ [x]).dropLast = t := by simp
      rw [q1, q2]
      show ∃ r, (if 0 ≤ x ∧ x < (nx.length : Int) then _ else none) = some r ∧ _
      rw [if_pos ⟨x0, by omega⟩]
      have hys : ∀ y ∈ rd_L1 nx x, 0 ≤ y ∧ y < (seen.length : Int) := fun y hy => by
        rw [hs]; exact hin x y ((hR x y x0 x1).1 hy)
      simp only [List.length_append, List.length_cons, List.length_nil] at hl hk
      obtain ⟨s, t', e, k1, k2, k3, k4⟩ := marksP_ok (ys := rd_L1 nx x) (seen := seen) (todo := t) hys (by omega)
      rw [e, Option.bind_some]
      refine reachO_ok hn hn2 hR hin a k s t' (by omega) (fun y hy => ?_) (fun y h0 h1 hy => ?_) (fun y h0 h1 hy hnt z hz => ?_) ⟨ha.1, ha.2.1, (k2 a ha.1).2 (.inl ha.2.2)⟩ (by omega) (by omega)
      · rcases (k3 y).1 hy with h | ⟨h, _⟩
        · have := ht y (by simp [h])
          exact ⟨this.1, this.2.1, (k2 y this.1).2 (.inl this.2.2)⟩
        · have := hys y h
          exact ⟨this.1, by omega, (k2 y this.1).2 (.inr h)⟩
      · rcases (k2 y h0).1 hy with h | h
        · exact hr y h0 h1 h
        · exact (hr x x0 x1 xs).step ((hR x y x0 x1).1 h)
      · have hz0 := (hin y z hz).1
        by_cases c : rdOf false seen y = true
        · by_cases e2 : y = x
          · subst e2
            exact (k2 z hz0).2 (.inr ((hR y z h0 h1).2 hz))
          · refine (k2 z hz0).2 (.inl (hc y h0 h1 c (fun h => ?_) z hz))
            rcases List.mem_append.1 h with h | h
            · exact hnt ((k3 y).2 (.inl h))
            · exact e2 (by simpa using h)
        · rcases (k2 y h0).1 hy with h | h
          · exact absurd h c
          · exact absurd ((k3 y).2 (.inr ⟨h, c⟩)) hnt
open Classical in
/-- What is reached from a. -/
noncomputable def reachP (n : Nat) (R : Int → Int → Prop) (a : Int) : List Bool := (List.range n).map fun i : Nat => decide (Rt R a (i : Int))
theorem reachP_len (n R a) : (reachP n R a).length = n := by simp [reachP]
theorem rd_reachP {n : Nat} {R a} {x : Int} (h0 : 0 ≤ x) (h1 : x < (n : Int)) : rdOf false (reachP n R a) x = true ↔ Rt R a x := by
  rw [rdOf_get h0 (by rw [reachP_len]; exact h1)]
  simp only [reachP, List.getElem_map, List.getElem_range, decide_eq_true_eq]
  rw [Int.toNat_of_nonneg h0]
theorem reachP_is {n : Nat} {R a} {r : List Bool} (hl : r.length = n) (h : ∀ x : Int, 0 ≤ x → x < (n : Int) → (rdOf false r x = true ↔ Rt R a x)) : r = reachP n R a := by
  apply List.ext_getElem
  · rw [hl, reachP_len]
  · intro i hi hj
    have h1 := h (i : Int) (by omega) (by omega)
    rw [← rd_reachP (n := n) (by omega) (by omega), rdOf_get (by omega) (by omega), rdOf_get (by omega) (by rw [reachP_len]; omega)] at h1
    simp only [Int.toNat_natCast] at h1
    rcases h2 : r[i] with _ | _ <;> rcases h3 : (reachP n R a)[i] with _ | _
    · rfl
    · simp [h2, h3] at h1
    · simp [h2, h3] at h1
    · rfl
theorem reached_ok {nx : List (List Int)} {n : Nat} (hn : nx.length = n) (hn2 : n ≤ 1000000) {R : Int → Int → Prop} (hR : ∀ x y, 0 ≤ x → x < (n : Int) → (y ∈ rd_L1 nx x ↔ R x y)) (hin : ∀ x y, R x y → 0 ≤ y ∧ y < (n : Int)) {a : Int} (h0 : 0 ≤ a) (h1 : a < (n : Int)) :
    graph_reached.f nx a = some (reachP n R a) := by
  unfold graph_reached.f
  rw [if_pos (by omega)]
  have hz : ∀ y : Int, rdOf false (List.replicate nx.length false) y = false := fun y => by
    unfold rdOf
    rw [List.getD_eq_getElem?_getD, List.getElem?_replicate]
    split <;> rfl
  obtain ⟨s, t, e, k1, k2, k3, k4⟩ := markP_ok (seen := List.replicate nx.length false) (todo := []) (x := a) h0 (by simpa [hn] using h1) (by simp)
  rw [e, Option.bind_some]
  simp only [List.length_replicate, List.count_replicate_self, List.length_nil] at k1 k4
  have ka : ∀ y, 0 ≤ y → (rdOf false s y = true ↔ y = a) := fun y hy => by rw [k2 y hy, hz]; simp
  have kt : ∀ y, y ∈ t ↔ y = a := fun y => by rw [k3, hz]; simp
  obtain ⟨r, e1, e2, e3⟩ := reachO_ok hn hn2 hR hin a (nx.length + 2) s t (by omega) (fun x hx => by
      have := (kt x).1 hx; subst this; exact ⟨h0, h1, (ka x h0).2 rfl⟩) (fun x x0 x1 hx => by rw [(ka x x0).1 hx]; exact Rt.refl _)
    (fun x x0 x1 hx hnt => absurd ((kt x).2 ((ka x x0).1 hx)) hnt) ⟨h0, h1, (ka a h0).2 rfl⟩ (by omega) (by omega)
  rw [e1, reachP_is e2 e3]
theorem Reach_ok {n : Int} {l : List S27} (h : OkE n l) {a : Int} (h0 : 0 ≤ a) (h1 : a < n) {k : Nat} (hk : l.length + 1 ≤ k) : graph_Reach.f k n l a = some (reachP n.toNat (Ed l) a) := by
  unfold graph_Reach.f
  rw [nexts_ok h hk]
  have hn0 := h.n0
  have hn1 := h.n1
  simp only [Option.bind_some, if_pos]
  rw [if_neg (by omega), if_neg (by omega), reached_ok (n := n.toNat) (by simp [nextsP]) (by omega) (fun x y x0 x1 => mem_nextsP x0 x1) (fun x y hxy => by have := h.edge hxy; omega) h0 (by omega)]
  rfl
end Go.Proofs.Ytngmdccheaidkaa.Pr
