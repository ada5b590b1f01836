/- Plain laws: sorted lists, each element once. -/
import Derived.Lib.SlicesCompact
namespace Go.Proofs.Ytngmdccheaidkaa.Pr
open Go.Lib
section
variable {α : Type} [Inhabited α] [DecidableEq α]
theorem mem_compactUpTo (d : Array α) (m : Nat) (x : α) : x ∈ compactUpTo d m ↔ ∃ j, j < m ∧ d[j]! = x := by
  induction m with
  | zero => simp [compactUpTo]
  | succ m ih =>
    rw [compactUpTo_succ, List.mem_append, ih]
    by_cases hk : keeps d m = true
    · rw [if_pos hk, List.mem_singleton]
      constructor
      · rintro (⟨j, hj, rfl⟩ | rfl)
        · exact ⟨j, by omega, rfl⟩
        · exact ⟨m, by omega, rfl⟩
      · rintro ⟨j, hj, rfl⟩
        by_cases e : j = m
        · subst e; exact .inr rfl
        · exact .inl ⟨j, by omega, rfl⟩
    · rw [if_neg hk]
      have hm : ¬ m = 0 ∧ d[m]! = d[m - 1]! := by
        unfold keeps at hk
        simp only [decide_eq_true_eq, not_or, Decidable.not_not] at hk
        exact hk
      constructor
      · rintro (⟨j, hj, rfl⟩ | h)
        · exact ⟨j, by omega, rfl⟩
        · simp at h
      · rintro ⟨j, hj, rfl⟩
        by_cases e : j = m
        · subst e; exact .inl ⟨j - 1, by omega, hm.2.symm⟩
        · exact .inl ⟨j, by omega, rfl⟩
theorem compactUpTo_pairwise {le : α → α → Prop} (anti : ∀ a b, le a b → le b a → a = b) (d : Array α) (hd : ∀ i j, i ≤ j → j < d.size → le d[i]! d[j]!) :
    ∀ m, m ≤ d.size → (compactUpTo d m).Pairwise (fun a b => le a b ∧ a ≠ b)
  | 0, _ => by simp [compactUpTo]
  | m + 1, hm => by
    rw [compactUpTo_succ]
    by_cases hk : keeps d m = true
    · rw [if_pos hk, List.pairwise_append]
      refine ⟨compactUpTo_pairwise anti d hd m (by omega), by simp, fun a ha b hb => ?_⟩
      rw [List.mem_singleton] at hb
      subst hb
      obtain ⟨j, hj, rfl⟩ := (mem_compactUpTo d m a).1 ha
      refine ⟨hd j m (by omega) (by omega), fun e => ?_⟩
      have h1 : le d[j]! d[m - 1]! := hd j (m - 1) (by omega) (by omega)
      rw [e] at h1
      have h2 := anti _ _ (hd (m - 1) m (by omega) (by omega)) h1
      unfold keeps at hk
      simp only [decide_eq_true_eq] at hk
      rcases hk with hk | hk
      · omega
      · exact hk h2.symm
    · rw [if_neg hk, List.append_nil]
      exact compactUpTo_pairwise anti d hd m (by omega)
theorem mem_compact (zs : List α) (x : α) : x ∈ Lib.compact zs ↔ x ∈ zs := by
  unfold Lib.compact
  rw [mem_compactUpTo]
  constructor
  · rintro ⟨j, hj, rfl⟩
    rw [getElem!_pos zs.toArray j (by simpa using hj)]
    simp
  · intro hx
    obtain ⟨j, hj, rfl⟩ := List.getElem_of_mem hx
    exact ⟨j, hj, by rw [getElem!_pos zs.toArray j (by simpa using hj)]; simp⟩
theorem compact_pairwise {le : α → α → Prop} (refl : ∀ a, le a a) (anti : ∀ a b, le a b → le b a → a = b) (zs : List α) (h : zs.Pairwise le) : (Lib.compact zs).Pairwise (fun a b => le a b ∧ a ≠ b) := by
  unfold Lib.compact
  refine compactUpTo_pairwise anti _ (fun i j hij hj => ?_) _ (by simp)
  have hj' : j < zs.length := by simpa using hj
  rw [getElem!_pos zs.toArray i (by simp; omega), getElem!_pos zs.toArray j hj]
  by_cases e : i = j
  · subst e; exact refl _
  · simpa using List.pairwise_iff_getElem.1 h i j (by omega) hj' (by omega)
end
/-- Two rising lists of the same elements are one. -/
theorem rising_unique {α : Type} {lt : α → α → Prop} (irr : ∀ a, ¬ lt a a) (tr : ∀ a b c, lt a b → lt b c → lt a c) : ∀ {l m : List α}, l.Pairwise lt → m.Pairwise lt → (∀ x, x ∈ l ↔ x ∈ m) → l = m
  | [], [], _, _, _ => rfl
  | [], b :: m, _, _, h => by have := (h b).2 (by simp); simp at this
  | a :: l, [], _, _, h => by have := (h a).1 (by simp); simp at this
  | a :: l, b :: m, hl, hm, h => by
    rw [List.pairwise_cons] at hl hm
    have hab : a = b := by
      have h1 := (h a).1 (by simp)
      have h2 := (h b).2 (by simp)
      rcases List.mem_cons.1 h1 with e | h1
      · exact e
      · rcases List.mem_cons.1 h2 with e | h2
        · exact e.symm
        · exact absurd (tr _ _ _ (hl.1 b h2) (hm.1 a h1)) (irr a)
    subst hab
    rw [rising_unique irr tr hl.2 hm.2 (fun x => ?_)]
    constructor
    · intro hx
      rcases List.mem_cons.1 ((h x).1 (List.mem_cons_of_mem _ hx)) with e | h1
      · subst e; exact absurd (hl.1 x hx) (irr x)
      · exact h1
    · intro hx
      rcases List.mem_cons.1 ((h x).2 (List.mem_cons_of_mem _ hx)) with e | h1
      · subst e; exact absurd (hm.1 x hx) (irr x)
      · exact h1
end Go.Proofs.Ytngmdccheaidkaa.Pr
