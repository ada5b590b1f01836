/- Texts of the seat, without what this claim does not use. -/
import Derived.Lib.SlicesCompact
section
/- Plain laws: walks in a graph, the shortest ones, and the least of these. -/
namespace Go.Proofs.Ytngmdccheaidkaa.Pr
/-- A walk from a to b: its nodes. -/
inductive Walk (R : Int → Int → Prop) : Int → List Int → Int → Prop
  | one (a : Int) : Walk R a [a] a
  | cons {a c b : Int} {p : List Int} (h : R a c) (t : Walk R c p b) : Walk R a (a :: p) b
/-- b is reached from a. -/
def Rt (R : Int → Int → Prop) (a b : Int) : Prop := ∃ p, Walk R a p b
theorem Rt.refl {R} (a : Int) : Rt R a a := ⟨[a], .one a⟩
theorem Walk.snoc {R a p b c} (h : Walk R a p b) (hc : R b c) : Walk R a (p ++ [c]) c := by
  induction h with
  | one a => exact .cons hc (.one c)
  | cons h _ ih => exact .cons h (ih hc)
theorem Walk.pos {R a p b} (h : Walk R a p b) : 1 ≤ p.length := by cases h <;> simp
theorem Walk.join {R a p b q c} (h : Walk R a p b) (k : Walk R b q c) : Walk R a (p ++ q.tail) c := by
  induction h with
  | one a =>
    cases k with
    | one => exact .one _
    | cons h t => exact .cons h t
  | cons h _ ih => exact .cons h (ih k)
theorem Rt.trans {R a b c} (h : Rt R a b) (k : Rt R b c) : Rt R a c := by
  obtain ⟨p, h⟩ := h
  obtain ⟨q, k⟩ := k
  exact ⟨_, h.join k⟩
theorem Rt.step {R a b c} (h : Rt R a b) (k : R b c) : Rt R a c := by
  obtain ⟨p, h⟩ := h
  exact ⟨_, h.snoc k⟩
theorem Rt.head {R a b c} (h : R a b) (k : Rt R b c) : Rt R a c := by
  obtain ⟨p, k⟩ := k
  exact ⟨_, .cons h k⟩
/-- A walk's last step. -/
theorem Walk.last {R a p b} (h : Walk R a p b) : (a = b ∧ p = [a]) ∨ ∃ q u, p = q ++ [b] ∧ Walk R a q u ∧ R u b := by
  induction h with
  | one a => exact .inl ⟨rfl, rfl⟩
  | @cons a c b p h t ih =>
    refine .inr ?_
    rcases ih with ⟨rfl, rfl⟩ | ⟨q, u, rfl, hq, hu⟩
    · exact ⟨[a], a, rfl, .one a, h⟩
    · exact ⟨a :: q, u, rfl, .cons h hq, hu⟩
theorem Walk.mono {R S : Int → Int → Prop} (hs : ∀ x y, R x y → S x y) {a p b} (h : Walk R a p b) : Walk S a p b := by
  induction h with
  | one a => exact .one a
  | cons h _ ih => exact .cons (hs _ _ h) ih
theorem Rt.mono {R S : Int → Int → Prop} (hs : ∀ x y, R x y → S x y) {a b} : Rt R a b → Rt S a b
  | ⟨p, h⟩ => ⟨p, h.mono hs⟩
/-- Closed under the edges: closed under reaching. -/
theorem Rt.closed {R a b} (h : Rt R a b) {P : Int → Prop} (hp : ∀ x y, P x → R x y → P y) (ha : P a) : P b := by
  obtain ⟨p, h⟩ := h
  induction h with
  | one a => exact ha
  | cons h _ ih => exact ih (hp _ _ ha h)
theorem Walk.all {R a p b} (h : Walk R a p b) {P : Int → Prop} (hp : ∀ x y, R x y → P y) (ha : P a) : ∀ x ∈ p, P x := by
  induction h with
  | one a => simpa using ha
  | cons h _ ih =>
    intro x hx
    rcases List.mem_cons.1 hx with rfl | hx
    · exact ha
    · exact ih (hp _ _ h) x hx
theorem Walk.head {R a p b} (h : Walk R a p b) : p.head? = some a := by cases h <;> rfl
/-- A walk cut at one of its nodes. -/
theorem Walk.cut {R a p b} (h : Walk R a p b) : ∀ p1 x p2, p = p1 ++ x :: p2 → Walk R a (p1 ++ [x]) x ∧ Walk R x (x :: p2) b := by
  induction h with
  | one a =>
    intro p1 x p2 e
    cases p1 with
    | nil =>
      simp only [List.nil_append, List.cons.injEq] at e
      obtain ⟨rfl, rfl⟩ := e
      exact ⟨.one _, .one _⟩
    | cons u v => simp at e
  | @cons a c b p h t ih =>
    intro p1 x p2 e
    cases p1 with
    | nil =>
      simp only [List.nil_append, List.cons.injEq] at e
      obtain ⟨rfl, rfl⟩ := e
      exact ⟨.one _, .cons h t⟩
    | cons u v =>
      simp only [List.cons_append, List.cons.injEq] at e
      obtain ⟨rfl, rfl⟩ := e
      obtain ⟨k1, k2⟩ := ih v x p2 rfl
      exact ⟨.cons h k1, k2⟩
/-- Walks turned round. -/
theorem Walk.rev {R a p b} (h : Walk R a p b) : Walk (fun x y => R y x) b p.reverse a := by
  induction h with
  | one a => exact .one a
  | cons h _ ih => rw [List.reverse_cons]; exact ih.snoc h
theorem Rt.rev {R a b} : Rt R a b → Rt (fun x y => R y x) b a
  | ⟨_, h⟩ => ⟨_, h.rev⟩
/-! ### The shortest -/
def Short (R : Int → Int → Prop) (a : Int) (p : List Int) (b : Int) : Prop := Walk R a p b ∧ ∀ q, Walk R a q b → p.length ≤ q.length
theorem Short.some {R a b} (h : Rt R a b) : ∃ p, Short R a p b := by
  obtain ⟨p, h⟩ := h
  suffices ∀ n (p : List Int), p.length = n → Walk R a p b → ∃ p, Short R a p b from this _ p rfl h
  intro n
  induction n using Nat.strongRecOn with
  | _ n ih =>
    intro p hp hw
    by_cases c : ∃ q, Walk R a q b ∧ q.length < n
    · obtain ⟨q, hq, hl⟩ := c
      exact ih _ hl q rfl hq
    · exact ⟨p, hw, fun q hq => by
        rcases Nat.lt_or_ge q.length p.length with k | k
        · exact absurd ⟨q, hq, hp ▸ k⟩ c
        · exact k⟩
theorem Short.len {R a b p q} (h : Short R a p b) (k : Short R a q b) : p.length = q.length := Nat.le_antisymm (h.2 q k.1) (k.2 p h.1)
theorem Short.cut {R a b p1 x p2} (h : Short R a (p1 ++ x :: p2) b) : Short R a (p1 ++ [x]) x ∧ Short R x (x :: p2) b := by
  obtain ⟨k1, k2⟩ := h.1.cut p1 x p2 rfl
  refine ⟨⟨k1, fun q hq => ?_⟩, k2, fun q hq => ?_⟩
  · have := h.2 _ (hq.join k2)
    simp only [List.length_append, List.length_cons, List.tail_cons, List.length_nil] at this ⊢
    omega
  · have := h.2 _ (k1.join hq)
    have := hq.pos
    simp only [List.length_append, List.length_cons, List.length_tail, List.length_nil] at *
    omega
/-- A shortest walk has no node twice. -/
theorem Short.nodup {R a p b} (h : Short R a p b) : p.Nodup := by
  refine List.nodup_iff_pairwise_ne.2 ?_
  suffices ∀ (p2 p1 : List Int), p = p1 ++ p2 → p2.Pairwise (· ≠ ·) from this p [] rfl
  intro p2
  induction p2 with
  | nil => intros; exact .nil
  | cons x t ih =>
    intro p1 e
    refine .cons (fun y hy e2 => ?_) (ih (p1 ++ [x]) (by simp [e]))
    subst e2
    obtain ⟨t1, t2, rfl⟩ := List.append_of_mem hy
    subst e
    have k1 := (h.1.cut p1 x _ rfl).1
    have k2 := (h.1.cut (p1 ++ x :: t1) x t2 (by simp)).2
    have := h.2 _ (k1.join k2)
    simp only [List.length_append, List.length_cons, List.tail_cons, List.length_nil] at this
    omega
/-! ### Order of lists -/
def lexLE : List Int → List Int → Prop
  | [], _ => True
  | _ :: _, [] => False
  | x :: p, y :: q => x < y ∨ (x = y ∧ lexLE p q)
theorem lexLE.refl : ∀ p, lexLE p p
  | [] => trivial
  | _ :: p => .inr ⟨rfl, lexLE.refl p⟩
theorem lexLE.trans : ∀ {p q r}, lexLE p q → lexLE q r → lexLE p r
  | [], _, _, _, _ => trivial
  | _ :: _, [], _, h, _ => h.elim
  | _ :: _, _ :: _, [], _, h => h.elim
  | x :: p, y :: q, z :: r, h, k => by
    rcases h with h | ⟨rfl, h⟩
    · rcases k with k | ⟨rfl, k⟩
      · exact .inl (by omega)
      · exact .inl h
    · rcases k with k | ⟨rfl, k⟩
      · exact .inl k
      · exact .inr ⟨rfl, h.trans k⟩
theorem lexLE.anti : ∀ {p q}, lexLE p q → lexLE q p → p = q
  | [], [], _, _ => rfl
  | [], _ :: _, _, h => h.elim
  | _ :: _, [], h, _ => h.elim
  | x :: p, y :: q, h, k => by
    rcases h with h | ⟨rfl, h⟩
    · rcases k with k | ⟨rfl, k⟩ <;> omega
    · rcases k with k | ⟨_, k⟩
      · omega
      · rw [h.anti k]
def lexLT (p q : List Int) : Prop := lexLE p q ∧ p ≠ q
/-- Lists of one length: what stands ahead decides. -/
theorem lexLE.app : ∀ {p q : List Int} (_ : p.length = q.length) (_ : lexLE p q) {r s : List Int} (_ : p = q → lexLE r s), lexLE (p ++ r) (q ++ s)
  | [], [], _, _, _, _, k => k rfl
  | x :: p, y :: q, e, h, r, s, k => by
    rcases h with h | ⟨rfl, h⟩
    · exact .inl h
    · exact .inr ⟨rfl, lexLE.app (by simpa using e) h (fun e2 => k (by rw [e2]))⟩
theorem lexLT.app {p q : List Int} (e : p.length = q.length) (h : lexLT p q) (r s : List Int) : lexLT (p ++ r) (q ++ s) :=
  ⟨lexLE.app e h.1 (fun e2 => absurd e2 h.2), fun e2 => h.2 (List.append_inj_left e2 e)⟩
theorem lexLE.same (p : List Int) {r s : List Int} (h : lexLE r s) : lexLE (p ++ r) (p ++ s) := lexLE.app rfl (lexLE.refl p) (fun _ => h)
theorem lexLE.tail {p q r s : List Int} (e : p.length = q.length) (h : lexLE (p ++ r) (q ++ s)) : lexLE p q := by
  induction p generalizing q with
  | nil => trivial
  | cons x p ih =>
    cases q with
    | nil => simp at e
    | cons y q =>
      rcases h with h | ⟨rfl, h⟩
      · exact .inl h
      · exact .inr ⟨rfl, ih (by simpa using e) h⟩
/-- The least of the shortest. -/
def Least (R : Int → Int → Prop) (a : Int) (p : List Int) (b : Int) : Prop := Short R a p b ∧ ∀ q, Short R a q b → lexLE p q
theorem Least.one {R a b p q} (h : Least R a p b) (k : Least R a q b) : p = q := (h.2 q k.1).anti (k.2 p h.1)
/-- What stands ahead in a least walk is least. -/
theorem Least.ahead {R a b p1 x p2} (h : Least R a (p1 ++ x :: p2) b) : Least R a (p1 ++ [x]) x := by
  obtain ⟨k1, k2⟩ := h.1.cut
  refine ⟨k1, fun q hq => ?_⟩
  have hl := k1.len hq
  have hs : Short R a (q ++ p2) b := by
    refine ⟨hq.1.join k2.1, fun r hr => ?_⟩
    have := h.1.2 r hr
    simp only [List.length_append, List.length_cons, List.length_nil] at *
    omega
  have hk := h.2 _ hs
  rw [show p1 ++ x :: p2 = (p1 ++ [x]) ++ p2 by simp] at hk
  exact hk.tail hl
theorem sub_len {α : Type} [DecidableEq α] : ∀ {l m : List α}, l.Nodup → (∀ x ∈ l, x ∈ m) → l.length ≤ m.length
  | [], _, _, _ => Nat.zero_le _
  | a :: t, m, h, k => by
    have ha := k a (by simp)
    have h2 := List.nodup_cons.1 h
    have := sub_len (m := m.erase a) h2.2 (fun x hx => (List.mem_erase_of_ne (fun e => h2.1 (by subst e; exact hx))).2 (k x (by simp [hx])))
    rw [List.length_erase_of_mem ha] at this
    have := List.length_pos_of_mem ha
    simp only [List.length_cons]
    omega
/-- A list of numbers below n without one twice is no longer than n. -/
theorem nodup_len {n : Nat} : ∀ {p : List Int}, p.Nodup → (∀ x ∈ p, 0 ≤ x ∧ x < (n : Int)) → p.length ≤ n := by
  intro p hp hx
  have h1 : (p.map Int.toNat).Nodup := by
    refine List.nodup_iff_pairwise_ne.2 (List.pairwise_map.2 ?_)
    refine (List.nodup_iff_pairwise_ne.1 hp).imp_of_mem (fun ha hb hne e => hne ?_)
    have := hx _ ha; have := hx _ hb; omega
  have h2 : ∀ y ∈ p.map Int.toNat, y ∈ List.range n := by
    intro y hy
    obtain ⟨x, hxm, rfl⟩ := List.mem_map.1 hy
    have := hx _ hxm
    rw [List.mem_range]; omega
  have := sub_len h1 h2
  simpa using this
end Go.Proofs.Ytngmdccheaidkaa.Pr
end
section
/- Plain laws: sorted lists, each element once. -/
namespace Go.Proofs.Ytngmdccheaidkaa.Pr
open Go.Lib
section
variable {α : Type} [Inhabited α] [DecidableEq α]
theorem mem_compactUpTo (d : Array α) (m : Nat) (x : α) : x ∈ compactUpTo d m ↔ ∃ j, j < m ∧ d[j]! = x := by
  induction m with
  | zero => simp [compactUpTo]
  | succ m ih =>
    rw [compactUpTo_succ, List.mem_append, ih]
    by_cases hk : keeps d m = true
    · rw [if_pos hk, List.mem_singleton]
      constructor
      · rintro (⟨j, hj, rfl⟩ | rfl)
        · exact ⟨j, by omega, rfl⟩
        · exact ⟨m, by omega, rfl⟩
      · rintro ⟨j, hj, rfl⟩
        by_cases e : j = m
        · subst e; exact .inr rfl
        · exact .inl ⟨j, by omega, rfl⟩
    · rw [if_neg hk]
      have hm : ¬ m = 0 ∧ d[m]! = d[m - 1]! := by
        unfold keeps at hk
        simp only [decide_eq_true_eq, not_or, Decidable.not_not] at hk
        exact hk
      constructor
      · rintro (⟨j, hj, rfl⟩ | h)
        · exact ⟨j, by omega, rfl⟩
        · simp at h
      · rintro ⟨j, hj, rfl⟩
        by_cases e : j = m
        · subst e; exact .inl ⟨j - 1, by omega, hm.2.symm⟩
        · exact .inl ⟨j, by omega, rfl⟩
theorem compactUpTo_pairwise {le : α → α → Prop} (anti : ∀ a b, le a b → le b a → a = b) (d : Array α) (hd : ∀ i j, i ≤ j → j < d.size → le d[i]! d[j]!) :
    ∀ m, m ≤ d.size → (compactUpTo d m).Pairwise (fun a b => le a b ∧ a ≠ b)
  | 0, _ => by simp [compactUpTo]
  | m + 1, hm => by
    rw [compactUpTo_succ]
    by_cases hk : keeps d m = true
    · rw [if_pos hk, List.pairwise_append]
      refine ⟨compactUpTo_pairwise anti d hd m (by omega), by simp, fun a ha b hb => ?_⟩
      rw [List.mem_singleton] at hb
      subst hb
      obtain ⟨j, hj, rfl⟩ := (mem_compactUpTo d m a).1 ha
      refine ⟨hd j m (by omega) (by omega), fun e => ?_⟩
      have h1 : le d[j]! d[m - 1]! := hd j (m - 1) (by omega) (by omega)
      rw [e] at h1
      have h2 := anti _ _ (hd (m - 1) m (by omega) (by omega)) h1
      unfold keeps at hk
      simp only [decide_eq_true_eq] at hk
      rcases hk with hk | hk
      · omega
      · exact hk h2.symm
    · rw [if_neg hk, List.append_nil]
      exact compactUpTo_pairwise anti d hd m (by omega)
theorem mem_compact (zs : List α) (x : α) : x ∈ Lib.compact zs ↔ x ∈ zs := by
  unfold Lib.compact
  rw [mem_compactUpTo]
  constructor
  · rintro ⟨j, hj, rfl⟩
    rw [getElem!_pos zs.toArray j (by simpa using hj)]
    simp
  · intro hx
    obtain ⟨j, hj, rfl⟩ := List.getElem_of_mem hx
    exact ⟨j, hj, by rw [getElem!_pos zs.toArray j (by simpa using hj)]; simp⟩
theorem compact_pairwise {le : α → α → Prop} (refl : ∀ a, le a a) (anti : ∀ a b, le a b → le b a → a = b) (zs : List α) (h : zs.Pairwise le) : (Lib.compact zs).Pairwise (fun a b => le a b ∧ a ≠ b) := by
  unfold Lib.compact
  refine compactUpTo_pairwise anti _ (fun i j hij hj => ?_) _ (by simp)
  have hj' : j < zs.length := by simpa using hj
  rw [getElem!_pos zs.toArray i (by simp; omega), getElem!_pos zs.toArray j hj]
  by_cases e : i = j
  · subst e; exact refl _
  · simpa using List.pairwise_iff_getElem.1 h i j (by omega) hj' (by omega)
end
/-- Two rising lists of the same elements are one. -/
theorem rising_unique {α : Type} {lt : α → α → Prop} (irr : ∀ a, ¬ lt a a) (tr : ∀ a b c, lt a b → lt b c → lt a c) : ∀ {l m : List α}, l.Pairwise lt → m.Pairwise lt → (∀ x, x ∈ l ↔ x ∈ m) → l = m
  | [], [], _, _, _ => rfl
  | [], b :: m, _, _, h => by have := (h b).2 (by simp); simp at this
  | a :: l, [], _, _, h => by have := (h a).1 (by simp); simp at this
  | a :: l, b :: m, hl, hm, h => by
    rw [List.pairwise_cons] at hl hm
    have hab : a = b := by
      have h1 := (h a).1 (by simp)
      have h2 := (h b).2 (by simp)
      rcases List.mem_cons.1 h1 with e | h1
      · exact e
      · rcases List.mem_cons.1 h2 with e | h2
        · exact e.symm
        · exact absurd (tr _ _ _ (hl.1 b h2) (hm.1 a h1)) (irr a)
    subst hab
    rw [rising_unique irr tr hl.2 hm.2 (fun x => ?_)]
    constructor
    · intro hx
      rcases List.mem_cons.1 ((h x).1 (List.mem_cons_of_mem _ hx)) with e | h1
      · subst e; exact absurd (hl.1 x hx) (irr x)
      · exact h1
    · intro hx
      rcases List.mem_cons.1 ((h x).2 (List.mem_cons_of_mem _ hx)) with e | h1
      · subst e; exact absurd (hm.1 x hx) (irr x)
      · exact h1
end Go.Proofs.Ytngmdccheaidkaa.Pr
end
