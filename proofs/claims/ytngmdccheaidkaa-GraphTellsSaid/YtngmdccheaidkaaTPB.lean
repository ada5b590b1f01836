/- Texts of the seat, without what this claim does not use. -/
import Derived.Test.YtngmdccheaidkaaTPG
import Derived.Test.YtngmdccheaidkaaTGReached
import Derived.Test.YtngmdccheaidkaaTF22
import Derived.Test.YtngmdccheaidkaaTGParts
import Derived.Test.YtngmdccheaidkaaTF20
import Derived.Test.YtngmdccheaidkaaTF14
import Derived.Test.YtngmdccheaidkaaTF15
import Derived.Test.YtngmdccheaidkaaTF26
import Derived.Test.YtngmdccheaidkaaTF21
import Derived.Test.YtngmdccheaidkaaTF23
import Derived.Test.YtngmdccheaidkaaTF24
import Derived.Test.YtngmdccheaidkaaTF25
import Derived.Test.YtngmdccheaidkaaTF4
section
/- Plain laws: graph.Clean, graph.nexts, graph.reached, graph.Reach. -/
namespace Go.Proofs.Ytngmdccheaidkaa.Pr
open Go.RowKit Go.Proofs.YtngmdccheaidkaaW.PrintWords Go.Proofs.YtngmdccheaidkaaW.PrintLast Go.Proofs.YtngmdccheaidkaaW.PrintMore
open Go.Lib Go.Sort
/-! ### Clean -/
/-- The edges, as a relation. -/
def Ed (l : List S27) (x y : Int) : Prop := (⟨x, y⟩ : S27) ∈ l
theorem mem_cleanP (l : List S27) (x : S27) : x ∈ cleanP l ↔ x ∈ l := by
  unfold cleanP
  rw [List.mem_map]
  constructor
  · rintro ⟨p, hp, rfl⟩
    rw [mem_compact] at hp
    unfold sortP at hp
    rw [List.mem_mergeSort, List.mem_map] at hp
    obtain ⟨y, hy, rfl⟩ := hp
    exact hy
  · intro hx
    refine ⟨toP x, ?_, rfl⟩
    rw [mem_compact]
    unfold sortP
    rw [List.mem_mergeSort]
    exact List.mem_map.2 ⟨x, hx, rfl⟩
def ltS (x y : S27) : Prop := x.f0 < y.f0 ∨ (x.f0 = y.f0 ∧ x.f1 < y.f1)
theorem cleanP_rising (l : List S27) : (cleanP l).Pairwise ltS := by
  have hs : (sortP (l.map toP)).Pairwise (fun x y => ltP x y ∨ x = y) := by
    have := List.pairwise_mergeSort (le := fun x y : Pair => !(ltOf cfP y x)) (fun a b c => by
      simp only [Bool.not_eq_true', cfP_nlt]
      unfold ltP; omega) (fun a b => by
      rcases h : ltOf cfP b a with _ | _
      · rfl
      · have := (cfP_lt _ _).1 h
        have : ltOf cfP a b = false := by rw [cfP_nlt]; unfold ltP at *; omega
        simp [this]) (l.map toP)
    refine this.imp (fun {a b} h => ?_)
    simp only [Bool.not_eq_true', cfP_nlt] at h
    unfold ltP at *
    by_cases e : a = b
    · exact .inr e
    · refine .inl ?_
      have : ¬ (a.1 = b.1 ∧ a.2 = b.2) := fun k => e (Prod.ext k.1 k.2)
      omega
  have hc := compact_pairwise (le := fun x y : Pair => ltP x y ∨ x = y) (fun a => .inr rfl) (fun a b h k => by
    rcases h with h | h
    · rcases k with k | k
      · unfold ltP at h k; omega
      · exact k.symm
    · exact h) _ hs
  unfold cleanP
  rw [List.pairwise_map]
  refine hc.imp (fun {a b} h => ?_)
  rcases h.1 with k | k
  · exact k
  · exact absurd k h.2
theorem cleanP_len (l : List S27) : (cleanP l).length ≤ l.length := by
  unfold cleanP
  rw [List.length_map]
  have h : ∀ (d : Array Pair) m, (compactUpTo d m).length ≤ m := by
    intro d m
    induction m with
    | zero => simp [compactUpTo]
    | succ m ih => rw [compactUpTo_succ]; split <;> simp <;> omega
  have := h (sortP (l.map toP)).toArray (sortP (l.map toP)).length
  unfold Lib.compact
  simp only [sortP, List.length_mergeSort, List.length_map] at *
  omega
/-- Edges between nodes below n, of a size that the program takes. -/
structure OkE (n : Int) (l : List S27) : Prop where
  n0 : 0 ≤ n
  n1 : n ≤ 1000
  len : l.length ≤ 8796093022208
  mem : ∀ x ∈ l, 0 ≤ x.f0 ∧ x.f0 < n ∧ 0 ≤ x.f1 ∧ x.f1 < n
theorem OkE.edge {n l x y} (h : OkE n l) (k : Ed l x y) : 0 ≤ x ∧ x < n ∧ 0 ≤ y ∧ y < n := h.mem _ k
theorem outP_any {n : Int} {l : List S27} : (l.map toP).any (outP n) = true ↔ ¬ ∀ x ∈ l, 0 ≤ x.f0 ∧ x.f0 < n ∧ 0 ≤ x.f1 ∧ x.f1 < n := by
  rw [List.any_eq_true]
  constructor
  · rintro ⟨p, hp, ho⟩ h
    obtain ⟨x, hx, rfl⟩ := List.mem_map.1 hp
    have := h x hx
    simp [outP, withinP, toP] at ho
    grind
  · intro h
    refine Classical.byContradiction fun c => h fun x hx => ?_
    have : ¬ outP n (toP x) = true := fun k => c ⟨toP x, List.mem_map.2 ⟨x, hx, rfl⟩, k⟩
    simp [outP, withinP, toP] at this
    grind
theorem Clean_ok {n : Int} {l : List S27} (h : OkE n l) : graph_Clean.f n l = some (cleanP l, 0) := by
  unfold graph_Clean.f
  rw [if_pos h.len, if_neg]
  rintro (k | k | k)
  · have := h.n0; omega
  · have := h.n1; omega
  · exact outP_any.1 k h.mem
theorem Clean_bad {n : Int} {l : List S27} (hl : l.length ≤ 8796093022208) (h : ¬ OkE n l) : graph_Clean.f n l = some ([], 1) := by
  unfold graph_Clean.f
  rw [if_pos hl, if_pos]
  refine Classical.byContradiction fun c => h ?_
  simp only [not_or] at c
  exact ⟨by omega, by omega, hl, Classical.byContradiction fun k => c.2.2 (outP_any.2 k)⟩
/-! ### nexts -/
def outOf (l : List S27) (x : Int) : List Int := (l.filter fun e => e.f0 == x).map (·.f1)
def nextsP (n : Nat) (l : List S27) : List (List Int) := (List.range n).map fun x : Nat => outOf (cleanP l) (x : Int)
theorem mem_outOf {l : List S27} {x y : Int} : y ∈ outOf l x ↔ Ed l x y := by
  unfold outOf Ed
  rw [List.mem_map]
  constructor
  · rintro ⟨⟨a, b⟩, he, rfl⟩
    rw [List.mem_filter] at he
    have : a = x := by simpa using he.2
    subst this
    exact he.1
  · intro h
    exact ⟨⟨x, y⟩, List.mem_filter.2 ⟨h, by simp⟩, rfl⟩
theorem outOf_rising (l : List S27) (x : Int) : (outOf (cleanP l) x).Pairwise (· < ·) := by
  unfold outOf
  rw [List.pairwise_map]
  refine ((cleanP_rising l).filter _).imp_of_mem (fun {a b} ha hb h => ?_)
  have h1 : a.f0 = x := by simpa using (List.mem_filter.1 ha).2
  have h2 : b.f0 = x := by simpa using (List.mem_filter.1 hb).2
  unfold ltS at h
  omega
theorem rd_nextsP {n : Nat} {l : List S27} {x : Int} (h0 : 0 ≤ x) (h1 : x < (n : Int)) : rd_L1 (nextsP n l) x = outOf (cleanP l) x := by
  unfold rd_L1 nextsP
  rw [List.getD_eq_getElem?_getD, List.getElem?_map, List.getElem?_range (by omega)]
  simp only [Option.map_some, Option.getD_some]
  rw [Int.toNat_of_nonneg h0]
theorem mem_nextsP {n : Nat} {l : List S27} {x y : Int} (h0 : 0 ≤ x) (h1 : x < (n : Int)) : y ∈ rd_L1 (nextsP n l) x ↔ Ed l x y := by
  rw [rd_nextsP h0 h1, mem_outOf]
  unfold Ed
  exact mem_cleanP _ _
theorem w64 {n : Int} (h : -9223372036854775808 ≤ n ∧ n ≤ 9223372036854775807) : wrap64 n = n := by unfold wrap64; omega
theorem rd27_get {l : List S27} {i : Nat} (h : i < l.length) : rd_T27 l (i : Int) = l[i] := by
  unfold rd_T27
  rw [Int.toNat_natCast, List.getD_eq_getElem?_getD, List.getElem?_eq_getElem h]; rfl
/-- The rows so far. -/
def rowsTo (n : Nat) (c : List S27) : List (List Int) := (List.range n).map fun x : Nat => outOf c (x : Int)
theorem rowsTo_len (n : Nat) (c : List S27) : (rowsTo n c).length = n := by simp [rowsTo]
theorem rd_rowsTo {n : Nat} {c : List S27} {x : Int} (h0 : 0 ≤ x) (h1 : x < (n : Int)) : rd_L1 (rowsTo n c) x = outOf c x := by
  unfold rd_L1 rowsTo
  rw [List.getD_eq_getElem?_getD, List.getElem?_map, List.getElem?_range (by omega)]
  simp only [Option.map_some, Option.getD_some]
  rw [Int.toNat_of_nonneg h0]
theorem outOf_len (c : List S27) (x : Int) : (outOf c x).length ≤ c.length := by
  unfold outOf; rw [List.length_map]; exact List.length_filter_le _ _
theorem rowsTo_snoc {n : Nat} {c : List S27} {e : S27} (h0 : 0 ≤ e.f0) (h1 : e.f0 < (n : Int)) : (rowsTo n c).set e.f0.toNat (rd_L1 (rowsTo n c) e.f0 ++ [e.f1]) = rowsTo n (c ++ [e]) := by
  rw [rd_rowsTo h0 h1]
  apply List.ext_getElem
  · simp [rowsTo]
  · intro i hi hj
    simp only [rowsTo, List.length_set, List.length_map, List.length_range] at hi hj
    rw [List.getElem_set]
    simp only [rowsTo, List.getElem_map, List.getElem_range]
    split
    · rename_i k
      subst k
      rw [Int.toNat_of_nonneg h0]
      simp [outOf]
    · rename_i k
      have : ¬ e.f0 = (i : Int) := by omega
      simp [outOf, this]
theorem nexts_l0 {n : Nat} {c : List S27} (hc : ∀ x ∈ c, 0 ≤ x.f0 ∧ x.f0 < (n : Int)) (hl : c.length ≤ 8796093022208) : ∀ m i k, c.length = i + m → m + 1 ≤ k → graph_nexts.l0 k (rowsTo n (c.take i)) c (c.length : Int) (i : Int) = some (rowsTo n c, true)
  | 0, i, k, he, hk => by
    obtain ⟨k, rfl⟩ : ∃ k', k = k' + 1 := ⟨k - 1, by omega⟩
    rw [graph_nexts.l0, if_neg (by omega), List.take_of_length_le (by omega)]
  | m + 1, i, k, he, hk => by
    obtain ⟨k, rfl⟩ : ∃ k', k = k' + 1 := ⟨k - 1, by omega⟩
    have hi : i < c.length := by omega
    have hm := hc _ (List.getElem_mem hi)
    rw [graph_nexts.l0, if_pos (by omega), if_pos (by omega), if_pos (by omega), rd27_get hi, if_pos hm.1, rowsTo_len, if_pos hm.2]
    rw [if_pos (by rw [rd_rowsTo hm.1 hm.2]; have := outOf_len (c.take i) c[i].f0; have := List.length_take_le i c; simp only [List.length_take] at *; omega)]
    rw [rowsTo_snoc hm.1 hm.2, w64 (by omega), ← List.take_succ_eq_append_getElem hi]
    exact nexts_l0 hc hl m (i + 1) k (by omega) (by omega)
theorem nexts_ok {n : Int} {l : List S27} (h : OkE n l) {k : Nat} (hk : l.length + 1 ≤ k) : graph_nexts.f k n l = some (nextsP n.toNat l, true) := by
  unfold graph_nexts.f
  rw [Clean_ok h]
  have h0 := h.n0; have h1 := h.n1
  have hl := cleanP_len l
  have hl2 := h.len
  simp only [Option.bind_some]
  rw [if_pos trivial, if_pos h0, if_pos (by omega)]
  have := nexts_l0 (n := n.toNat) (c := cleanP l) (fun x hx => by have := h.mem x ((mem_cleanP l x).1 hx); omega) (by omega) (cleanP l).length 0 k (by omega) (by omega)
  have e : rowsTo n.toNat ((cleanP l).take 0) = List.replicate n.toNat [] := by
    apply List.ext_getElem
    · simp [rowsTo]
    · intro i hi hj; simp [rowsTo, outOf]
  rw [e] at this
  exact this
theorem nexts_bad {n : Int} {l : List S27} (hl : l.length ≤ 8796093022208) (h : ¬ OkE n l) (k : Nat) : graph_nexts.f k n l = some ([], false) := by
  unfold graph_nexts.f
  rw [Clean_bad hl h]
  simp
end Go.Proofs.Ytngmdccheaidkaa.Pr
end
section
/- Plain laws: graph.reached, graph.Reach. -/
namespace Go.Proofs.Ytngmdccheaidkaa.Pr
open Go.RowKit Go.Proofs.YtngmdccheaidkaaW.PrintWords Go.Proofs.YtngmdccheaidkaaW.PrintLast Go.Proofs.YtngmdccheaidkaaW.PrintMore
theorem rdOf_set {α : Type} (d : α) (l : List α) (x y : Int) (v : α) (hx : 0 ≤ x) (hl : x < (l.length : Int)) (hy : 0 ≤ y) : rdOf d (l.set x.toNat v) y = if y = x then v else rdOf d l y := by
  unfold rdOf
  rw [List.getD_eq_getElem?_getD, List.getElem?_set, List.getD_eq_getElem?_getD]
  by_cases e : y = x
  · subst e
    rw [if_pos rfl, if_pos (by omega), if_pos rfl]; rfl
  · rw [if_neg (by omega), if_neg e]
theorem count_set_true {l : List Bool} {i : Nat} (h : i < l.length) (hf : l[i] = false) : (l.set i true).count false + 1 = l.count false := by
  rw [List.count_set h, hf]
  have : 0 < l.count false := List.count_pos_iff.2 (hf ▸ List.getElem_mem h)
  simp; omega
theorem rdOf_get {α : Type} {d : α} {l : List α} {x : Int} (h0 : 0 ≤ x) (h : x < (l.length : Int)) : rdOf d l x = l[x.toNat]'(by omega) := by
  unfold rdOf
  rw [List.getD_eq_getElem?_getD, List.getElem?_eq_getElem (by omega)]; rfl
theorem markP_ok {seen : List Bool} {todo : List Int} {x : Int} (h0 : 0 ≤ x) (h1 : x < (seen.length : Int)) (hl : todo.length ≤ 1000000) :
    ∃ s t, markP seen todo x = some (s, t) ∧ s.length = seen.length ∧ (∀ y, 0 ≤ y → (rdOf false s y = true ↔ rdOf false seen y = true ∨ y = x)) ∧
      (∀ y, y ∈ t ↔ y ∈ todo ∨ (y = x ∧ ¬ rdOf false seen y = true)) ∧ s.count false + t.length = seen.count false + todo.length := by
  unfold markP
  rw [if_pos ⟨h0, h1⟩]
  by_cases c : rdOf false seen x = true
  · rw [if_pos c]
    refine ⟨_, _, rfl, rfl, fun y hy => ?_, fun y => ?_, rfl⟩
    · constructor
      · exact .inl
      · rintro (h | rfl)
        · exact h
        · exact c
    · constructor
      · exact .inl
      · rintro (h | ⟨rfl, h⟩)
        · exact h
        · exact absurd c h
  · rw [if_neg c, if_pos hl]
    refine ⟨_, _, rfl, by simp, fun y hy => ?_, fun y => ?_, ?_⟩
    · rw [rdOf_set _ _ _ _ _ h0 h1 hy]
      split
      · rename_i e; simp [e]
      · rename_i e; simp [e]
    · rw [List.mem_append, List.mem_singleton]
      constructor
      · rintro (h | rfl)
        · exact .inl h
        · exact .inr ⟨rfl, c⟩
      · rintro (h | ⟨h, _⟩)
        · exact .inl h
        · exact .inr h
    · rw [rdOf_get h0 h1] at c
      have := count_set_true (l := seen) (i := x.toNat) (by omega) (by simpa using c)
      simp only [List.length_append, List.length_cons, List.length_nil]
      omega
theorem marksP_ok : ∀ {ys : List Int} {seen : List Bool} {todo : List Int}, (∀ y ∈ ys, 0 ≤ y ∧ y < (seen.length : Int)) → seen.count false + todo.length ≤ 1000000 →
    ∃ s t, marksP seen todo ys = some (s, t) ∧ s.length = seen.length ∧ (∀ y, 0 ≤ y → (rdOf false s y = true ↔ rdOf false seen y = true ∨ y ∈ ys)) ∧
      (∀ y, y ∈ t ↔ y ∈ todo ∨ (y ∈ ys ∧ ¬ rdOf false seen y = true)) ∧ s.count false + t.length = seen.count false + todo.length
  | [], seen, todo, _, _ => ⟨seen, todo, rfl, rfl, by simp, by simp, rfl⟩
  | x :: ys, seen, todo, hy, hl => by
    obtain ⟨s, t, e, h1, h2, h3, h4⟩ := markP_ok (seen := seen) (todo := todo) (x := x) (hy x (by simp)).1 (hy x (by simp)).2 (by omega)
    obtain ⟨s', t', e', k1, k2, k3, k4⟩ := marksP_ok (ys := ys) (seen := s) (todo := t) (fun y h => by rw [h1]; exact hy y (by simp [h])) (by omega)
    refine ⟨s', t', ?_, by omega, fun y h => ?_, fun y => ?_, by omega⟩
    · rw [marksP, e]; exact e'
    · rw [k2 y h, h2 y h, List.mem_cons, or_assoc]
    · rw [k3, h3, List.mem_cons]
      constructor
      · rintro ((h | ⟨rfl, h⟩) | ⟨h, hn⟩)
        · exact .inl h
        · exact .inr ⟨.inl rfl, h⟩
        · refine .inr ⟨.inr h, fun c => hn ((h2 y (hy y (by simp [h])).1).2 (.inl c))⟩
      · rintro (h | ⟨rfl | h, hn⟩)
        · exact .inl (.inl h)
        · exact .inl (.inr ⟨rfl, hn⟩)
        · by_cases e : y = x
          · exact .inl (.inr ⟨e, hn⟩)
          · exact .inr ⟨h, fun c => by
              rcases (h2 y (hy y (by simp [h])).1).1 c with c | c
              · exact hn c
              · exact e c⟩
theorem reachO_ok {nx : List (List Int)} {n : Nat} (hn : nx.length = n) (hn2 : n ≤ 1000000) {R : Int → Int → Prop} (hR : ∀ x y, 0 ≤ x → x < (n : Int) → (y ∈ rd_L1 nx x ↔ R x y)) (hin : ∀ x y, R x y → 0 ≤ y ∧ y < (n : Int)) (a : Int) :
    ∀ k (seen : List Bool) (todo : List Int), seen.length = n → (∀ x ∈ todo, 0 ≤ x ∧ x < (n : Int) ∧ rdOf false seen x = true) → (∀ x, 0 ≤ x → x < (n : Int) → rdOf false seen x = true → Rt R a x) →
      (∀ x, 0 ≤ x → x < (n : Int) → rdOf false seen x = true → x ∉ todo → ∀ y, R x y → rdOf false seen y = true) → (0 ≤ a ∧ a < (n : Int) ∧ rdOf false seen a = true) → seen.count false + todo.length ≤ 1000000 → seen.count false + todo.length + 1 ≤ k →
      ∃ r, reachO k nx seen todo = some r ∧ r.length = n ∧ ∀ x, 0 ≤ x → x < (n : Int) → (rdOf false r x = true ↔ Rt R a x)
  | 0, _, _, _, _, _, _, _, _, h => by omega
  | k + 1, seen, todo, hs, ht, hr, hc, ha, hl, hk => by
    rw [reachO]
    rcases List.eq_nil_or_concat todo with rfl | ⟨t, x, rfl⟩
    · refine ⟨seen, rfl, hs, fun x h0 h1 => ⟨hr x h0 h1, fun hx => ?_⟩⟩
      refine (hx.closed (P := fun z => 0 ≤ z ∧ z < (n : Int) ∧ rdOf false seen z = true) (fun u v hu huv => ?_) ha).2.2
      exact ⟨(hin u v huv).1, (hin u v huv).2, hc u hu.1 hu.2.1 hu.2.2 (by simp) v huv⟩
    · rw [List.concat_eq_append] at *
      obtain ⟨x0, x1, xs⟩ := ht x (by simp)
      have q1 : (t ++ [x]).getLast? = some x := by simp
      have q2 : (t ++ [x]).dropLast = t := by simp
      rw [q1, q2]
      show ∃ r, (if 0 ≤ x ∧ x < (nx.length : Int) then _ else none) = some r ∧ _
      rw [if_pos ⟨x0, by omega⟩]
      have hys : ∀ y ∈ rd_L1 nx x, 0 ≤ y ∧ y < (seen.length : Int) := fun y hy => by
        rw [hs]; exact hin x y ((hR x y x0 x1).1 hy)
      simp only [List.length_append, List.length_cons, List.length_nil] at hl hk
      obtain ⟨s, t', e, k1, k2, k3, k4⟩ := marksP_ok (ys := rd_L1 nx x) (seen := seen) (todo := t) hys (by omega)
      rw [e, Option.bind_some]
      refine reachO_ok hn hn2 hR hin a k s t' (by omega) (fun y hy => ?_) (fun y h0 h1 hy => ?_) (fun y h0 h1 hy hnt z hz => ?_) ⟨ha.1, ha.2.1, (k2 a ha.1).2 (.inl ha.2.2)⟩ (by omega) (by omega)
      · rcases (k3 y).1 hy with h | ⟨h, _⟩
        · have := ht y (by simp [h])
          exact ⟨this.1, this.2.1, (k2 y this.1).2 (.inl this.2.2)⟩
        · have := hys y h
          exact ⟨this.1, by omega, (k2 y this.1).2 (.inr h)⟩
      · rcases (k2 y h0).1 hy with h | h
        · exact hr y h0 h1 h
        · exact (hr x x0 x1 xs).step ((hR x y x0 x1).1 h)
      · have hz0 := (hin y z hz).1
        by_cases c : rdOf false seen y = true
        · by_cases e2 : y = x
          · subst e2
            exact (k2 z hz0).2 (.inr ((hR y z h0 h1).2 hz))
          · refine (k2 z hz0).2 (.inl (hc y h0 h1 c (fun h => ?_) z hz))
            rcases List.mem_append.1 h with h | h
            · exact hnt ((k3 y).2 (.inl h))
            · exact e2 (by simpa using h)
        · rcases (k2 y h0).1 hy with h | h
          · exact absurd h c
          · exact absurd ((k3 y).2 (.inr ⟨h, c⟩)) hnt
open Classical in
/-- What is reached from a. -/
noncomputable def reachP (n : Nat) (R : Int → Int → Prop) (a : Int) : List Bool := (List.range n).map fun i : Nat => decide (Rt R a (i : Int))
theorem reachP_len (n R a) : (reachP n R a).length = n := by simp [reachP]
theorem rd_reachP {n : Nat} {R a} {x : Int} (h0 : 0 ≤ x) (h1 : x < (n : Int)) : rdOf false (reachP n R a) x = true ↔ Rt R a x := by
  rw [rdOf_get h0 (by rw [reachP_len]; exact h1)]
  simp only [reachP, List.getElem_map, List.getElem_range, decide_eq_true_eq]
  rw [Int.toNat_of_nonneg h0]
theorem reachP_is {n : Nat} {R a} {r : List Bool} (hl : r.length = n) (h : ∀ x : Int, 0 ≤ x → x < (n : Int) → (rdOf false r x = true ↔ Rt R a x)) : r = reachP n R a := by
  apply List.ext_getElem
  · rw [hl, reachP_len]
  · intro i hi hj
    have h1 := h (i : Int) (by omega) (by omega)
    rw [← rd_reachP (n := n) (by omega) (by omega), rdOf_get (by omega) (by omega), rdOf_get (by omega) (by rw [reachP_len]; omega)] at h1
    simp only [Int.toNat_natCast] at h1
    rcases h2 : r[i] with _ | _ <;> rcases h3 : (reachP n R a)[i] with _ | _
    · rfl
    · simp [h2, h3] at h1
    · simp [h2, h3] at h1
    · rfl
theorem reached_ok {nx : List (List Int)} {n : Nat} (hn : nx.length = n) (hn2 : n ≤ 1000000) {R : Int → Int → Prop} (hR : ∀ x y, 0 ≤ x → x < (n : Int) → (y ∈ rd_L1 nx x ↔ R x y)) (hin : ∀ x y, R x y → 0 ≤ y ∧ y < (n : Int)) {a : Int} (h0 : 0 ≤ a) (h1 : a < (n : Int)) :
    graph_reached.f nx a = some (reachP n R a) := by
  unfold graph_reached.f
  rw [if_pos (by omega)]
  have hz : ∀ y : Int, rdOf false (List.replicate nx.length false) y = false := fun y => by
    unfold rdOf
    rw [List.getD_eq_getElem?_getD, List.getElem?_replicate]
    split <;> rfl
  obtain ⟨s, t, e, k1, k2, k3, k4⟩ := markP_ok (seen := List.replicate nx.length false) (todo := []) (x := a) h0 (by simpa [hn] using h1) (by simp)
  rw [e, Option.bind_some]
  simp only [List.length_replicate, List.count_replicate_self, List.length_nil] at k1 k4
  have ka : ∀ y, 0 ≤ y → (rdOf false s y = true ↔ y = a) := fun y hy => by rw [k2 y hy, hz]; simp
  have kt : ∀ y, y ∈ t ↔ y = a := fun y => by rw [k3, hz]; simp
  obtain ⟨r, e1, e2, e3⟩ := reachO_ok hn hn2 hR hin a (nx.length + 2) s t (by omega) (fun x hx => by
      have := (kt x).1 hx; subst this; exact ⟨h0, h1, (ka x h0).2 rfl⟩) (fun x x0 x1 hx => by rw [(ka x x0).1 hx]; exact Rt.refl _)
    (fun x x0 x1 hx hnt => absurd ((kt x).2 ((ka x x0).1 hx)) hnt) ⟨h0, h1, (ka a h0).2 rfl⟩ (by omega) (by omega)
  rw [e1, reachP_is e2 e3]
theorem Reach_ok {n : Int} {l : List S27} (h : OkE n l) {a : Int} (h0 : 0 ≤ a) (h1 : a < n) {k : Nat} (hk : l.length + 1 ≤ k) : graph_Reach.f k n l a = some (reachP n.toNat (Ed l) a) := by
  unfold graph_Reach.f
  rw [nexts_ok h hk]
  have hn0 := h.n0
  have hn1 := h.n1
  simp only [Option.bind_some, if_pos]
  rw [if_neg (by omega), if_neg (by omega), reached_ok (n := n.toNat) (by simp [nextsP]) (by omega) (fun x y x0 x1 => mem_nextsP x0 x1) (fun x y hxy => by have := h.edge hxy; omega) h0 (by omega)]
  rfl
end Go.Proofs.Ytngmdccheaidkaa.Pr
end
section
/- Plain laws: graph.Parts. -/
namespace Go.Proofs.Ytngmdccheaidkaa.Pr
open Go.RowKit Go.Proofs.YtngmdccheaidkaaW.PrintWords Go.Proofs.YtngmdccheaidkaaW.PrintLast Go.Proofs.YtngmdccheaidkaaW.PrintMore
/-- What is reached from each node. -/
noncomputable def tosP (n : Nat) (R : Int → Int → Prop) : List (List Bool) := (List.range n).map fun x : Nat => reachP n R (x : Int)
theorem tosP_len (n R) : (tosP n R).length = n := by simp [tosP]
theorem tosP_get {n : Nat} {R} {i : Nat} (h : i < n) : (tosP n R)[i]'(by rw [tosP_len]; exact h) = reachP n R (i : Int) := by simp [tosP]
theorem toAt_tosP {n : Nat} {R} {x y : Nat} (hx : x < n) (hy : y < n) : toAt (tosP n R) x y = true ↔ Rt R (x : Int) (y : Int) := by
  unfold toAt bAt
  rw [List.getD_eq_getElem?_getD (l := tosP n R), List.getElem?_eq_getElem (by rw [tosP_len]; exact hx), Option.getD_some, tosP_get hx]
  exact rd_reachP (n := n) (R := R) (a := (x : Int)) (x := (y : Int)) (by omega) (by omega)
theorem tosO_ok {n : Nat} {R} {nx : List (List Int)} (h : ∀ a : Int, 0 ≤ a → a < (n : Int) → graph_reached.f nx a = some (reachP n R a)) : ∀ k x, x + k = n → tosO nx k ((tosP n R).take x) x = some (tosP n R)
  | 0, x, e => by
    rw [tosO, List.take_of_length_le (by rw [tosP_len]; omega)]
  | k + 1, x, e => by
    rw [tosO, h (x : Int) (by omega) (by omega), Option.bind_some, ← tosP_get (n := n) (R := R) (i := x) (by omega), ← List.take_succ_eq_append_getElem]
    exact tosO_ok h k (x + 1) (by omega)
theorem bAt_set {l : List Bool} {i j : Nat} (h : i < l.length) : bAt (l.set i true) j = true ↔ bAt l j = true ∨ j = i := by
  unfold bAt
  rw [List.getD_eq_getElem?_getD, List.getElem?_set, List.getD_eq_getElem?_getD]
  by_cases e : j = i
  · subst e; simp [h]
  · rw [if_neg (fun k => e k.symm)]; simp [e]
theorem bAt_get {l : List Bool} {i : Nat} (h : i < l.length) : bAt l i = l[i] := by
  unfold bAt; rw [List.getD_eq_getElem?_getD, List.getElem?_eq_getElem h]; rfl
section
variable {n : Nat} {R : Int → Int → Prop}
theorem withP_iff {x y : Nat} (hx : x < n) (hy : y < n) : withP (tosP n R) x y = true ↔ Rt R (x : Int) y ∧ Rt R (y : Int) x := by
  unfold withP
  rw [Bool.and_eq_true, toAt_tosP hx hy, toAt_tosP hy hx]
theorem badP_iff {done : List Bool} {x y : Nat} (hx : x < n) (hy : y < n) : badP (tosP n R) done x y = true ↔ Rt R (x : Int) y ∧ ¬ Rt R (y : Int) x ∧ ¬ bAt done y = true := by
  unfold badP
  rw [Bool.and_eq_true, Bool.and_eq_true, toAt_tosP hx hy, Bool.not_eq_true', Bool.not_eq_true', ← toAt_tosP hy hx, Bool.not_eq_true, Bool.not_eq_true, and_assoc]
theorem readyP_iff {done : List Bool} {x : Nat} (hx : x < n) : readyP (tosP n R) done n x = true ↔ ¬ bAt done x = true ∧ ∀ y : Nat, y < n → Rt R (x : Int) y → Rt R (y : Int) x ∨ bAt done y = true := by
  unfold readyP
  rw [Bool.and_eq_true, List.all_eq_true, Bool.not_eq_true', ← Bool.not_eq_true]
  constructor
  · rintro ⟨h, k⟩
    refine ⟨k, fun y hy hr => ?_⟩
    have := h y (List.mem_range.2 hy)
    rw [Bool.not_eq_true', ← Bool.not_eq_true, badP_iff hx hy] at this
    exact Classical.byContradiction fun c => this ⟨hr, fun q => c (.inl q), fun q => c (.inr q)⟩
  · rintro ⟨k, h⟩
    refine ⟨fun y hy => ?_, k⟩
    rw [List.mem_range] at hy
    rw [Bool.not_eq_true', ← Bool.not_eq_true, badP_iff hx hy]
    rintro ⟨h1, h2, h3⟩
    rcases h y hy h1 with c | c
    · exact h2 c
    · exact h3 c
theorem firstReady_some {tos : List (List Bool)} {done : List Bool} {n : Nat} : ∀ {k x r}, firstReady tos done n k x = some r → x ≤ r ∧ r < x + k ∧ readyP tos done n r = true ∧ ∀ y, x ≤ y → y < r → ¬ readyP tos done n y = true
  | 0, x, r, h => by simp [firstReady] at h
  | k + 1, x, r, h => by
    rw [firstReady] at h
    by_cases c : readyP tos done n x = true
    · rw [if_pos c] at h
      cases h
      exact ⟨Nat.le_refl _, by omega, c, fun y h1 h2 => by omega⟩
    · rw [if_neg c] at h
      obtain ⟨h1, h2, h3, h4⟩ := firstReady_some h
      refine ⟨by omega, by omega, h3, fun y k1 k2 => ?_⟩
      by_cases e : y = x
      · subst e; exact c
      · exact h4 y (by omega) k2
theorem firstReady_none {tos : List (List Bool)} {done : List Bool} {n : Nat} : ∀ {k x}, firstReady tos done n k x = none ↔ ∀ y, x ≤ y → y < x + k → ¬ readyP tos done n y = true
  | 0, x => by simp [firstReady]; intro y h1 h2; omega
  | k + 1, x => by
    rw [firstReady]
    by_cases c : readyP tos done n x = true
    · rw [if_pos c]
      constructor
      · intro h; cases h
      · intro h; exact absurd c (h x (Nat.le_refl _) (by omega))
    · rw [if_neg c, firstReady_none]
      constructor
      · intro h y h1 h2
        by_cases e : y = x
        · subst e; exact c
        · exact h y (by omega) (by omega)
      · intro h y h1 h2; exact h y (by omega) (by omega)
/-- Where a node is not done, one is ready. -/
theorem ready_some {done : List Bool} {x : Nat} (hx : x < n) (hd : ¬ bAt done x = true) : ∃ y, y < n ∧ readyP (tosP n R) done n y = true := by
  classical
  suffices ∀ m (x : Nat), x < n → ¬ bAt done x = true → ((List.range n).filter fun y : Nat => decide (Rt R (x : Int) y) && !bAt done y).length ≤ m → ∃ y, y < n ∧ readyP (tosP n R) done n y = true from this _ x hx hd (Nat.le_refl _)
  intro m
  induction m with
  | zero =>
    intro x hx hd hm
    have : x ∈ (List.range n).filter fun y : Nat => decide (Rt R (x : Int) y) && !bAt done y := by
      rw [List.mem_filter, List.mem_range]
      exact ⟨hx, by simp [Rt.refl, hd]⟩
    have := List.length_pos_of_mem this
    omega
  | succ m ih =>
    intro x hx hd hm
    by_cases c : readyP (tosP n R) done n x = true
    · exact ⟨x, hx, c⟩
    · rw [readyP_iff hx] at c
      have : ∃ y : Nat, y < n ∧ Rt R (x : Int) y ∧ ¬ Rt R (y : Int) x ∧ ¬ bAt done y = true := by
        refine Classical.byContradiction fun q => c ⟨hd, fun y hy hr => ?_⟩
        refine Classical.byContradiction fun q2 => q ⟨y, hy, hr, fun q3 => q2 (.inl q3), fun q3 => q2 (.inr q3)⟩
      obtain ⟨y, hy, h1, h2, h3⟩ := this
      refine ih y hy h3 ?_
      have := sub_len (l := x :: (List.range n).filter fun z : Nat => decide (Rt R (y : Int) z) && !bAt done z) (m := (List.range n).filter fun z : Nat => decide (Rt R (x : Int) z) && !bAt done z) (by
        rw [List.nodup_cons]
        refine ⟨fun q => ?_, (List.nodup_range).filter _⟩
        rw [List.mem_filter] at q
        simp [h2] at q) (fun z hz => by
        rw [List.mem_filter]
        rcases List.mem_cons.1 hz with rfl | hz
        · exact ⟨List.mem_range.2 hx, by simp [Rt.refl, hd]⟩
        · rw [List.mem_filter] at hz
          refine ⟨hz.1, ?_⟩
          have := hz.2
          simp only [Bool.and_eq_true, decide_eq_true_eq] at this ⊢
          exact ⟨h1.trans this.1, this.2⟩)
      simp only [List.length_cons] at this
      omega
theorem partTo_ok {done : List Bool} {x : Nat} (hx : x < n) (hl : done.length = n) (hun : ∀ y : Nat, y < n → withP (tosP n R) x y = true → ¬ bAt done y = true) : ∀ i, i ≤ n →
    (partTo (tosP n R) x done i).2.length = n ∧ (∀ y : Nat, bAt (partTo (tosP n R) x done i).2 y = true ↔ bAt done y = true ∨ (y < i ∧ withP (tosP n R) x y = true)) ∧
    (partTo (tosP n R) x done i).2.count false + (partTo (tosP n R) x done i).1.length = done.count false ∧
    (∀ z, z ∈ (partTo (tosP n R) x done i).1 ↔ ∃ y : Nat, y < i ∧ (y : Int) = z ∧ withP (tosP n R) x y = true) ∧ (partTo (tosP n R) x done i).1.Pairwise (· < ·)
  | 0, _ => ⟨hl, by simp [partTo], by simp [partTo], by simp [partTo], by simp [partTo]⟩
  | i + 1, hi => by
    obtain ⟨h1, h2, h3, h4, h5⟩ := partTo_ok hx hl hun i (by omega)
    rw [partTo]
    by_cases c : withP (tosP n R) x i = true
    · rw [if_pos c]
      have hb : ¬ bAt (partTo (tosP n R) x done i).2 i = true := fun q => by
        rcases (h2 i).1 q with q | q
        · exact hun i (by omega) c q
        · omega
      refine ⟨by simp [h1], fun y => ?_, ?_, fun z => ?_, ?_⟩
      · rw [bAt_set (by omega), h2]
        constructor
        · rintro ((q | ⟨q, q2⟩) | rfl)
          · exact .inl q
          · exact .inr ⟨by omega, q2⟩
          · exact .inr ⟨by omega, c⟩
        · rintro (q | ⟨q, q2⟩)
          · exact .inl (.inl q)
          · by_cases e : y = i
            · exact .inr e
            · exact .inl (.inr ⟨by omega, q2⟩)
      · rw [bAt_get (by omega)] at hb
        have := count_set_true (l := (partTo (tosP n R) x done i).2) (i := i) (by omega) (by simpa using hb)
        simp only [List.length_append, List.length_cons, List.length_nil]
        omega
      · rw [List.mem_append, h4, List.mem_singleton]
        constructor
        · rintro (⟨y, q, q2, q3⟩ | rfl)
          · exact ⟨y, by omega, q2, q3⟩
          · exact ⟨i, by omega, rfl, c⟩
        · rintro ⟨y, q, q2, q3⟩
          by_cases e : y = i
          · subst e; exact .inr q2.symm
          · exact .inl ⟨y, by omega, q2, q3⟩
      · rw [List.pairwise_append]
        refine ⟨h5, by simp, fun a ha b hb => ?_⟩
        rw [List.mem_singleton] at hb
        obtain ⟨y, q, q2, _⟩ := (h4 a).1 ha
        omega
    · rw [if_neg c]
      refine ⟨h1, fun y => ?_, h3, fun z => ?_, h5⟩
      · rw [h2]
        constructor
        · rintro (q | ⟨q, q2⟩)
          · exact .inl q
          · exact .inr ⟨by omega, q2⟩
        · rintro (q | ⟨q, q2⟩)
          · exact .inl q
          · by_cases e : y = i
            · subst e; exact absurd q2 c
            · exact .inr ⟨by omega, q2⟩
      · rw [h4]
        constructor
        · rintro ⟨y, q, q2, q3⟩; exact ⟨y, by omega, q2, q3⟩
        · rintro ⟨y, q, q2, q3⟩
          by_cases e : y = i
          · subst e; exact absurd q3 c
          · exact ⟨y, by omega, q2, q3⟩
/-- The parts so far. -/
structure PS (n : Nat) (R : Int → Int → Prop) (done : List Bool) (out : List (List Int)) (left : Int) : Prop where
  len : done.length = n
  clo : ∀ x y : Nat, x < n → y < n → bAt done x = true → Rt R (x : Int) y → bAt done y = true
  lft : left = (done.count false : Int)
  sum : ((out.map List.length).sum : Int) + left = (n : Int)
  mem : ∀ x : Nat, x < n → (bAt done x = true ↔ ∃ p ∈ out, (x : Int) ∈ p)
  part : ∀ p ∈ out, p.Pairwise (· < ·) ∧ p ≠ [] ∧ (∀ x ∈ p, 0 ≤ x ∧ x < (n : Int)) ∧ ∀ x ∈ p, ∀ y : Int, 0 ≤ y → y < (n : Int) → (y ∈ p ↔ Rt R x y ∧ Rt R y x)
  ord : ∀ (i j : Nat) (p q : List Int), out[i]? = some p → out[j]? = some q → ∀ x ∈ p, ∀ y ∈ q, Rt R x y → j ≤ i
theorem PS.none {done out left} (h : PS n R done out left) : left = 0 ↔ ∀ x : Nat, x < n → bAt done x = true := by
  rw [h.lft]
  constructor
  · intro h0 x hx
    have h1 : done.count false = 0 := by omega
    rw [List.count_eq_zero] at h1
    rw [bAt_get (by rw [h.len]; exact hx)]
    rcases hd : done[x]'(by rw [h.len]; exact hx) with _ | _
    · exact absurd (hd ▸ List.getElem_mem _) h1
    · rfl
  · intro hx
    have : done.count false = 0 := by
      rw [List.count_eq_zero]
      intro hm
      obtain ⟨i, hi, e⟩ := List.getElem_of_mem hm
      have := hx i (by rw [← h.len]; exact hi)
      rw [bAt_get hi, e] at this
      cases this
    omega
theorem PS.stop {done out} (h : PS n R done out 0) : firstReady (tosP n R) done n n 0 = Option.none := by
  rw [firstReady_none]
  intro y _ hy c
  exact ((readyP_iff (by omega)).1 c).1 (h.none.1 rfl y (by omega))
theorem PS.go {done out left} (h : PS n R done out left) (hl : left ≠ 0) : ∃ x, firstReady (tosP n R) done n n 0 = some x ∧ x < n ∧ readyP (tosP n R) done n x = true ∧ (∀ y, y < x → ¬ readyP (tosP n R) done n y = true) ∧
    PS n R (partTo (tosP n R) x done n).2 (out ++ [(partTo (tosP n R) x done n).1]) (left - ((partTo (tosP n R) x done n).1.length : Int)) ∧ (x : Int) ∈ (partTo (tosP n R) x done n).1 := by
  have hex : ∃ x, x < n ∧ ¬ bAt done x = true := Classical.byContradiction fun c => hl (h.none.2 fun x hx => Classical.byContradiction fun q => c ⟨x, hx, q⟩)
  obtain ⟨x0, hx0, hd0⟩ := hex
  obtain ⟨y0, hy0, hr0⟩ := ready_some (R := R) hx0 hd0
  rcases hf : firstReady (tosP n R) done n n 0 with _ | x
  · exact absurd hr0 ((firstReady_none.1 hf) y0 (Nat.zero_le _) (by omega))
  obtain ⟨_, hx, hr, hmin⟩ := firstReady_some hf
  rw [Nat.zero_add] at hx
  obtain ⟨hnd, hrd⟩ := (readyP_iff hx).1 hr
  have hun : ∀ y : Nat, y < n → withP (tosP n R) x y = true → ¬ bAt done y = true := fun y hy hw hd => hnd (h.clo y x hy hx hd ((withP_iff hx hy).1 hw).2)
  obtain ⟨h1, h2, h3, h4, h5⟩ := partTo_ok hx h.len hun n (Nat.le_refl _)
  have hxm : (x : Int) ∈ (partTo (tosP n R) x done n).1 := (h4 _).2 ⟨x, hx, rfl, (withP_iff hx hx).2 ⟨Rt.refl _, Rt.refl _⟩⟩
  have h4' : ∀ z : Int, z ∈ (partTo (tosP n R) x done n).1 ↔ (0 ≤ z ∧ z < (n : Int)) ∧ Rt R (x : Int) z ∧ Rt R z (x : Int) := fun z => by
    rw [h4]
    constructor
    · rintro ⟨y, hy, rfl, hw⟩
      exact ⟨⟨by omega, by omega⟩, (withP_iff hx hy).1 hw⟩
    · rintro ⟨⟨z0, z1⟩, hw⟩
      refine ⟨z.toNat, by omega, by omega, (withP_iff hx (by omega)).2 ?_⟩
      rw [Int.toNat_of_nonneg z0]; exact hw
  refine ⟨x, rfl, hx, hr, fun y hy => hmin y (Nat.zero_le _) hy, ⟨h1, ?_, ?_, ?_, ?_, ?_, ?_⟩, hxm⟩
  · intro u v hu hv hd hR
    rw [h2] at hd ⊢
    rcases hd with hd | ⟨_, hd⟩
    · exact .inl (h.clo u v hu hv hd hR)
    · have hw := (withP_iff hx hu).1 hd
      rcases hrd v hv (hw.1.trans hR) with q | q
      · exact .inr ⟨hv, (withP_iff hx hv).2 ⟨hw.1.trans hR, q⟩⟩
      · exact .inl q
  · have := h.lft; omega
  · have := h.sum
    rw [List.map_append, List.sum_append]
    simp only [List.map_cons, List.map_nil, List.sum_cons, List.sum_nil]
    omega
  · intro u hu
    rw [h2, h.mem u hu]
    constructor
    · rintro (⟨p, hp, hup⟩ | ⟨_, hw⟩)
      · exact ⟨p, by simp [hp], hup⟩
      · exact ⟨_, by simp, (h4 _).2 ⟨u, hu, rfl, hw⟩⟩
    · rintro ⟨p, hp, hup⟩
      rcases List.mem_append.1 hp with hp | hp
      · exact .inl ⟨p, hp, hup⟩
      · rw [List.mem_singleton] at hp
        subst hp
        obtain ⟨y, hy, e, hw⟩ := (h4 _).1 hup
        obtain rfl : y = u := by omega
        exact .inr ⟨hy, hw⟩
  · intro p hp
    rcases List.mem_append.1 hp with hp | hp
    · exact h.part p hp
    · rw [List.mem_singleton] at hp
      subst hp
      refine ⟨h5, List.ne_nil_of_mem hxm, fun z hz => ((h4' z).1 hz).1, fun z hz y y0 y1 => ?_⟩
      have hz := ((h4' z).1 hz).2
      rw [h4']
      exact ⟨fun q => ⟨hz.2.trans q.2.1, q.2.2.trans hz.1⟩, fun q => ⟨⟨y0, y1⟩, hz.1.trans q.1, q.2.trans hz.2⟩⟩
  · intro i j p q hp hq u hu v hv hR
    have hlen : ∀ (i : Nat) (p : List Int), (out ++ [(partTo (tosP n R) x done n).1])[i]? = some p → i < out.length ∧ out[i]? = some p ∨ i = out.length ∧ p = (partTo (tosP n R) x done n).1 := fun i p hp => by
      rcases Nat.lt_or_ge i out.length with c | c
      · rw [List.getElem?_append_left c] at hp; exact .inl ⟨c, hp⟩
      · rw [List.getElem?_append_right c] at hp
        have : i - out.length = 0 := by
          refine Classical.byContradiction fun q => ?_
          rw [List.getElem?_eq_none (by simp; omega)] at hp; cases hp
        rw [this] at hp
        exact .inr ⟨by omega, by simpa using hp.symm⟩
    rcases hlen i p hp with ⟨ci, hp⟩ | ⟨ci, hp⟩ <;> rcases hlen j q hq with ⟨cj, hq⟩ | ⟨cj, hq⟩
    · exact h.ord i j p q hp hq u hu v hv hR
    · exfalso
      subst hq
      have hv' := (h4' v).1 hv
      have hpm := List.mem_of_getElem? hp
      have hu' := (h.part p hpm).2.2.1 u hu
      have hdu : bAt done u.toNat = true := (h.mem u.toNat (by omega)).2 ⟨p, hpm, by rw [Int.toNat_of_nonneg hu'.1]; exact hu⟩
      refine hnd (h.clo u.toNat x (by omega) hx hdu ?_)
      rw [Int.toNat_of_nonneg hu'.1]
      exact hR.trans hv'.2.2
    · omega
    · omega
theorem partsO_ok : ∀ k done out left, PS n R done out left → left.toNat + 1 ≤ k → ∃ r done', partsO (tosP n R) n k done out left = some r ∧ PS n R done' r 0
  | 0, _, _, _, _, h => by omega
  | k + 1, done, out, left, h, hk => by
    rw [partsO]
    have hl := h.lft
    by_cases c : 0 < left
    · rw [if_pos c]
      obtain ⟨x, hf, hx, hr, hm, hps, hxm⟩ := h.go (by omega)
      rw [hf, Option.bind_some]
      have := List.length_pos_of_mem hxm
      have := hps.lft
      exact partsO_ok k _ _ _ hps (by omega)
    · rw [if_neg c]
      obtain rfl : left = 0 := by omega
      exact ⟨out, done, rfl, h⟩
theorem PS.start : PS n R (List.replicate n false) [] (n : Int) where
  len := by simp
  clo := fun x y hx hy hd _ => by rw [bAt_get (by simpa using hx)] at hd; simp at hd
  lft := by simp
  sum := by simp
  mem := fun x hx => by rw [bAt_get (by simpa using hx)]; simp
  part := fun p hp => by simp at hp
  ord := fun i j p q hp => by simp at hp
theorem Parts_is {n : Int} {l : List S27} (h : OkE n l) : graph_Parts.f n l = partsO (tosP n.toNat (Ed l)) n.toNat (n.toNat + 2) (List.replicate n.toNat false) [] n := by
  unfold graph_Parts.f
  have hn0 := h.n0
  have hn1 := h.n1
  rw [nexts_ok h (by omega)]
  simp only [Option.bind_some]
  rw [if_pos trivial, if_pos ⟨hn0, by omega⟩]
  have := tosO_ok (n := n.toNat) (R := Ed l) (nx := nextsP n.toNat l) (fun a h0 h1 => reached_ok (n := n.toNat) (by simp [nextsP]) (by omega) (fun x y x0 x1 => mem_nextsP x0 x1) (fun x y hxy => by have := h.edge hxy; omega) h0 (by omega)) n.toNat 0 (by omega)
  rw [List.take_zero] at this
  rw [this, Option.bind_some, if_pos]
  refine ⟨tosP_len _ _, List.all_eq_true.2 fun row hrow => ?_⟩
  obtain ⟨i, hi, rfl⟩ := List.getElem_of_mem hrow
  rw [tosP_len] at hi
  rw [tosP_get hi, reachP_len]
  simp
theorem Parts_ok {n : Int} {l : List S27} (h : OkE n l) : ∃ r done, graph_Parts.f n l = some r ∧ PS n.toNat (Ed l) done r 0 := by
  rw [Parts_is h]
  have hn0 := h.n0
  have hps := PS.start (n := n.toNat) (R := Ed l)
  rw [Int.toNat_of_nonneg hn0] at hps
  exact partsO_ok _ _ _ _ hps (by omega)
end
end Go.Proofs.Ytngmdccheaidkaa.Pr
end
section
/- Plain laws: one level of a search in breadth, and the search. -/
namespace Go.Proofs.Ytngmdccheaidkaa.Pr
open Go.RowKit Go.Proofs.YtngmdccheaidkaaW.PrintWords Go.Proofs.YtngmdccheaidkaaW.PrintLast Go.Proofs.YtngmdccheaidkaaW.PrintMore
/-- What a level has: who is ahead, what is seen, the next row. -/
abbrev St := List Int × List Bool × List Int
def visit (x : Int) (st : St) (y : Int) : St := if rdOf false st.2.1 y = true then st else (st.1.set y.toNat x, st.2.1.set y.toNat true, st.2.2 ++ [y])
def scan (nx : List (List Int)) (st : St) (x : Int) : St := (rd_L1 nx x).foldl (visit x) st
def pairsOf (nx : List (List Int)) (row : List Int) : List (Int × Int) := row.flatMap fun x => (rd_L1 nx x).map fun y => (x, y)
theorem scan_pairs (nx : List (List Int)) (row : List Int) (st : St) : row.foldl (scan nx) st = (pairsOf nx row).foldl (fun st p => visit p.1 st p.2) st := by
  unfold pairsOf
  rw [List.foldl_flatMap]
  congr 1
  funext st x
  rw [List.foldl_map]
  rfl
structure Sz (n : Nat) (st : St) : Prop where
  p : st.1.length = n
  s : st.2.1.length = n
  c : st.2.2.length + st.2.1.count false ≤ n
theorem visit_sz {n : Nat} {st : St} {x y : Int} (h : Sz n st) (h0 : 0 ≤ y) (h1 : y < (n : Int)) : Sz n (visit x st y) ∧ (visit x st y).2.2.length + (visit x st y).2.1.count false = st.2.2.length + st.2.1.count false := by
  unfold visit
  have hp := h.p; have hs := h.s; have hc := h.c
  by_cases c : rdOf false st.2.1 y = true
  · rw [if_pos c]; exact ⟨h, rfl⟩
  · rw [if_neg c]
    rw [rdOf_get h0 (by omega)] at c
    have := count_set_true (l := st.2.1) (i := y.toNat) (by omega) (by simpa using c)
    exact ⟨⟨by simp [hp], by simp [hs], by simp only [List.length_append, List.length_cons, List.length_nil]; omega⟩, by simp only [List.length_append, List.length_cons, List.length_nil]; omega⟩
theorem rd_set (l : List Int) (x y v : Int) (hx : 0 ≤ x) (hl : x < (l.length : Int)) (hy : 0 ≤ y) : rd (l.set x.toNat v) y = if y = x then v else rd l y := rdOf_set 0 l x y v hx hl hy
/-- A level, so far. -/
structure LI (n : Nat) (P : Int → List Int) (prev : List Int) (seen : List Bool) (ps : List (Int × Int)) (st : St) : Prop where
  sz : Sz n st
  cnt : st.2.2.length + st.2.1.count false = seen.count false
  se : ∀ y, 0 ≤ y → y < (n : Int) → (rdOf false st.2.1 y = true ↔ rdOf false seen y = true ∨ y ∈ st.2.2)
  nr : ∀ y, y ∈ st.2.2 ↔ (0 ≤ y ∧ y < (n : Int)) ∧ ¬ rdOf false seen y = true ∧ ∃ u, (u, y) ∈ ps
  via : ∀ y, y ∈ st.2.2 → (rd st.1 y, y) ∈ ps ∧ ∀ u, (u, y) ∈ ps → lexLE (P (rd st.1 y)) (P u)
  old : ∀ y, 0 ≤ y → y < (n : Int) → y ∉ st.2.2 → rd st.1 y = rd prev y
  ord : st.2.2.Pairwise fun y z => lexLT (P (rd st.1 y)) (P (rd st.1 z)) ∨ (rd st.1 y = rd st.1 z ∧ y < z)
theorem LI.start {n : Nat} {P prev seen} (h1 : prev.length = n) (h2 : seen.length = n) : LI n P prev seen [] (prev, seen, []) where
  sz := ⟨h1, h2, by have := List.count_le_length (a := false) (l := seen); simp only [List.length_nil]; omega⟩
  cnt := by simp
  se := by simp
  nr := by simp
  via := by simp
  old := by simp
  ord := by simp
theorem LI.go {n : Nat} {P prev seen ps st} (h : LI n P prev seen ps st) {x y : Int} (h0 : 0 ≤ y) (h1 : y < (n : Int)) (hb : ∀ q ∈ ps, lexLT (P q.1) (P x) ∨ (q.1 = x ∧ q.2 < y)) : LI n P prev seen (ps ++ [(x, y)]) (visit x st y) := by
  have hs := h.sz
  obtain ⟨hv, hcn⟩ := visit_sz (x := x) hs h0 h1
  rw [h.cnt] at hcn
  have hle : ∀ u z, (u, z) ∈ ps → lexLE (P u) (P x) := fun u z hu => by
    rcases hb _ hu with k | ⟨rfl, _⟩
    · exact k.1
    · exact lexLE.refl _
  by_cases c : rdOf false st.2.1 y = true
  · have e : visit x st y = st := by unfold visit; rw [if_pos c]
    rw [e] at hv hcn ⊢
    refine ⟨hs, hcn, h.se, fun z => ?_, fun z hz => ?_, h.old, h.ord⟩
    · rw [h.nr]
      constructor
      · rintro ⟨k1, k2, u, k3⟩; exact ⟨k1, k2, u, by simp [k3]⟩
      · rintro ⟨k1, k2, u, k3⟩
        refine ⟨k1, k2, ?_⟩
        rcases List.mem_append.1 k3 with k3 | k3
        · exact ⟨u, k3⟩
        · simp only [List.mem_singleton, Prod.mk.injEq] at k3
          obtain ⟨rfl, rfl⟩ := k3
          rcases (h.se _ h0 h1).1 c with q | q
          · exact absurd q k2
          · exact ((h.nr _).1 q).2.2
    · obtain ⟨k1, k2⟩ := h.via z hz
      refine ⟨by simp [k1], fun u hu => ?_⟩
      rcases List.mem_append.1 hu with hu | hu
      · exact k2 u hu
      · simp only [List.mem_singleton, Prod.mk.injEq] at hu
        obtain ⟨rfl, rfl⟩ := hu
        exact hle _ _ k1
  · have e : visit x st y = (st.1.set y.toNat x, st.2.1.set y.toNat true, st.2.2 ++ [y]) := by unfold visit; rw [if_neg c]
    rw [e] at hv hcn ⊢
    have hp := hs.p; have hss := hs.s
    have hny : y ∉ st.2.2 := fun q => c ((h.se y h0 h1).2 (.inr q))
    have hns : ¬ rdOf false seen y = true := fun q => c ((h.se y h0 h1).2 (.inl q))
    have hpr : ∀ z, 0 ≤ z → rd (st.1.set y.toNat x) z = if z = y then x else rd st.1 z := fun z hz => rd_set _ _ _ _ h0 (by omega) hz
    have hin : ∀ z ∈ st.2.2, 0 ≤ z ∧ z ≠ y ∧ rd (st.1.set y.toNat x) z = rd st.1 z := fun z hz => by
      have hz0 := ((h.nr z).1 hz).1
      have hne : z ≠ y := fun e => hny (e ▸ hz)
      exact ⟨hz0.1, hne, by rw [hpr z hz0.1, if_neg hne]⟩
    have hyy : rd (st.1.set y.toNat x) y = x := by rw [hpr y h0, if_pos rfl]
    refine ⟨hv, hcn, fun z z0 z1 => ?_, fun z => ?_, fun z hz => ?_, fun z z0 z1 hz => ?_, ?_⟩
    · show rdOf false (st.2.1.set y.toNat true) z = true ↔ _
      rw [rdOf_set _ _ _ _ _ h0 (by omega) z0]
      by_cases e2 : z = y
      · simp [e2]
      · rw [if_neg e2, h.se z z0 z1]; simp [e2]
    · show z ∈ st.2.2 ++ [y] ↔ _
      rw [List.mem_append, List.mem_singleton, h.nr]
      constructor
      · rintro (⟨k1, k2, u, k3⟩ | rfl)
        · exact ⟨k1, k2, u, by simp [k3]⟩
        · exact ⟨⟨h0, h1⟩, hns, x, by simp⟩
      · rintro ⟨k1, k2, u, k3⟩
        rcases List.mem_append.1 k3 with k3 | k3
        · exact .inl ⟨k1, k2, u, k3⟩
        · simp only [List.mem_singleton, Prod.mk.injEq] at k3
          exact .inr k3.2
    · show (rd (st.1.set y.toNat x) z, z) ∈ _ ∧ ∀ u, _ → lexLE (P (rd (st.1.set y.toNat x) z)) _
      rcases List.mem_append.1 hz with hz | hz
      · obtain ⟨_, hne, e2⟩ := hin z hz
        rw [e2]
        obtain ⟨k1, k2⟩ := h.via z hz
        refine ⟨by simp [k1], fun u hu => ?_⟩
        rcases List.mem_append.1 hu with hu | hu
        · exact k2 u hu
        · simp only [List.mem_singleton, Prod.mk.injEq] at hu
          exact absurd hu.2 hne
      · rw [List.mem_singleton] at hz
        subst hz
        rw [hyy]
        refine ⟨by simp, fun u hu => ?_⟩
        rcases List.mem_append.1 hu with hu | hu
        · exact absurd ((h.nr _).2 ⟨⟨h0, h1⟩, hns, u, hu⟩) hny
        · simp only [List.mem_singleton, Prod.mk.injEq] at hu
          rw [hu.1]; exact lexLE.refl _
    · have hne : z ≠ y := fun e2 => hz (by rw [e2]; exact List.mem_append_right _ (by simp))
      show rd (st.1.set y.toNat x) z = _
      rw [hpr z z0, if_neg hne]
      exact h.old z z0 z1 (fun q => hz (List.mem_append_left _ q))
    · show (st.2.2 ++ [y]).Pairwise fun a b => lexLT (P (rd (st.1.set y.toNat x) a)) (P (rd (st.1.set y.toNat x) b)) ∨ (rd (st.1.set y.toNat x) a = rd (st.1.set y.toNat x) b ∧ a < b)
      rw [List.pairwise_append]
      refine ⟨h.ord.imp_of_mem (fun {a b} ha hb k => ?_), by simp, fun a ha b hb' => ?_⟩
      · rw [(hin a ha).2.2, (hin b hb).2.2]; exact k
      · rw [List.mem_singleton] at hb'
        subst hb'
        rw [(hin a ha).2.2, hyy]
        exact hb _ (h.via a ha).1
theorem LI.all {n : Nat} {P prev seen} : ∀ {rest ps : List (Int × Int)} {st : St}, LI n P prev seen ps st → (∀ q ∈ rest, 0 ≤ q.2 ∧ q.2 < (n : Int)) → (ps ++ rest).Pairwise (fun q r => lexLT (P q.1) (P r.1) ∨ (q.1 = r.1 ∧ q.2 < r.2)) →
    LI n P prev seen (ps ++ rest) (rest.foldl (fun st p => visit p.1 st p.2) st)
  | [], ps, st, h, _, _ => by rw [List.append_nil]; exact h
  | q :: rest, ps, st, h, hr, hp => by
    have h1 := h.go (x := q.1) (y := q.2) (hr q (by simp)).1 (hr q (by simp)).2 (fun r hr' => (List.pairwise_append.1 hp).2.2 r hr' q (by simp))
    have := LI.all (rest := rest) h1 (fun r hr' => hr r (by simp [hr'])) (by simpa using hp)
    simpa using this
/-- Between two levels. -/
structure BI (n : Nat) (R : Int → Int → Prop) (a : Int) (prev : List Int) (seen : List Bool) (row : List Int) (P : Int → List Int) (d : Nat) : Prop where
  p : prev.length = n
  s : seen.length = n
  a0 : 0 ≤ a
  a1 : a < (n : Int)
  se : ∀ x, 0 ≤ x → x < (n : Int) → (rdOf false seen x = true ↔ ∃ q, Walk R a q x ∧ q.length ≤ d + 1)
  least : ∀ x, 0 ≤ x → x < (n : Int) → rdOf false seen x = true → Least R a (P x) x
  ro : ∀ x, x ∈ row ↔ (0 ≤ x ∧ x < (n : Int)) ∧ rdOf false seen x = true ∧ (P x).length = d + 1
  ord : row.Pairwise fun u v => lexLT (P u) (P v)
  prv : ∀ x, 0 ≤ x → x < (n : Int) → rdOf false seen x = true → x ≠ a → (0 ≤ rd prev x ∧ rd prev x < (n : Int)) ∧ rdOf false seen (rd prev x) = true ∧ P x = P (rd prev x) ++ [x]
section
variable {n : Nat} {R : Int → Int → Prop} {a : Int}
theorem BI.short {prev seen row P d} (h : BI n R a prev seen row P d) {x : Int} (h0 : 0 ≤ x) (h1 : x < (n : Int)) (hx : rdOf false seen x = true) : (P x).length ≤ d + 1 := by
  obtain ⟨q, hq, hl⟩ := (h.se x h0 h1).1 hx
  exact Nat.le_trans ((h.least x h0 h1 hx).1.2 q hq) hl
theorem BI.start (a0 : 0 ≤ a) (a1 : a < (n : Int)) : BI n R a (List.replicate n 0) ((List.replicate n false).set a.toNat true) [a] (fun x => [x]) 0 := by
  have hz : ∀ x : Int, 0 ≤ x → (rdOf false ((List.replicate n false).set a.toNat true) x = true ↔ x = a) := fun x hx => by
    rw [rdOf_set _ _ _ _ _ a0 (by simpa using a1) hx]
    split
    · rename_i e; simp [e]
    · rename_i e
      have : rdOf false (List.replicate n false) x = false := by
        unfold rdOf; rw [List.getD_eq_getElem?_getD, List.getElem?_replicate]; split <;> rfl
      simp [this, e]
  have hone : ∀ {q b}, Walk R a q b → q.length ≤ 1 → b = a ∧ q = [a] := fun {q b} h hl => by
    cases h with
    | one => exact ⟨rfl, rfl⟩
    | cons h t => have := t.pos; simp only [List.length_cons] at hl; omega
  refine ⟨by simp, by simp, a0, a1, fun x x0 x1 => ?_, fun x x0 x1 hx => ?_, fun x => ?_, by simp, fun x x0 x1 hx hne => ?_⟩
  · rw [hz x x0]
    constructor
    · rintro rfl; exact ⟨[x], .one x, by simp⟩
    · rintro ⟨q, hq, hl⟩; exact (hone hq hl).1
  · rw [hz x x0] at hx
    subst hx
    refine ⟨⟨.one x, fun q hq => hq.pos⟩, fun q hq => ?_⟩
    have := hq.2 _ (.one x)
    rw [(hone hq.1 this).2]
    exact lexLE.refl _
  · rw [List.mem_singleton]
    constructor
    · rintro rfl; exact ⟨⟨a0, a1⟩, (hz _ a0).2 rfl, rfl⟩
    · rintro ⟨⟨x0, _⟩, hx, _⟩; exact (hz x x0).1 hx
  · exact absurd ((hz x x0).1 hx) hne
theorem mem_pairsOf {nx : List (List Int)} {row : List Int} {u y : Int} : (u, y) ∈ pairsOf nx row ↔ u ∈ row ∧ y ∈ rd_L1 nx u := by
  unfold pairsOf
  rw [List.mem_flatMap]
  constructor
  · rintro ⟨x, hx, hm⟩
    obtain ⟨z, hz, e⟩ := List.mem_map.1 hm
    simp only [Prod.mk.injEq] at e
    obtain ⟨rfl, rfl⟩ := e
    exact ⟨hx, hz⟩
  · rintro ⟨hu, hy⟩
    exact ⟨u, hu, List.mem_map.2 ⟨y, hy, rfl⟩⟩
theorem pairsOf_sorted {nx : List (List Int)} {P : Int → List Int} : ∀ {row : List Int}, row.Pairwise (fun u v => lexLT (P u) (P v)) → (∀ x ∈ row, (rd_L1 nx x).Pairwise (· < ·)) → (pairsOf nx row).Pairwise (fun q r => lexLT (P q.1) (P r.1) ∨ (q.1 = r.1 ∧ q.2 < r.2))
  | [], _, _ => by simp [pairsOf]
  | x :: row, h, k => by
    have e : pairsOf nx (x :: row) = ((rd_L1 nx x).map fun y => (x, y)) ++ pairsOf nx row := rfl
    rw [List.pairwise_cons] at h
    rw [e, List.pairwise_append]
    refine ⟨?_, pairsOf_sorted h.2 (fun z hz => k z (by simp [hz])), fun q hq r hr => ?_⟩
    · rw [List.pairwise_map]
      exact (k x (by simp)).imp (fun h => .inr ⟨rfl, h⟩)
    · obtain ⟨y, _, rfl⟩ := List.mem_map.1 hq
      exact .inl (h.1 _ (mem_pairsOf.1 (show (r.1, r.2) ∈ _ from hr)).1)
/-- One level. -/
theorem BI.go {prev seen row P d} (h : BI n R a prev seen row P d) {nx : List (List Int)} (hR : ∀ x y, 0 ≤ x → x < (n : Int) → (y ∈ rd_L1 nx x ↔ R x y)) (hin : ∀ x y, R x y → (0 ≤ x ∧ x < (n : Int)) ∧ 0 ≤ y ∧ y < (n : Int)) (hup : ∀ x, 0 ≤ x → x < (n : Int) → (rd_L1 nx x).Pairwise (· < ·)) :
    Sz n (row.foldl (scan nx) (prev, seen, [])) ∧ ∃ P', BI n R a (row.foldl (scan nx) (prev, seen, [])).1 (row.foldl (scan nx) (prev, seen, [])).2.1 (row.foldl (scan nx) (prev, seen, [])).2.2 P' (d + 1) ∧
      ((row.foldl (scan nx) (prev, seen, [])).2.2 ≠ [] → (row.foldl (scan nx) (prev, seen, [])).2.1.count false < seen.count false) := by
  rw [scan_pairs]
  have hrow : ∀ x ∈ row, 0 ≤ x ∧ x < (n : Int) := fun x hx => ((h.ro x).1 hx).1
  have hpin : ∀ q ∈ pairsOf nx row, 0 ≤ q.2 ∧ q.2 < (n : Int) := fun q hq => by
    obtain ⟨k1, k2⟩ := mem_pairsOf.1 (show (q.1, q.2) ∈ _ from hq)
    exact (hin _ _ ((hR _ _ (hrow _ k1).1 (hrow _ k1).2).1 k2)).2
  have L := LI.all (rest := pairsOf nx row) (LI.start (P := P) h.p h.s) hpin (by
    rw [List.nil_append]
    exact pairsOf_sorted h.ord (fun x hx => hup x (hrow x hx).1 (hrow x hx).2))
  rw [List.nil_append] at L
  generalize (pairsOf nx row).foldl (fun st p => visit p.1 st p.2) (prev, seen, []) = st at L
  obtain ⟨pv, sn, nr⟩ := st
  have hmem : ∀ u y, (u, y) ∈ pairsOf nx row ↔ u ∈ row ∧ R u y := fun u y => by
    rw [mem_pairsOf]
    constructor
    · rintro ⟨k1, k2⟩; exact ⟨k1, (hR u y (hrow u k1).1 (hrow u k1).2).1 k2⟩
    · rintro ⟨k1, k2⟩; exact ⟨k1, (hR u y (hrow u k1).1 (hrow u k1).2).2 k2⟩
  have Ls := L.se; have Ln := L.nr; have Lv := L.via; have Lo := L.old; have Lr := L.ord
  dsimp only at Ls Ln Lv Lo Lr ⊢
  -- a node seen, and a step from it
  have hstep : ∀ u y, R u y → rdOf false seen u = true → ¬ rdOf false seen y = true → u ∈ row := fun u y hR' hu hy => by
    have hi := hin u y hR'
    rw [h.ro]
    refine ⟨hi.1, hu, ?_⟩
    have h1 := h.short hi.1.1 hi.1.2 hu
    refine Nat.le_antisymm h1 (Nat.lt_of_not_le fun c => hy ?_)
    rw [h.se y hi.2.1 hi.2.2]
    exact ⟨_, (h.least u hi.1.1 hi.1.2 hu).1.1.snoc hR', by simp only [List.length_append, List.length_cons, List.length_nil]; omega⟩
  have hvia : ∀ y ∈ nr, rd pv y ∈ row ∧ R (rd pv y) y := fun y hy => (hmem _ _).1 (Lv y hy).1
  have hrs : ∀ x ∈ row, rdOf false seen x = true ∧ x ∉ nr := fun x hx => ⟨((h.ro x).1 hx).2.1, fun q => ((Ln x).1 q).2.1 ((h.ro x).1 hx).2.1⟩
  have hns : ∀ y, rdOf false seen y = true → y ∉ nr := fun y hy q => ((Ln y).1 q).2.1 hy
  classical
  let P' : Int → List Int := fun y => if y ∈ nr then P (rd pv y) ++ [y] else P y
  have hP1 : ∀ y, y ∈ nr → P' y = P (rd pv y) ++ [y] := fun y hy => if_pos hy
  have hP2 : ∀ y, y ∉ nr → P' y = P y := fun y hy => if_neg hy
  have hlen : ∀ x ∈ row, (P x).length = d + 1 := fun x hx => ((h.ro x).1 hx).2.2
  have hleast : ∀ y ∈ nr, Least R a (P (rd pv y) ++ [y]) y := fun y hy => by
    obtain ⟨hv1, hv2⟩ := hvia y hy
    have hx := (h.ro _).1 hv1
    have hyi := ((Ln y).1 hy).1
    have hyn := ((Ln y).1 hy).2.1
    have hLx := h.least _ hx.1.1 hx.1.2 hx.2.1
    have hlong : ∀ q, Walk R a q y → d + 2 ≤ q.length := fun q hq => Nat.lt_of_not_le fun c => hyn ((h.se y hyi.1 hyi.2).2 ⟨q, hq, by omega⟩)
    refine ⟨⟨hLx.1.1.snoc hv2, fun q hq => by have := hlong q hq; simp only [List.length_append, List.length_cons, List.length_nil]; omega⟩, fun q hq => ?_⟩
    have hql : q.length = d + 2 := by
      have := hlong q hq.1
      have := hq.2 _ (hLx.1.1.snoc hv2)
      simp only [List.length_append, List.length_cons, List.length_nil] at this
      omega
    rcases hq.1.last with ⟨rfl, rfl⟩ | ⟨q', u, rfl, hw, hu⟩
    · simp at hql
    · simp only [List.length_append, List.length_cons, List.length_nil] at hql
      have hui := (hin u y hu).1
      have hus : rdOf false seen u = true := (h.se u hui.1 hui.2).2 ⟨q', hw, by omega⟩
      have hur := hstep u y hu hus hyn
      have hul := hlen u hur
      have hLu := h.least u hui.1 hui.2 hus
      have hsq : Short R a q' u := ⟨hw, fun r hr => by have := hLu.1.2 r hr; omega⟩
      have h1 := (Lv y hy).2 u ((hmem _ _).2 ⟨hur, hu⟩)
      exact lexLE.app (by omega) (h1.trans (hLu.2 q' hsq)) (fun _ => lexLE.refl _)
  refine ⟨L.sz, P', ⟨L.sz.p, L.sz.s, h.a0, h.a1, fun y y0 y1 => ?_, fun y y0 y1 hy => ?_, fun y => ?_, ?_, fun y y0 y1 hy hne => ?_⟩, fun hne => ?_⟩
  · rw [Ls y y0 y1]
    constructor
    · rintro (k | k)
      · obtain ⟨q, hq, hl⟩ := (h.se y y0 y1).1 k
        exact ⟨q, hq, by omega⟩
      · have hL := hleast y k
        refine ⟨_, hL.1.1, ?_⟩
        have := hlen _ (hvia y k).1
        simp only [List.length_append, List.length_cons, List.length_nil]
        omega
    · rintro ⟨q, hq, hl⟩
      by_cases c : rdOf false seen y = true
      · exact .inl c
      · refine .inr ((Ln y).2 ⟨⟨y0, y1⟩, c, ?_⟩)
        rcases hq.last with ⟨rfl, rfl⟩ | ⟨q', u, rfl, hw, hu⟩
        · exact absurd ((h.se _ y0 y1).2 ⟨_, .one _, by simp⟩) c
        · simp only [List.length_append, List.length_cons, List.length_nil] at hl
          have hui := (hin u y hu).1
          have hus : rdOf false seen u = true := (h.se u hui.1 hui.2).2 ⟨q', hw, by omega⟩
          exact ⟨u, (hmem _ _).2 ⟨hstep u y hu hus c, hu⟩⟩
  · by_cases c : y ∈ nr
    · rw [hP1 y c]; exact hleast y c
    · rw [hP2 y c]
      rcases (Ls y y0 y1).1 hy with k | k
      · exact h.least y y0 y1 k
      · exact absurd k c
  · constructor
    · intro hy
      have hyi := ((Ln y).1 hy).1
      refine ⟨hyi, (Ls y hyi.1 hyi.2).2 (.inr hy), ?_⟩
      rw [hP1 y hy]
      have := hlen _ (hvia y hy).1
      simp only [List.length_append, List.length_cons, List.length_nil]
      omega
    · rintro ⟨⟨y0, y1⟩, hy, hl⟩
      rcases (Ls y y0 y1).1 hy with k | k
      · rw [hP2 y (hns y k)] at hl
        have := h.short y0 y1 k
        omega
      · exact k
  · refine Lr.imp_of_mem (fun {y z} hy hz k => ?_)
    rw [hP1 y hy, hP1 z hz]
    have e1 := hlen _ (hvia y hy).1
    have e2 := hlen _ (hvia z hz).1
    rcases k with k | ⟨k1, k2⟩
    · exact lexLT.app (by omega) k _ _
    · rw [k1]
      refine ⟨lexLE.same _ (.inl k2), fun e => ?_⟩
      have := List.append_cancel_left e
      simp only [List.cons.injEq, and_true] at this
      omega
  · by_cases c : y ∈ nr
    · obtain ⟨hv1, hv2⟩ := hvia y c
      have hx := (h.ro _).1 hv1
      refine ⟨hx.1, (Ls _ hx.1.1 hx.1.2).2 (.inl hx.2.1), ?_⟩
      rw [hP1 y c, hP2 _ (hns _ hx.2.1)]
    · rcases (Ls y y0 y1).1 hy with k | k
      · rw [Lo y y0 y1 c]
        obtain ⟨k1, k2, k3⟩ := h.prv y y0 y1 k hne
        refine ⟨k1, (Ls _ k1.1 k1.2).2 (.inl k2), ?_⟩
        rw [hP2 y c, hP2 _ (hns _ k2)]
        exact k3
      · exact absurd k c
  · have hc := L.cnt
    dsimp only at hc
    have := List.length_pos_iff.2 hne
    omega
end
end Go.Proofs.Ytngmdccheaidkaa.Pr
end
section
/- Plain laws: graph.Path is the least of the shortest walks. -/
namespace Go.Proofs.Ytngmdccheaidkaa.Pr
open Go.RowKit Go.Proofs.YtngmdccheaidkaaW.PrintWords Go.Proofs.YtngmdccheaidkaaW.PrintLast Go.Proofs.YtngmdccheaidkaaW.PrintMore
theorem rd_get {l : List Int} {j : Nat} (h : j < l.length) : rd l (j : Int) = l[j] := rdOf_get (d := 0) (l := l) (x := (j : Int)) (by omega) (by omega)
section
variable {n : Nat} {R : Int → Int → Prop} {a b : Int} {nx : List (List Int)} {r : List Int}
theorem path_l2 (hn : n ≤ 1000) {ys : List Int} (hy : ∀ y ∈ ys, 0 ≤ y ∧ y < (n : Int)) (hyl : ys.length < 1000000000000) {x i len : Int} {row : List Int} : ∀ m j (st : St), ys.length = j + m → Sz n st →
    Ev (fun k => graph_Path.l1 k a b nx ((ys.drop j).foldl (visit x) st).1 ((ys.drop j).foldl (visit x) st).2.1 ((ys.drop j).foldl (visit x) st).2.2 row len (wrap64 (i + 1))) r →
    Ev (fun k => graph_Path.l2 k a b nx st.1 st.2.1 st.2.2 x row len i ys (ys.length : Int) (j : Int)) r
  | 0, j, st, he, hs, h => by
    rw [List.drop_of_length_le (by omega)] at h
    refine Ev.step (fun k => ?_) h
    rw [graph_Path.l2, if_neg (by omega)]
    rfl
  | m + 1, j, st, he, hs, h => by
    have hj : j < ys.length := by omega
    have hyj := hy _ (List.getElem_mem hj)
    rw [List.drop_eq_getElem_cons hj, List.foldl_cons] at h
    have hv := (visit_sz (x := x) hs hyj.1 hyj.2).1
    have ih := path_l2 hn hy hyl m (j + 1) (visit x st ys[j]) (by omega) hv h
    have hp := hs.p; have hss := hs.s; have hc := hs.c
    refine Ev.step (fun k => ?_) ih
    rw [graph_Path.l2, if_pos (by omega), if_pos (by omega), if_pos (by omega), rd_get hj, if_pos hyj.1, if_pos (by omega), w64 (by omega)]
    unfold visit
    by_cases c : rdOf false st.2.1 ys[j] = true
    · rw [if_pos c, if_pos c]; rfl
    · rw [if_neg c, if_neg c, if_pos (by omega), if_pos (by omega)]; rfl
theorem scan_sz {x : Int} (hx : ∀ y ∈ rd_L1 nx x, 0 ≤ y ∧ y < (n : Int)) {st : St} (h : Sz n st) : Sz n (scan nx st x) := by
  unfold scan
  revert st
  generalize rd_L1 nx x = ys at hx
  induction ys with
  | nil => intro st h; exact h
  | cons y ys ih => intro st h; exact ih (fun z hz => hx z (by simp [hz])) (visit_sz h (hx y (by simp)).1 (hx y (by simp)).2).1
theorem path_l1 (hn : n ≤ 1000) (hnx : nx.length = n) (hys : ∀ x, 0 ≤ x → x < (n : Int) → (∀ y ∈ rd_L1 nx x, 0 ≤ y ∧ y < (n : Int)) ∧ (rd_L1 nx x).length < 1000000000000) {row : List Int} (hrow : ∀ x ∈ row, 0 ≤ x ∧ x < (n : Int)) (hrl : row.length ≤ 1000) : ∀ m i (st : St), row.length = i + m → Sz n st →
    Ev (fun k => graph_Path.l0 k a b nx ((row.drop i).foldl (scan nx) st).1 ((row.drop i).foldl (scan nx) st).2.1 ((row.drop i).foldl (scan nx) st).2.2) r →
    Ev (fun k => graph_Path.l1 k a b nx st.1 st.2.1 st.2.2 row (row.length : Int) (i : Int)) r
  | 0, i, st, he, hs, h => by
    rw [List.drop_of_length_le (by omega)] at h
    refine Ev.step (fun k => ?_) h
    rw [graph_Path.l1, if_neg (by omega)]
    rfl
  | m + 1, i, st, he, hs, h => by
    have hi : i < row.length := by omega
    have hx := hrow _ (List.getElem_mem hi)
    rw [List.drop_eq_getElem_cons hi, List.foldl_cons] at h
    have ih := path_l1 hn hnx hys hrow hrl m (i + 1) (scan nx st row[i]) (by omega) (scan_sz (hys _ hx.1 hx.2).1 hs) h
    have := path_l2 (a := a) (b := b) (nx := nx) (r := r) hn (hys _ hx.1 hx.2).1 (hys _ hx.1 hx.2).2 (x := row[i]) (i := (i : Int)) (len := (row.length : Int)) (row := row) (rd_L1 nx row[i]).length 0 st (by omega) hs (by
      rw [w64 (by omega), List.drop_zero]
      exact ih)
    refine Ev.step (fun k => ?_) this
    rw [graph_Path.l1, if_pos (by omega), if_pos (by omega), if_pos (by omega), rd_get hi, if_pos hx.1, if_pos (by omega)]
    rfl
theorem path_l3 (hn : n ≤ 1000) {prev seen row P d} (h : BI n R a prev seen row P d) : ∀ m x (s : List Int), (P x).length = m → 0 ≤ x → x < (n : Int) → rdOf false seen x = true → s.length + m ≤ 10000 →
    Ev (fun k => graph_Path.l3 k a prev (s ++ [x]) x) ((s ++ (P x).reverse).reverse)
  | 0, x, s, hm, h0, h1, hx, hs => by
    have := (h.least x h0 h1 hx).1.1.pos
    omega
  | m + 1, x, s, hm, h0, h1, hx, hs => by
    by_cases c : x = a
    · subst c
      have hL := h.least x h0 h1 hx
      have : P x = [x] := by
        have := hL.1.2 _ (.one x)
        cases hP : P x with
        | nil => rw [hP] at hm; simp at hm
        | cons u t =>
          have hh := hL.1.1.head
          rw [hP] at hh this
          simp at hh this
          simp [hh, this]
      rw [this]
      refine Ev.step (f := fun k => some (s ++ [x]).reverse) (fun k => ?_) (Ev.now _)
      rw [graph_Path.l3, if_pos rfl]
      unfold slices_Reverse_int_int.f
      rw [if_pos (by simp; omega)]; rfl
    · obtain ⟨k1, k2, k3⟩ := h.prv x h0 h1 hx c
      have hm' : (P (rd prev x)).length = m := by
        rw [k3] at hm
        simp only [List.length_append, List.length_cons, List.length_nil] at hm
        omega
      have ih := path_l3 hn h m (rd prev x) (s ++ [x]) hm' k1.1 k1.2 k2 (by simp only [List.length_append, List.length_cons, List.length_nil]; omega)
      have e : (s ++ [x] ++ (P (rd prev x)).reverse) = s ++ (P x).reverse := by rw [k3]; simp
      rw [e] at ih
      refine Ev.step (fun k => ?_) ih
      rw [graph_Path.l3, if_neg c, if_pos h0, if_pos (by rw [h.p]; exact h1), if_pos (by simp only [List.length_append, List.length_cons, List.length_nil]; omega)]
theorem least_len {p : List Int} {x : Int} (hin : ∀ x y, R x y → (0 ≤ x ∧ x < (n : Int)) ∧ 0 ≤ y ∧ y < (n : Int)) (a0 : 0 ≤ a) (a1 : a < (n : Int)) (h : Short R a p x) : p.length ≤ n :=
  nodup_len h.nodup (h.1.all (P := fun z => 0 ≤ z ∧ z < (n : Int)) (fun u v huv => (hin u v huv).2) ⟨a0, a1⟩)
/-- What a path is. -/
def IsPath (R : Int → Int → Prop) (a b : Int) (r : List Int) : Prop := (Rt R a b ∧ Least R a r b) ∨ (¬ Rt R a b ∧ r = [])
theorem IsPath.one {r s : List Int} (h : IsPath R a b r) (k : IsPath R a b s) : r = s := by
  rcases h with ⟨h1, h2⟩ | ⟨h1, rfl⟩ <;> rcases k with ⟨k1, k2⟩ | ⟨k1, rfl⟩
  · exact h2.one k2
  · exact absurd h1 k1
  · exact absurd k1 h1
  · rfl
theorem path_l0 (hn : n ≤ 1000) (hnx : nx.length = n) (hR : ∀ x y, 0 ≤ x → x < (n : Int) → (y ∈ rd_L1 nx x ↔ R x y)) (hin : ∀ x y, R x y → (0 ≤ x ∧ x < (n : Int)) ∧ 0 ≤ y ∧ y < (n : Int)) (hup : ∀ x, 0 ≤ x → x < (n : Int) → (rd_L1 nx x).Pairwise (· < ·)) (b0 : 0 ≤ b) (b1 : b < (n : Int)) :
    ∀ m prev seen row P d, BI n R a prev seen row P d → row.length + seen.count false ≤ n → (seen.count false < m ∨ row = []) → ∃ r, Ev (fun k => graph_Path.l0 k a b nx prev seen row) r ∧ IsPath R a b r := by
  have hys : ∀ x, 0 ≤ x → x < (n : Int) → (∀ y ∈ rd_L1 nx x, 0 ≤ y ∧ y < (n : Int)) ∧ (rd_L1 nx x).length < 1000000000000 := fun x h0 h1 => by
    have hi : ∀ y ∈ rd_L1 nx x, 0 ≤ y ∧ y < (n : Int) := fun y hy => (hin x y ((hR x y h0 h1).1 hy)).2
    refine ⟨hi, ?_⟩
    have := nodup_len (n := n) (p := rd_L1 nx x) (List.nodup_iff_pairwise_ne.2 ((hup x h0 h1).imp (fun h => by omega))) hi
    omega
  intro m
  induction m with
  | zero =>
    intro prev seen row P d h hc hm
    rcases hm with hm | rfl
    · omega
    · -- nothing more
      have hst : Ev (fun k => graph_Path.l0 k a b nx prev seen []) (if rdOf false seen b = true then P b else []) ∧ IsPath R a b (if rdOf false seen b = true then P b else []) := by
        by_cases c : rdOf false seen b = true
        · rw [if_pos c]
          have hL := h.least b b0 b1 c
          refine ⟨?_, .inl ⟨⟨_, hL.1.1⟩, hL⟩⟩
          have hl3 := path_l3 hn h (P b).length b [] rfl b0 b1 c (by have := least_len hin h.a0 h.a1 hL.1; simp only [List.length_nil]; omega)
          rw [List.nil_append, List.nil_append, List.reverse_reverse] at hl3
          refine Ev.step (f := fun k => graph_Path.j2 k a b nx prev seen [] false) (fun k => ?_) (Ev.step (fun k => ?_) hl3)
          · rw [graph_Path.l0, if_neg (by simp)]
          · rw [graph_Path.j2, if_neg (by simp), if_pos b0, if_pos (by rw [h.s]; exact b1), if_pos c]
        · rw [if_neg c]
          refine ⟨?_, .inr ⟨fun hr => c ?_, rfl⟩⟩
          · refine Ev.step (f := fun k => graph_Path.j2 k a b nx prev seen [] false) (fun k => ?_) (Ev.step (fun k => ?_) (Ev.now _))
            · rw [graph_Path.l0, if_neg (by simp)]
            · rw [graph_Path.j2, if_neg (by simp), if_pos b0, if_pos (by rw [h.s]; exact b1), if_neg c]
          · refine (hr.closed (P := fun z => (0 ≤ z ∧ z < (n : Int)) ∧ rdOf false seen z = true) (fun u v hu huv => ?_) ⟨⟨h.a0, h.a1⟩, (h.se a h.a0 h.a1).2 ⟨_, .one a, by simp⟩⟩).2
            have hi := hin u v huv
            refine ⟨hi.2, ?_⟩
            have h1 := h.short hi.1.1 hi.1.2 hu.2
            have h2 : ¬ (P u).length = d + 1 := fun e => by
              have := (h.ro u).2 ⟨hu.1, hu.2, e⟩
              simp at this
            exact (h.se v hi.2.1 hi.2.2).2 ⟨_, (h.least u hi.1.1 hi.1.2 hu.2).1.1.snoc huv, by simp only [List.length_append, List.length_cons, List.length_nil]; omega⟩
      exact ⟨_, hst⟩
  | succ m ih =>
    intro prev seen row P d h hc hm
    by_cases e : row = []
    · exact ih prev seen row P d h hc (.inr e)
    · by_cases c : rdOf false seen b = true
      · have hL := h.least b b0 b1 c
        have hl3 := path_l3 hn h (P b).length b [] rfl b0 b1 c (by have := least_len hin h.a0 h.a1 hL.1; simp only [List.length_nil]; omega)
        rw [List.nil_append, List.nil_append, List.reverse_reverse] at hl3
        have hrp := List.length_pos_iff.2 e
        refine ⟨_, Ev.step (f := fun k => graph_Path.j2 k a b nx prev seen row false) (fun k => ?_) (Ev.step (fun k => ?_) hl3), .inl ⟨⟨_, hL.1.1⟩, hL⟩⟩
        · rw [graph_Path.l0, if_pos (by omega), if_pos b0, if_pos (by rw [h.s]; exact b1), c]; rfl
        · rw [graph_Path.j2, if_neg (by simp), if_pos b0, if_pos (by rw [h.s]; exact b1), if_pos c]
      · have hrow : ∀ x ∈ row, 0 ≤ x ∧ x < (n : Int) := fun x hx => ((h.ro x).1 hx).1
        obtain ⟨hsz, P', hB, hless⟩ := h.go hR hin hup
        have hmm : (row.foldl (scan nx) (prev, seen, [])).2.1.count false < m ∨ (row.foldl (scan nx) (prev, seen, [])).2.2 = [] := by
          by_cases e2 : (row.foldl (scan nx) (prev, seen, [])).2.2 = []
          · exact .inr e2
          · have := hless e2
            rcases hm with hm | hm
            · exact .inl (by omega)
            · exact absurd hm e
        obtain ⟨r, hr, hp⟩ := ih _ _ _ P' (d + 1) hB hsz.c hmm
        have hrl : row.length ≤ 1000 := by omega
        have h1 := path_l1 (a := a) (b := b) (r := r) hn hnx hys hrow hrl row.length 0 (prev, seen, []) (by omega) ⟨h.p, h.s, by simp only [List.length_nil]; omega⟩ (by rw [List.drop_zero]; exact hr)
        have hrp := List.length_pos_iff.2 e
        refine ⟨r, Ev.step (f := fun k => graph_Path.j2 k a b nx prev seen row true) (fun k => ?_) (Ev.step (fun k => ?_) h1), hp⟩
        · rw [graph_Path.l0, if_pos (by omega), if_pos b0, if_pos (by rw [h.s]; exact b1)]
          simp [c]
        · rw [graph_Path.j2, if_pos rfl]; rfl
theorem Path_ok {n : Int} {l : List S27} (h : OkE n l) {a b : Int} (a0 : 0 ≤ a) (a1 : a < n) (b0 : 0 ≤ b) (b1 : b < n) : ∃ r, Ev (fun k => graph_Path.f k n l a b) r ∧ IsPath (Ed l) a b r := by
  have hn0 := h.n0
  have hn1 := h.n1
  have hnx : (nextsP n.toNat l).length = n.toNat := by simp [nextsP]
  have hB := BI.start (n := n.toNat) (R := Ed l) (a := a) a0 (by omega)
  have hc1 : ((List.replicate n.toNat false).set a.toNat true).count false + 1 = n.toNat := by
    have := count_set_true (l := List.replicate n.toNat false) (i := a.toNat) (by simp; omega) (by simp)
    simpa using this
  obtain ⟨r, hr, hp⟩ := path_l0 (n := n.toNat) (R := Ed l) (a := a) (b := b) (nx := nextsP n.toNat l) (by omega) hnx (fun x y x0 x1 => mem_nextsP x0 x1) (fun x y hxy => by have := h.edge hxy; omega)
    (fun x x0 x1 => by rw [rd_nextsP x0 x1]; exact outOf_rising l x) b0 (by omega) (n.toNat + 1) _ _ _ _ _ hB (by simp only [List.length_cons, List.length_nil]; omega) (.inl (by omega))
  refine ⟨r, ?_, hp⟩
  unfold graph_Path.f
  refine Ev.bind (a := (nextsP n.toNat l, true)) ⟨l.length + 1, fun k hk => nexts_ok h hk⟩ ?_
  refine Ev.congr (f := fun k => graph_Path.j0 k n a b (nextsP n.toNat l) false) (fun k => ?_) (Ev.step (fun k => ?_) hr)
  · simp only [if_true]
    rw [if_neg (by omega), if_neg (by omega), if_neg (by omega), decide_eq_false (by omega)]
  · rw [graph_Path.j0, if_neg (by simp), if_pos hn0, if_pos (by omega), if_pos (by omega)]
    simp only [Option.bind_some, List.length_replicate]
    rw [if_pos a0, if_pos (by omega)]
theorem Path_out {n : Int} {l : List S27} (hl : l.length ≤ 8796093022208) {a b : Int} (h : ¬ OkE n l ∨ a < 0 ∨ n ≤ a ∨ b < 0 ∨ n ≤ b) : Ev (fun k => graph_Path.f k n l a b) [] := by
  unfold graph_Path.f
  have hj : ∀ nx, Ev (fun k => graph_Path.j0 k n a b nx true) ([] : List Int) := fun nx => Ev.step (fun k => by rw [graph_Path.j0, if_pos rfl]) (Ev.now _)
  by_cases c : OkE n l
  · refine Ev.bind (a := (nextsP n.toNat l, true)) ⟨l.length + 1, fun k hk => nexts_ok c hk⟩ (Ev.congr (fun k => ?_) (hj (nextsP n.toNat l)))
    simp only [if_true]
    by_cases c1 : a < 0
    · rw [if_pos c1]
    · by_cases c2 : a ≥ n
      · rw [if_neg c1, if_pos c2]
      · by_cases c3 : b < 0
        · rw [if_neg c1, if_neg c2, if_pos c3]
        · rw [if_neg c1, if_neg c2, if_neg c3, decide_eq_true]
          rcases h with h | h
          · exact absurd c h
          · omega
  · refine Ev.bind (a := ([], false)) ⟨0, fun k hk => nexts_bad hl c k⟩ (Ev.congr (fun k => ?_) (hj []))
    simp
end
end Go.Proofs.Ytngmdccheaidkaa.Pr
end
section
/- Plain laws: what the statements about graphs begin with; GraphOrder. -/
namespace Go.Proofs.Ytngmdccheaidkaa.Pr
open Go.RowKit Go.Proofs.YtngmdccheaidkaaW.PrintWords Go.Proofs.YtngmdccheaidkaaW.PrintLast Go.Proofs.YtngmdccheaidkaaW.PrintMore
theorem cleanP_id {l : List S27} (h : l.Pairwise ltS) : cleanP l = l :=
  rising_unique (lt := ltS) (fun a h => by unfold ltS at h; omega) (fun a b c h k => by unfold ltS at *; omega) (cleanP_rising l) h (fun x => mem_cleanP l x)
/-! ### Ints, Lists -/
theorem ints_l0 {l : List Int} (hl : l.length < 1000000000000) : ∀ m i, l.length = i + m → Ev (fun k => lambrequinref10_Ints.l0 k l l (i : Int)) true
  | 0, i, e => Ev.step (fun k => by rw [lambrequinref10_Ints.l0, if_neg (by omega)]) (Ev.now _)
  | m + 1, i, e => Ev.step (fun k => by rw [lambrequinref10_Ints.l0, if_pos (by omega), if_pos (by omega), if_pos (by omega), if_pos rfl, w64 (by omega)]; rfl) (ints_l0 hl m (i + 1) (by omega))
theorem ints_self {l : List Int} (hl : l.length < 1000000000000) : Ev (fun k => lambrequinref10_Ints.f k l l) true :=
  Ev.congr (fun k => by unfold lambrequinref10_Ints.f; rw [if_pos rfl]; rfl) (ints_l0 hl l.length 0 (by omega))
theorem rdL1_get {l : List (List Int)} {j : Nat} (h : j < l.length) : rd_L1 l (j : Int) = l[j] := by
  unfold rd_L1
  rw [Int.toNat_natCast, List.getD_eq_getElem?_getD, List.getElem?_eq_getElem h]; rfl
theorem lists_l0 {l : List (List Int)} (hl : l.length < 1000000000000) (hr : ∀ r ∈ l, r.length < 1000000000000) : ∀ m i, l.length = i + m → Ev (fun k => lambrequinref10_Lists.l0 k l l (i : Int)) true
  | 0, i, e => Ev.step (fun k => by rw [lambrequinref10_Lists.l0, if_neg (by omega)]) (Ev.now _)
  | m + 1, i, e => by
    have hi : i < l.length := by omega
    refine Ev.step (f := fun k => (lambrequinref10_Ints.f k l[i] l[i]).bind fun t => (if t = true then lambrequinref10_Lists.l0 k l l ((i : Int) + 1) else some false)) (fun k => ?_) (Ev.bind (ints_self (hr _ (List.getElem_mem hi))) (Ev.congr (fun k => if_pos rfl) (lists_l0 hl hr m (i + 1) (by omega))))
    rw [lambrequinref10_Lists.l0, if_pos (by omega), if_pos (by omega), if_pos (by omega), rdL1_get hi, w64 (by omega)]
theorem lists_self {l : List (List Int)} (hl : l.length < 1000000000000) (hr : ∀ r ∈ l, r.length < 1000000000000) : Ev (fun k => lambrequinref10_Lists.f k l l) true :=
  Ev.congr (fun k => by unfold lambrequinref10_Lists.f; rw [if_pos rfl]; rfl) (lists_l0 hl hr l.length 0 (by omega))
/-! ### The document's example -/
theorem shown_ok : Ev (fun k => lambrequinlaw10_shown.f k) true := by
  unfold lambrequinlaw10_shown.f
  have h1 : OkE 3 [(⟨0, 1⟩ : S27), ⟨1, 0⟩, ⟨1, 2⟩] := ⟨by decide, by decide, by simp, by simp⟩
  have h2 : OkE 3 [(⟨0, 1⟩ : S27), ⟨1, 2⟩] := ⟨by decide, by decide, by simp, by simp⟩
  have c1 : cleanP [(⟨0, 1⟩ : S27), ⟨1, 0⟩, ⟨1, 2⟩] = [⟨0, 1⟩, ⟨1, 0⟩, ⟨1, 2⟩] := cleanP_id (by simp [ltS])
  have c2 : cleanP [(⟨0, 1⟩ : S27), ⟨1, 2⟩] = [⟨0, 1⟩, ⟨1, 2⟩] := cleanP_id (by simp [ltS])
  have e1 : graph_Parts.f 3 [(⟨0, 1⟩ : S27), ⟨1, 0⟩, ⟨1, 2⟩] = some [[2], [0, 1]] := by
    unfold graph_Parts.f graph_nexts.f
    rw [Clean_ok h1, c1]
    kernel_rfl
  have e2 : graph_Path.f 40 3 [(⟨0, 1⟩ : S27), ⟨1, 2⟩] 0 2 = some [0, 1, 2] := by
    unfold graph_Path.f graph_nexts.f
    rw [Clean_ok h2, c2]
    kernel_rfl
  obtain ⟨r, hr, _⟩ := Path_ok h2 (a := 0) (b := 2) (by decide) (by decide) (by decide) (by decide)
  refine Ev.bind (a := [[2], [0, 1]]) ⟨0, fun k _ => e1⟩ (Ev.bind (a := [0, 1, 2]) (Ev.of (fun k => graph_Path.mono 3 _ 0 2 k) e2) ?_)
  exact Ev.bind (lists_self (by simp) (by simp)) (Ev.congr (fun k => if_pos rfl) (Ev.bind (ints_self (by simp)) (Ev.now _)))
/-! ### ends -/
theorem Parts_len {n : Int} {l : List S27} {r done} (h : OkE n l) (hp : PS n.toNat (Ed l) done r 0) : r.length < 1000000000000 ∧ ∀ p ∈ r, p.length < 1000000000000 := by
  have hn0 := h.n0; have hn1 := h.n1
  have hs := hp.sum
  have key : ∀ (r : List (List Int)), (∀ p ∈ r, p ≠ []) → r.length ≤ (r.map List.length).sum ∧ ∀ p ∈ r, p.length ≤ (r.map List.length).sum := by
    intro r
    induction r with
    | nil => simp
    | cons p r ih =>
      intro hne
      obtain ⟨h1, h2⟩ := ih (fun q hq => hne q (by simp [hq]))
      have := List.length_pos_iff.2 (hne p (by simp))
      simp only [List.length_cons, List.map_cons, List.sum_cons]
      refine ⟨by omega, fun q hq => ?_⟩
      rcases List.mem_cons.1 hq with rfl | hq
      · omega
      · have := h2 q hq; omega
  obtain ⟨h1, h2⟩ := key r (fun p hp' => (hp.part p hp').2.1)
  exact ⟨by omega, fun p hp' => by have := h2 p hp'; omega⟩
theorem Path_len {n : Int} {l : List S27} (h : OkE n l) {a b : Int} {r : List Int} (a0 : 0 ≤ a) (a1 : a < n) (hp : IsPath (Ed l) a b r) : r.length ≤ n.toNat := by
  have hn0 := h.n0
  rcases hp with ⟨_, hp⟩ | ⟨_, rfl⟩
  · exact least_len (n := n.toNat) (R := Ed l) (fun x y hxy => by have := h.edge hxy; omega) a0 (by omega) hp.1
  · simp
end Go.Proofs.Ytngmdccheaidkaa.Pr
end
section
/- Plain laws: the document's steps. -/
namespace Go.Proofs.Ytngmdccheaidkaa.Pr
open Go.RowKit Go.Proofs.YtngmdccheaidkaaW.PrintWords Go.Proofs.YtngmdccheaidkaaW.PrintLast Go.Proofs.YtngmdccheaidkaaW.PrintMore
section
variable {n : Int} {l : List S27} {a : Int}
/-- Ahead of level d. -/
def DI (n : Int) (l : List S27) (a : Int) (d : Nat) (f : List Int) : Prop := f.length = n.toNat ∧ ∀ x, 0 ≤ x → x < n →
  (∃ p, Short (Ed l) a p x ∧ p.length ≤ d + 1 ∧ rd f x = (p.length : Int) - 1) ∨ ((∀ q, Walk (Ed l) a q x → d + 1 < q.length) ∧ rd f x = -1)
/-- Within level d, ahead of edge j. -/
def DL (n : Int) (l : List S27) (a : Int) (d j : Nat) (f : List Int) : Prop := f.length = n.toNat ∧ ∀ x, 0 ≤ x → x < n →
  (∃ p, Short (Ed l) a p x ∧ p.length ≤ d + 1 ∧ rd f x = (p.length : Int) - 1) ∨ (∃ p, Short (Ed l) a p x ∧ p.length = d + 2 ∧ rd f x = (d : Int) + 1) ∨
    ((∀ q, Walk (Ed l) a q x → d + 1 < q.length) ∧ rd f x = -1 ∧ ∀ (i : Nat) (e : S27), i < j → l[i]? = some e → e.f1 = x → ∀ p, Short (Ed l) a p e.f0 → p.length ≠ d + 1)
theorem DL.start {d f} (h : DI n l a d f) : DL n l a d 0 f := ⟨h.1, fun x h0 h1 => by
  rcases h.2 x h0 h1 with k | ⟨k, k2⟩
  · exact .inl k
  · exact .inr (.inr ⟨k, k2, fun i e hi => by omega⟩)⟩
theorem DL.stop {d f} (h : DL n l a d l.length f) : DI n l a (d + 1) f := ⟨h.1, fun x h0 h1 => by
  rcases h.2 x h0 h1 with ⟨p, k1, k2, k3⟩ | ⟨p, k1, k2, k3⟩ | ⟨k1, k2, k3⟩
  · exact .inl ⟨p, k1, by omega, k3⟩
  · exact .inl ⟨p, k1, by omega, by omega⟩
  · refine .inr ⟨fun q hq => ?_, k2⟩
    have hl := k1 q hq
    rcases hq.last with ⟨rfl, rfl⟩ | ⟨q', u, rfl, hw, hu⟩
    · simp only [List.length_cons, List.length_nil] at hl; omega
    · simp only [List.length_append, List.length_cons, List.length_nil] at hl ⊢
      by_cases c : q'.length = d + 1
      · exfalso
        obtain ⟨i, hi⟩ := List.getElem?_of_mem (show (⟨u, x⟩ : S27) ∈ l from hu)
        refine k3 i _ (List.getElem?_eq_some_iff.1 hi).1 hi rfl q' ⟨hw, fun r hr => ?_⟩ c
        have := k1 _ (hr.snoc hu)
        simp only [List.length_append, List.length_cons, List.length_nil] at this
        omega
      · omega⟩
theorem DL.node {d j f} (h : DL n l a d j f) {x : Int} (h0 : 0 ≤ x) (h1 : x < n) : (rd f x = (d : Int) ↔ ∃ p, Short (Ed l) a p x ∧ p.length = d + 1) ∧ (rd f x < 0 → rd f x = -1) := by
  rcases h.2 x h0 h1 with ⟨p, k1, k2, k3⟩ | ⟨p, k1, k2, k3⟩ | ⟨k1, k2, k3⟩
  · have := k1.1.pos
    refine ⟨⟨fun e => ⟨p, k1, by omega⟩, fun ⟨q, hq, e⟩ => by have := k1.len hq; omega⟩, fun _ => by omega⟩
  · refine ⟨⟨fun e => by omega, fun ⟨q, hq, e⟩ => by have := k1.len hq; omega⟩, fun _ => by omega⟩
  · refine ⟨⟨fun e => by omega, fun ⟨q, hq, e⟩ => by have := k1 q hq.1; omega⟩, fun _ => k2⟩
theorem DL.keep {d j f} (h : DL n l a d j f) {e : S27} (he : l[j]? = some e) (hno : (∃ p, Short (Ed l) a p e.f0 ∧ p.length = d + 1) → ¬ rd f e.f1 < 0) : DL n l a d (j + 1) f := ⟨h.1, fun x h0 h1 => by
  rcases h.2 x h0 h1 with k | k | ⟨k1, k2, k3⟩
  · exact .inl k
  · exact .inr (.inl k)
  · refine .inr (.inr ⟨k1, k2, fun i e' hi he' hx p hp hl => ?_⟩)
    by_cases c : i = j
    · subst c
      obtain rfl := Option.some.inj (he.symm.trans he')
      exact hno ⟨p, hp, hl⟩ (by rw [hx, k2]; decide)
    · exact k3 i e' (by omega) he' hx p hp hl⟩
theorem DL.put {d j f} (h : DL n l a d j f) {e : S27} (he : l[j]? = some e) (hv : 0 ≤ e.f1 ∧ e.f1 < n) (hu : ∃ p, Short (Ed l) a p e.f0 ∧ p.length = d + 1) (hneg : rd f e.f1 < 0) : DL n l a d (j + 1) (f.set e.f1.toNat ((d : Int) + 1)) := by
  obtain ⟨p, hp, hpl⟩ := hu
  have hlen := h.1
  have hed : Ed l e.f0 e.f1 := List.mem_of_getElem? he
  refine ⟨by rw [List.length_set]; exact hlen, fun x h0 h1 => ?_⟩
  rw [rd_set _ _ _ _ hv.1 (by omega) h0]
  by_cases c : x = e.f1
  · rw [if_pos c]
    subst c
    have hw := hp.1.snoc hed
    have hlong : ∀ q, Walk (Ed l) a q e.f1 → d + 1 < q.length := by
      rcases h.2 _ h0 h1 with ⟨q, k1, k2, k3⟩ | ⟨q, k1, k2, k3⟩ | ⟨k1, _⟩
      · have := k1.1.pos; omega
      · omega
      · exact k1
    exact .inr (.inl ⟨p ++ [e.f1], ⟨hw, fun q hq => by have := hlong q hq; simp only [List.length_append, List.length_cons, List.length_nil]; omega⟩, by simp only [List.length_append, List.length_cons, List.length_nil]; omega, rfl⟩)
  · rw [if_neg c]
    rcases h.2 x h0 h1 with k | k | ⟨k1, k2, k3⟩
    · exact .inl k
    · exact .inr (.inl k)
    · refine .inr (.inr ⟨k1, k2, fun i e' hi he' hx q hq hl => ?_⟩)
      by_cases c2 : i = j
      · subst c2
        obtain rfl := Option.some.inj (he.symm.trans he')
        exact c hx.symm
      · exact k3 i e' (by omega) he' hx q hq hl
/-- How far each node is. -/
def IsSteps (n : Int) (R : Int → Int → Prop) (a : Int) (r : List Int) : Prop := r.length = n.toNat ∧ ∀ x, 0 ≤ x → x < n → (∃ p, Short R a p x ∧ rd r x = (p.length : Int) - 1) ∨ (¬ Rt R a x ∧ rd r x = -1)
theorem steps_l2 (ok : OkE n l) {d : Nat} (hd : d < n.toNat) {r : List Int} (hnext : ∀ f, DI n l a (d + 1) f → Ev (fun k => lambrequinref10_Steps.l1 k n l f ((d : Int) + 1)) r ∨ ∃ r, IsSteps n (Ed l) a r ∧ Ev (fun k => lambrequinref10_Steps.l1 k n l f ((d : Int) + 1)) r) :
    ∀ m j f, l.length = j + m → DL n l a d j f → ∃ f', DI n l a (d + 1) f' ∧ ∀ r, Ev (fun k => lambrequinref10_Steps.l1 k n l f' ((d : Int) + 1)) r → Ev (fun k => lambrequinref10_Steps.l2 k n l f (d : Int) (j : Int)) r
  | 0, j, f, e, h => by
    have hn1 := ok.n1
    obtain rfl : j = l.length := by omega
    refine ⟨f, h.stop, fun r hr => Ev.step (fun k => ?_) hr⟩
    rw [lambrequinref10_Steps.l2, if_neg (by omega), w64 (by omega)]
  | m + 1, j, f, e, h => by
    have hn1 := ok.n1
    have hlim := ok.len
    have hj : j < l.length := by omega
    have hm := ok.mem _ (List.getElem_mem hj)
    have hget := List.getElem?_eq_getElem hj
    have hlen := h.1
    have hu := (h.node hm.1 hm.2.1).1
    by_cases c : rd f l[j].f0 = (d : Int)
    · by_cases c2 : rd f l[j].f1 < 0
      · obtain ⟨f', h1, h2⟩ := steps_l2 ok hd hnext m (j + 1) _ (by omega) (h.put hget hm.2.2 (hu.1 c) c2)
        refine ⟨f', h1, fun r hr => Ev.step (fun k => ?_) (h2 r hr)⟩
        rw [lambrequinref10_Steps.l2, if_pos (by omega), if_pos (by omega), rd27_get hj, if_pos hm.1, if_pos (by omega), if_pos c, if_pos hm.2.2.1, if_pos (by omega), if_pos c2, w64 (n := (d : Int) + 1) (by omega), w64 (by omega)]
        rfl
      · obtain ⟨f', h1, h2⟩ := steps_l2 ok hd hnext m (j + 1) f (by omega) (h.keep hget (fun _ => c2))
        refine ⟨f', h1, fun r hr => Ev.step (fun k => ?_) (h2 r hr)⟩
        rw [lambrequinref10_Steps.l2, if_pos (by omega), if_pos (by omega), rd27_get hj, if_pos hm.1, if_pos (by omega), if_pos c, if_pos hm.2.2.1, if_pos (by omega), if_neg c2, w64 (by omega)]
        rfl
    · obtain ⟨f', h1, h2⟩ := steps_l2 ok hd hnext m (j + 1) f (by omega) (h.keep hget (fun q => absurd (hu.2 q) c))
      refine ⟨f', h1, fun r hr => Ev.step (fun k => ?_) (h2 r hr)⟩
      rw [lambrequinref10_Steps.l2, if_pos (by omega), if_pos (by omega), rd27_get hj, if_pos hm.1, if_pos (by omega), if_neg c, w64 (by omega)]
      rfl
theorem DI.done (ok : OkE n l) (a0 : 0 ≤ a) (a1 : a < n) {f} (h : DI n l a n.toNat f) : IsSteps n (Ed l) a f := ⟨h.1, fun x h0 h1 => by
  rcases h.2 x h0 h1 with ⟨p, k1, _, k3⟩ | ⟨k1, k2⟩
  · exact .inl ⟨p, k1, k3⟩
  · refine .inr ⟨fun hr => ?_, k2⟩
    obtain ⟨p, hp⟩ := Short.some hr
    have hl := nodup_len (n := n.toNat) hp.nodup (hp.1.all (P := fun z => 0 ≤ z ∧ z < (n.toNat : Int)) (fun u v huv => by have := ok.edge huv; omega) ⟨a0, by omega⟩)
    have := k1 p hp.1
    omega⟩
theorem steps_l1 (ok : OkE n l) (a0 : 0 ≤ a) (a1 : a < n) : ∀ m d f, n.toNat = d + m → DI n l a d f → ∃ r, Ev (fun k => lambrequinref10_Steps.l1 k n l f (d : Int)) r ∧ IsSteps n (Ed l) a r
  | 0, d, f, e, h => by
    obtain rfl : d = n.toNat := by omega
    refine ⟨f, Ev.step (fun k => ?_) (Ev.now _), h.done ok a0 a1⟩
    rw [lambrequinref10_Steps.l1, if_neg (by omega)]
  | m + 1, d, f, e, h => by
    obtain ⟨f', h1, h2⟩ := steps_l2 ok (d := d) (r := []) (by omega) (fun f hf => .inr (by
      obtain ⟨r, k1, k2⟩ := steps_l1 ok a0 a1 m (d + 1) f (by omega) hf
      exact ⟨r, k2, k1⟩)) l.length 0 f (by omega) (DL.start h)
    obtain ⟨r, k1, k2⟩ := steps_l1 ok a0 a1 m (d + 1) f' (by omega) h1
    refine ⟨r, Ev.step (fun k => ?_) (h2 r k1), k2⟩
    rw [lambrequinref10_Steps.l1, if_pos (by omega)]
    rfl
theorem DI.start (a0 : 0 ≤ a) (a1 : a < n) : DI n l a 0 ((List.replicate n.toNat (-1)).set a.toNat 0) := by
  refine ⟨by simp, fun x h0 h1 => ?_⟩
  rw [rd_set _ _ _ _ a0 (by simp; omega) h0]
  by_cases c : x = a
  · subst c
    rw [if_pos rfl]
    exact .inl ⟨[x], ⟨.one x, fun q hq => hq.pos⟩, by simp, by simp⟩
  · rw [if_neg c]
    refine .inr ⟨fun q hq => ?_, ?_⟩
    · cases hq with
      | one => exact absurd rfl c
      | cons _ t => have := t.pos; simp only [List.length_cons]; omega
    · unfold rd
      rw [List.getD_eq_getElem?_getD, List.getElem?_replicate, if_pos (by omega)]; rfl
theorem steps_l0 {r : List Int} {x2 : Int} (hn : n ≤ 1000) (h : Ev (fun k => lambrequinref10_Steps.j1 k n l x2 (List.replicate n.toNat (-1)) (decide (x2 < 0 ∨ n ≤ x2))) r) : ∀ m i, n.toNat = i + m → (n < 0 → m = 0) → Ev (fun k => lambrequinref10_Steps.l0 k n l x2 (List.replicate i (-1)) (i : Int)) r
  | 0, i, e, _ => by
    obtain rfl : i = n.toNat := by omega
    refine Ev.step (fun k => ?_) h
    rw [lambrequinref10_Steps.l0, if_neg (by omega)]
    by_cases c : x2 < 0
    · rw [if_pos c, decide_eq_true (.inl c)]
    · rw [if_neg c]
      congr 1
      simp [c]
  | m + 1, i, e, hm => by
    refine Ev.step (fun k => ?_) (steps_l0 hn h m (i + 1) (by omega) (by omega))
    rw [lambrequinref10_Steps.l0, if_pos (by omega), if_pos (by simp; omega), w64 (by omega), List.replicate_succ']
    rfl
theorem Steps_ok (ok : OkE n l) (a0 : 0 ≤ a) (a1 : a < n) : ∃ r, Ev (fun k => lambrequinref10_Steps.f k n l a) r ∧ IsSteps n (Ed l) a r := by
  obtain ⟨r, h1, h2⟩ := steps_l1 ok a0 a1 n.toNat 0 _ (by omega) (DI.start a0 a1)
  refine ⟨r, ?_, h2⟩
  refine steps_l0 (x2 := a) (l := l) ok.n1 (Ev.step (fun k => ?_) h1) n.toNat 0 (by omega) (by omega)
  rw [lambrequinref10_Steps.j1, decide_eq_false (by omega), if_neg (by simp), if_pos a0, if_pos (by simp; omega)]
  rfl
theorem Steps_out (hn : n ≤ 1000) (h : a < 0 ∨ n ≤ a) : Ev (fun k => lambrequinref10_Steps.f k n l a) (List.replicate n.toNat (-1)) := by
  refine steps_l0 (x2 := a) (l := l) hn (Ev.step (fun k => ?_) (Ev.now _)) n.toNat 0 (by omega) (by omega)
  rw [lambrequinref10_Steps.j1, decide_eq_true h, if_pos rfl]
end
end Go.Proofs.Ytngmdccheaidkaa.Pr
end
section
/- Plain laws: the document's may, Clean, Reach. -/
namespace Go.Proofs.Ytngmdccheaidkaa.Pr
open Go.RowKit Go.Proofs.YtngmdccheaidkaaW.PrintWords Go.Proofs.YtngmdccheaidkaaW.PrintLast Go.Proofs.YtngmdccheaidkaaW.PrintMore
section
variable {n : Int} {l : List S27}
theorem may_l0 (hl : l.length ≤ 1000) {r : Bool} (hr : r = true ↔ OkE n l) : ∀ m i, l.length = i + m → (∀ j (hj : j < l.length), j < i → 0 ≤ l[j].f0 ∧ l[j].f0 < n ∧ 0 ≤ l[j].f1 ∧ l[j].f1 < n) → Ev (fun k => lambrequinref10_may.l0 k n l (i : Int)) r
  | 0, i, e, h => by
    have hall : ∀ x ∈ l, 0 ≤ x.f0 ∧ x.f0 < n ∧ 0 ≤ x.f1 ∧ x.f1 < n := fun x hx => by
      obtain ⟨j, hj, rfl⟩ := List.getElem_of_mem hx
      exact h j hj (by omega)
    refine Ev.step (f := fun _ => some r) (fun k => ?_) (Ev.now _)
    rw [lambrequinref10_may.l0, if_neg (by omega)]
    by_cases c : OkE n l
    · rw [if_pos c.n0, decide_eq_true c.n1, hr.2 c]
    · have hf : r = false := by
        rcases r with _ | _
        · rfl
        · exact absurd (hr.1 rfl) c
      subst hf
      by_cases c2 : n ≥ 0
      · rw [if_pos c2, decide_eq_false]
        exact fun c3 => c ⟨c2, c3, by omega, hall⟩
      · rw [if_neg c2]
  | m + 1, i, e, h => by
    have hi : i < l.length := by omega
    by_cases c : 0 ≤ l[i].f0 ∧ l[i].f0 < n ∧ 0 ≤ l[i].f1 ∧ l[i].f1 < n
    · refine Ev.step (fun k => ?_) (may_l0 hl hr m (i + 1) (by omega) (fun j hj hji => by
        by_cases e2 : j = i
        · subst e2; exact c
        · exact h j hj (by omega)))
      rw [lambrequinref10_may.l0, if_pos (by omega), if_pos (by omega), rd27_get hi, if_neg (by omega), if_neg (by omega), if_neg (by omega), if_neg (by omega), w64 (by omega)]
      rfl
    · have hf : r = false := by
        rcases r with _ | _
        · rfl
        · exact absurd ((hr.1 rfl).mem _ (List.getElem_mem hi)) c
      subst hf
      refine Ev.step (f := fun _ => some false) (fun k => ?_) (Ev.now _)
      rw [lambrequinref10_may.l0, if_pos (by omega), if_pos (by omega), rd27_get hi]
      by_cases c1 : l[i].f0 < 0
      · rw [if_pos c1]
      · by_cases c2 : l[i].f0 ≥ n
        · rw [if_neg c1, if_pos c2]
        · by_cases c3 : l[i].f1 < 0
          · rw [if_neg c1, if_neg c2, if_pos c3]
          · rw [if_neg c1, if_neg c2, if_neg c3, if_pos (by omega)]
theorem may_ok (hl : l.length ≤ 1000) (h : OkE n l) : Ev (fun k => lambrequinref10_may.f k n l) true := may_l0 hl (by simp [h]) l.length 0 (by omega) (fun j _ h => by omega)
theorem may_bad (hl : l.length ≤ 1000) (h : ¬ OkE n l) : Ev (fun k => lambrequinref10_may.f k n l) false := may_l0 hl (by simp [h]) l.length 0 (by omega) (fun j _ h => by omega)
/-! ### Clean -/
theorem insert_rising {acc : List S27} (ha : acc.Pairwise ltS) {e : S27} {j : Nat} (h1 : ∀ i (hi : i < acc.length), i < j → ltS acc[i] e) (h2 : ∀ i (hi : i < acc.length), j ≤ i → ltS e acc[i]) : (acc.take j ++ [e] ++ acc.drop j).Pairwise ltS := by
  have hta : ∀ x ∈ acc.take j, ltS x e := fun x hx => by
    obtain ⟨i, hi, rfl⟩ := List.getElem_of_mem hx
    rw [List.length_take] at hi
    rw [List.getElem_take]
    exact h1 i (by omega) (by omega)
  have hdr : ∀ x ∈ acc.drop j, ltS e x := fun x hx => by
    obtain ⟨i, hi, rfl⟩ := List.getElem_of_mem hx
    rw [List.length_drop] at hi
    rw [List.getElem_drop]
    exact h2 (j + i) (by omega) (by omega)
  have hs : (acc.take j ++ acc.drop j).Pairwise ltS := by rw [List.take_append_drop]; exact ha
  rw [List.pairwise_append] at hs
  rw [List.append_assoc, List.pairwise_append]
  refine ⟨hs.1, ?_, fun x hx y hy => ?_⟩
  · exact List.pairwise_cons.2 ⟨hdr, hs.2.1⟩
  · rcases List.mem_cons.1 hy with rfl | hy
    · exact hta x hx
    · exact hs.2.2 x hx y hy
theorem insert_mem {acc : List S27} {e x : S27} {j : Nat} : x ∈ acc.take j ++ [e] ++ acc.drop j ↔ x ∈ acc ∨ x = e := by
  rw [List.mem_append, List.mem_append, List.mem_singleton]
  conv => rhs; rw [← List.take_append_drop j acc, List.mem_append]
  constructor
  · rintro ((h | h) | h)
    · exact .inl (.inl h)
    · exact .inr h
    · exact .inl (.inr h)
  · rintro ((h | h) | h)
    · exact .inl (.inl h)
    · exact .inr h
    · exact .inl (.inr h)
theorem refclean_l1 (hl : l.length ≤ 1000) {i : Nat} (hi : i < l.length) {acc : List S27} (hal : acc.length ≤ i) (ha : acc.Pairwise ltS)
    (hnext : ∀ acc', acc'.Pairwise ltS → acc'.length ≤ i + 1 → (∀ x, x ∈ acc' ↔ x ∈ acc ∨ x = l[i]) → Ev (fun k => lambrequinref10_Clean.l0 k l acc' ((i : Int) + 1)) (cleanP l, 0)) :
    ∀ m j, acc.length = j + m → (∀ i' (h : i' < acc.length), i' < j → ltS acc[i'] l[i]) → Ev (fun k => lambrequinref10_Clean.l1 k l acc (i : Int) (j : Int) l[i].f0 l[i].f1) (cleanP l, 0)
  | 0, j, e, h => by
    have hins := hnext (acc.take j ++ [l[i]] ++ acc.drop j) (insert_rising ha h (fun i' h1 h2 => by omega)) (by simp only [List.length_append, List.length_cons, List.length_nil, List.length_take, List.length_drop]; omega) (fun x => insert_mem)
    refine Ev.step (fun k => ?_) hins
    rw [lambrequinref10_Clean.l1, if_neg (by omega)]
    simp only [Option.bind_some, List.nil_append]
    rw [if_pos (by omega), if_pos (by omega), if_pos (by simp only [List.length_nil, Int.toNat_natCast, List.length_take]; omega), if_pos (by simp only [Int.toNat_natCast, List.length_take]; omega), if_pos (by simp only [Int.toNat_natCast, List.length_append, List.length_cons, List.length_nil, List.length_take, List.length_drop]; omega), w64 (by omega)]
    rfl
  | m + 1, j, e, h => by
    have hj : j < acc.length := by omega
    by_cases c : ltS acc[j] l[i]
    · refine Ev.step (fun k => ?_) (refclean_l1 hl hi hal ha hnext m (j + 1) (by omega) (fun i' h1 h2 => by
        by_cases e2 : i' = j
        · subst e2; exact c
        · exact h i' h1 (by omega)))
      rw [lambrequinref10_Clean.l1, if_pos (by omega), if_pos (by omega), rd27_get hj]
      unfold ltS at c
      by_cases c1 : acc[j].f0 < l[i].f0
      · rw [if_pos c1, w64 (by omega)]; rfl
      · rw [if_neg c1, if_pos (by omega), if_pos (by omega), w64 (by omega)]; rfl
    · by_cases ceq : acc[j] = l[i]
      · have hsame := hnext acc ha (by omega) (fun x => ⟨fun h => .inl h, fun h => by
          rcases h with h | rfl
          · exact h
          · rw [← ceq]; exact List.getElem_mem hj⟩)
        refine Ev.step (fun k => ?_) hsame
        rw [lambrequinref10_Clean.l1, if_pos (by omega), if_pos (by omega), rd27_get hj, ceq, if_neg (by omega), if_pos rfl, if_neg (by omega), if_pos (by simp), w64 (by omega)]
      · have hgt : ltS l[i] acc[j] := by
          unfold ltS at c ⊢
          have : ¬ (acc[j].f0 = l[i].f0 ∧ acc[j].f1 = l[i].f1) := fun q => ceq (by
            cases h1 : acc[j]; cases h2 : l[i]
            rw [h1, h2] at q
            simp at q
            simp [q])
          omega
        have hins := hnext (acc.take j ++ [l[i]] ++ acc.drop j) (insert_rising ha h (fun i' h1 h2 => by
          by_cases e2 : i' = j
          · subst e2; exact hgt
          · have := List.pairwise_iff_getElem.1 ha j i' hj h1 (by omega)
            unfold ltS at *; omega)) (by simp only [List.length_append, List.length_cons, List.length_nil, List.length_take, List.length_drop]; omega) (fun x => insert_mem)
        refine Ev.step (fun k => ?_) hins
        have hne : ¬ ((acc[j].f0 == l[i].f0 && acc[j].f1 == l[i].f1) = true) := by
          simp only [Bool.and_eq_true, beq_iff_eq]
          unfold ltS at hgt; omega
        rw [lambrequinref10_Clean.l1, if_pos (by omega), if_pos (by omega), rd27_get hj]
        simp only [Option.bind_some, List.nil_append]
        unfold ltS at hgt
        rw [if_neg (by omega)]
        by_cases c2 : acc[j].f0 = l[i].f0
        · rw [if_pos c2, if_neg (by omega), if_neg hne, if_pos (by omega), if_pos (by simp only [List.length_nil, Int.toNat_natCast, List.length_take]; omega), if_pos (by simp only [Int.toNat_natCast, List.length_take]; omega), if_pos (by simp only [Int.toNat_natCast, List.length_append, List.length_cons, List.length_nil, List.length_take, List.length_drop]; omega), w64 (by omega)]
          rfl
        · rw [if_neg c2, if_neg hne, if_pos (by omega), if_pos (by simp only [List.length_nil, Int.toNat_natCast, List.length_take]; omega), if_pos (by simp only [Int.toNat_natCast, List.length_take]; omega), if_pos (by simp only [Int.toNat_natCast, List.length_append, List.length_cons, List.length_nil, List.length_take, List.length_drop]; omega), w64 (by omega)]
          rfl
theorem refclean_l0 (hl : l.length ≤ 1000) : ∀ m i acc, l.length = i + m → acc.length ≤ i → acc.Pairwise ltS → (∀ x, x ∈ acc ↔ x ∈ l.take i) → Ev (fun k => lambrequinref10_Clean.l0 k l acc (i : Int)) (cleanP l, 0)
  | 0, i, acc, e, hal, ha, hm => by
    rw [List.take_of_length_le (by omega)] at hm
    obtain rfl : acc = cleanP l := rising_unique (lt := ltS) (fun a h => by unfold ltS at h; omega) (fun a b c h k => by unfold ltS at *; omega) ha (cleanP_rising l) (fun x => by rw [hm, mem_cleanP])
    refine Ev.step (fun k => ?_) (Ev.now _)
    rw [lambrequinref10_Clean.l0, if_neg (by omega)]
  | m + 1, i, acc, e, hal, ha, hm => by
    have hi : i < l.length := by omega
    refine Ev.step (fun k => ?_) (refclean_l1 hl hi hal ha (fun acc' h1 h2 h3 => refclean_l0 hl m (i + 1) acc' (by omega) h2 h1 (fun x => by
      rw [h3, hm, List.take_succ_eq_append_getElem hi, List.mem_append, List.mem_singleton])) acc.length 0 (by omega) (fun i' _ h => by omega))
    rw [lambrequinref10_Clean.l0, if_pos (by omega), if_pos (by omega), rd27_get hi]
    rfl
theorem refClean_ok (hl : l.length ≤ 1000) (h : OkE n l) : Ev (fun k => lambrequinref10_Clean.f k n l) (cleanP l, 0) :=
  Ev.bind (may_ok hl h) (Ev.congr (fun k => if_pos rfl) (refclean_l0 hl l.length 0 [] (by omega) (by simp) (by simp) (by simp)))
theorem refClean_bad (hl : l.length ≤ 1000) (h : ¬ OkE n l) : Ev (fun k => lambrequinref10_Clean.f k n l) ([], 1) :=
  Ev.bind (may_bad hl h) (Ev.congr (fun k => if_neg (by simp)) (Ev.now _))
/-! ### Reach -/
theorem refreach_l0 (hn : n ≤ 1000) {st : List Int} (hs : st.length = n.toNat) {T : List Bool} (hT : T.length = n.toNat) (h : ∀ i (hi : i < T.length), T[i] = decide (rd st (i : Int) ≥ 0)) : ∀ m i, n.toNat = i + m → Ev (fun k => lambrequinref10_Reach.l0 k n (T.take i) st (i : Int)) T
  | 0, i, e => by
    rw [List.take_of_length_le (by omega)]
    refine Ev.step (fun k => ?_) (Ev.now _)
    rw [lambrequinref10_Reach.l0, if_neg (by omega)]
  | m + 1, i, e => by
    refine Ev.step (fun k => ?_) (refreach_l0 hn hs hT h m (i + 1) (by omega))
    rw [lambrequinref10_Reach.l0, if_pos (by omega), if_pos (by omega), if_pos (by omega), if_pos (by rw [List.length_take]; omega), w64 (by omega), ← h i (by omega), ← List.take_succ_eq_append_getElem]
    rfl
theorem refReach_ok (hl : l.length ≤ 1000) (h : OkE n l) {a : Int} (a0 : 0 ≤ a) (a1 : a < n) : Ev (fun k => lambrequinref10_Reach.f k n l a) (reachP n.toNat (Ed l) a) := by
  obtain ⟨r, hr, hs⟩ := Steps_ok h a0 a1
  have := refreach_l0 h.n1 hs.1 (reachP_len n.toNat (Ed l) a) (fun i hi => by
    rw [reachP_len] at hi
    have h1 := rd_reachP (n := n.toNat) (R := Ed l) (a := a) (x := (i : Int)) (by omega) (by omega)
    rw [rdOf_get (by omega) (by rw [reachP_len]; omega)] at h1
    simp only [Int.toNat_natCast] at h1
    rcases hs.2 (i : Int) (by omega) (by omega) with ⟨p, k1, k2⟩ | ⟨k1, k2⟩
    · have := k1.1.pos
      rw [h1.2 ⟨p, k1.1⟩, decide_eq_true (by omega)]
    · rw [decide_eq_false (by omega)]
      rcases hq : (reachP n.toNat (Ed l) a)[i]'(by rw [reachP_len]; exact hi) with _ | _
      · rfl
      · exact absurd (h1.1 hq) k1) n.toNat 0 (by omega)
  rw [List.take_zero] at this
  exact Ev.bind (may_ok hl h) (Ev.congr (fun k => if_pos rfl) (Ev.bind hr this))
theorem refReach_out (hl : l.length ≤ 1000) (h : OkE n l) {a : Int} (ha : a < 0 ∨ n ≤ a) : Ev (fun k => lambrequinref10_Reach.f k n l a) (List.replicate n.toNat false) := by
  have hr := Steps_out (l := l) h.n1 ha
  have := refreach_l0 (st := List.replicate n.toNat (-1)) (T := List.replicate n.toNat false) h.n1 (by simp) (by simp) (fun i hi => by
    rw [List.length_replicate] at hi
    have : rd (List.replicate n.toNat (-1)) (i : Int) = -1 := by rw [rd_get (by simp; omega)]; simp
    rw [this]; simp) n.toNat 0 (by omega)
  rw [List.take_zero] at this
  exact Ev.bind (may_ok hl h) (Ev.congr (fun k => if_pos rfl) (Ev.bind hr this))
theorem refReach_bad (hl : l.length ≤ 1000) (h : ¬ OkE n l) {a : Int} : Ev (fun k => lambrequinref10_Reach.f k n l a) [] :=
  Ev.bind (may_bad hl h) (Ev.congr (fun k => if_neg (by simp)) (Ev.now _))
end
end Go.Proofs.Ytngmdccheaidkaa.Pr
end
section
/- Plain laws: the document's Parts, Path. -/
namespace Go.Proofs.Ytngmdccheaidkaa.Pr
open Go.RowKit Go.Proofs.YtngmdccheaidkaaW.PrintWords Go.Proofs.YtngmdccheaidkaaW.PrintLast Go.Proofs.YtngmdccheaidkaaW.PrintMore
set_option linter.unusedVariables false
theorem rd6_get {l : List (List Bool)} {i : Nat} (h : i < l.length) : rd_L6 l (i : Int) = l[i] := by
  unfold rd_L6
  rw [Int.toNat_natCast, List.getD_eq_getElem?_getD, List.getElem?_eq_getElem h]; rfl
theorem rdOf_bAt {l : List Bool} {i : Nat} : rdOf false l (i : Int) = bAt l i := rfl
section
variable {n : Int} {l : List S27}
theorem tos_at {R : Int → Int → Prop} {N x y : Nat} (hx : x < N) (hy : y < N) : (rd_L6 (tosP N R) (x : Int)).length = N ∧ rdOf false (rd_L6 (tosP N R) (x : Int)) (y : Int) = toAt (tosP N R) x y := by
  rw [rd6_get (by rw [tosP_len]; exact hx), tosP_get hx, reachP_len]
  refine ⟨rfl, ?_⟩
  unfold toAt
  rw [List.getD_eq_getElem?_getD, List.getElem?_eq_getElem (by rw [tosP_len]; exact hx), tosP_get hx]
  rfl
/-- Whether a node is ready: the document's loop. -/
theorem refparts_l3 {R : Int → Int → Prop} (hn : n ≤ 1000) (hn0 : 0 ≤ n) {done : List Bool} (hd : done.length = n.toNat) {out : List (List Int)} {x9 : Int} {x : Nat} (hx : x < n.toNat) {r : List (List Int)}
    (hnext : Ev (fun k => lambrequinref10_Parts.l2 k n (tosP n.toNat R) done out (if readyP (tosP n.toNat R) done n.toNat x = true then (x : Int) else x9) ((x : Int) - 1)) r) :
    ∀ m j (c : Bool), n.toNat = j + m → (c = true ↔ bAt done x = false ∧ ∀ y, y < j → badP (tosP n.toNat R) done x y = false) → Ev (fun k => lambrequinref10_Parts.l3 k n (tosP n.toNat R) done out x9 (x : Int) c (j : Int)) r
  | 0, j, c, e, hc => by
    have hcr : c = readyP (tosP n.toNat R) done n.toNat x := by
      have : readyP (tosP n.toNat R) done n.toNat x = true ↔ c = true := by
        rw [hc]
        unfold readyP
        rw [Bool.and_eq_true, List.all_eq_true, Bool.not_eq_true']
        constructor
        · rintro ⟨h1, h2⟩
          exact ⟨h2, fun y hy => by simpa using h1 y (List.mem_range.2 (by omega))⟩
        · rintro ⟨h1, h2⟩
          exact ⟨fun y hy => by rw [List.mem_range] at hy; simpa using h2 y (by omega), h1⟩
      rcases c with _ | _ <;> rcases h : readyP (tosP n.toNat R) done n.toNat x with _ | _
      · rfl
      · rw [h] at this; simp at this
      · rw [h] at this; simp at this
      · rfl
    rw [← hcr] at hnext
    refine Ev.step (fun k => ?_) hnext
    rw [lambrequinref10_Parts.l3, if_neg (by omega)]
    rcases c with _ | _
    · rw [if_neg (by simp), if_neg (by simp), w64 (by omega)]
    · rw [if_pos rfl, if_pos rfl, w64 (by omega)]
  | m + 1, j, c, e, hc => by
    have hj : j < n.toNat := by omega
    obtain ⟨t1, t2⟩ := tos_at (R := R) hx hj
    obtain ⟨u1, u2⟩ := tos_at (R := R) hj hx
    have hc' : (c && !badP (tosP n.toNat R) done x j) = true ↔ bAt done x = false ∧ ∀ y, y < j + 1 → badP (tosP n.toNat R) done x y = false := by
      rw [Bool.and_eq_true, hc, Bool.not_eq_true']
      constructor
      · rintro ⟨⟨h1, h2⟩, h3⟩
        exact ⟨h1, fun y hy => by
          by_cases e2 : y = j
          · subst e2; exact h3
          · exact h2 y (by omega)⟩
      · rintro ⟨h1, h2⟩
        exact ⟨⟨h1, fun y hy => h2 y (by omega)⟩, h2 j (by omega)⟩
    refine Ev.step (fun k => ?_) (refparts_l3 hn hn0 hd hx hnext m (j + 1) _ (by omega) hc')
    rw [lambrequinref10_Parts.l3, if_pos (by omega), w64 (n := (j : Int) + 1) (by omega)]
    rcases c with _ | _
    · rw [if_neg (by simp)]; rfl
    · rw [if_pos rfl, if_pos (by omega), if_pos (by rw [tosP_len]; omega), if_pos (by omega), t1, if_pos (by omega), t2, u1, u2]
      unfold badP
      by_cases c1 : toAt (tosP n.toNat R) x j = true
      · rw [if_pos c1, if_pos (by rw [tosP_len]; omega), if_pos (by omega), c1]
        by_cases c2 : toAt (tosP n.toNat R) j x = true
        · rw [if_pos c2, c2]; rfl
        · rw [if_neg c2, if_pos (by omega), rdOf_bAt]
          rw [Bool.not_eq_true] at c2
          rw [c2]
          congr 1
          rcases bAt done j with _ | _ <;> rfl
      · rw [if_neg c1]
        rw [Bool.not_eq_true] at c1
        rw [c1]; rfl
theorem refparts_l4 {R : Int → Int → Prop} (hn : n ≤ 1000) (hn0 : 0 ≤ n) {out : List (List Int)} (hol : out.length ≤ 10000) {x : Nat} (hx : x < n.toNat) {r : List (List Int)} {done : List Bool} (hd : done.length = n.toNat)
    (hnext : Ev (fun k => lambrequinref10_Parts.l1 k n (tosP n.toNat R) (partTo (tosP n.toNat R) x done n.toNat).2 (out ++ [(partTo (tosP n.toNat R) x done n.toNat).1])) r) :
    ∀ m j, n.toNat = j + m → (partTo (tosP n.toNat R) x done j).1.length ≤ j → (partTo (tosP n.toNat R) x done j).2.length = n.toNat → Ev (fun k => lambrequinref10_Parts.l4 k n (tosP n.toNat R) (partTo (tosP n.toNat R) x done j).2 out (x : Int) (partTo (tosP n.toNat R) x done j).1 (j : Int)) r
  | 0, j, e, h1, h2 => by
    obtain rfl : j = n.toNat := by omega
    refine Ev.step (fun k => ?_) hnext
    rw [lambrequinref10_Parts.l4, if_neg (by omega), if_pos (by omega)]
  | m + 1, j, e, h1, h2 => by
    have hj : j < n.toNat := by omega
    obtain ⟨t1, t2⟩ := tos_at (R := R) hx hj
    obtain ⟨u1, u2⟩ := tos_at (R := R) hj hx
    have hw : withP (tosP n.toNat R) x j = (toAt (tosP n.toNat R) x j && toAt (tosP n.toNat R) j x) := rfl
    have hpt : partTo (tosP n.toNat R) x done (j + 1) = if withP (tosP n.toNat R) x j = true then ((partTo (tosP n.toNat R) x done j).1 ++ [(j : Int)], (partTo (tosP n.toNat R) x done j).2.set j true) else partTo (tosP n.toNat R) x done j := by rw [partTo]
    have h1' : (partTo (tosP n.toNat R) x done (j + 1)).1.length ≤ j + 1 := by
      rw [hpt]; split
      · simp; omega
      · omega
    have h2' : (partTo (tosP n.toNat R) x done (j + 1)).2.length = n.toNat := by
      rw [hpt]; split
      · simp [h2]
      · exact h2
    refine Ev.step (fun k => ?_) (refparts_l4 hn hn0 hol hx hd hnext m (j + 1) (by omega) h1' h2')
    rw [lambrequinref10_Parts.l4, if_pos (by omega), if_pos (by omega), if_pos (by rw [tosP_len]; omega), if_pos (by omega), t1, if_pos (by omega), t2, u1, u2, w64 (n := (j : Int) + 1) (by omega), hpt, hw]
    by_cases c1 : toAt (tosP n.toNat R) x j = true
    · rw [if_pos c1, if_pos (by rw [tosP_len]; omega), if_pos (by omega), c1, Bool.true_and]
      by_cases c2 : toAt (tosP n.toNat R) j x = true
      · rw [if_pos c2, if_pos c2, if_pos (by omega), if_pos (by omega)]; rfl
      · rw [if_neg c2, if_neg c2]; rfl
    · rw [if_neg c1]
      rw [Bool.not_eq_true] at c1
      rw [c1, Bool.false_and, if_neg (by simp)]
      rfl
/-- The first node that is ready: the document's loop from the end. -/
theorem refparts_l2 {R : Int → Int → Prop} (hn : n ≤ 1000) (hn0 : 0 ≤ n) {done : List Bool} (hd : done.length = n.toNat) {out : List (List Int)} {r : List (List Int)}
    (hnone : firstReady (tosP n.toNat R) done n.toNat n.toNat 0 = none → r = out)
    (hsome : ∀ x, firstReady (tosP n.toNat R) done n.toNat n.toNat 0 = some x → Ev (fun k => lambrequinref10_Parts.l4 k n (tosP n.toNat R) done out (x : Int) [] 0) r) :
    ∀ m x9, m ≤ n.toNat → ((x9 = -1 ∧ ∀ y, m ≤ y → y < n.toNat → ¬ readyP (tosP n.toNat R) done n.toNat y = true) ∨ ∃ y : Nat, x9 = (y : Int) ∧ m ≤ y ∧ y < n.toNat ∧ readyP (tosP n.toNat R) done n.toNat y = true ∧ ∀ z, m ≤ z → z < y → ¬ readyP (tosP n.toNat R) done n.toNat z = true) →
      Ev (fun k => lambrequinref10_Parts.l2 k n (tosP n.toNat R) done out x9 ((m : Int) - 1)) r
  | 0, x9, hm, h => by
    rcases h with ⟨rfl, h⟩ | ⟨y, rfl, _, hy, hr, hmin⟩
    · have := hnone (firstReady_none.2 (fun y _ hy => h y (Nat.zero_le _) (by omega)))
      subst this
      refine Ev.step (fun k => ?_) (Ev.now _)
      rw [lambrequinref10_Parts.l2, if_neg (by omega), if_pos (by decide)]
    · have hf : firstReady (tosP n.toNat R) done n.toNat n.toNat 0 = some y := by
        rcases hq : firstReady (tosP n.toNat R) done n.toNat n.toNat 0 with _ | z
        · exact absurd hr (firstReady_none.1 hq y (Nat.zero_le _) (by omega))
        · obtain ⟨_, hz, hzr, hzm⟩ := firstReady_some hq
          have h1 : ¬ z < y := fun c => hmin z (Nat.zero_le _) c hzr
          have h2 : ¬ y < z := fun c => hzm y (Nat.zero_le _) c hr
          rw [show z = y by omega]
      refine Ev.step (fun k => ?_) (hsome y hf)
      rw [lambrequinref10_Parts.l2, if_neg (by omega), if_neg (by omega)]
  | m + 1, x9, hm, h => by
    have hstep : Ev (fun k => lambrequinref10_Parts.l2 k n (tosP n.toNat R) done out (if readyP (tosP n.toNat R) done n.toNat m = true then (m : Int) else x9) ((m : Int) - 1)) r := by
      refine refparts_l2 hn hn0 hd hnone hsome m _ (by omega) ?_
      by_cases c : readyP (tosP n.toNat R) done n.toNat m = true
      · rw [if_pos c]
        exact .inr ⟨m, rfl, Nat.le_refl _, by omega, c, fun z h1 h2 => by omega⟩
      · rw [if_neg c]
        rcases h with ⟨h1, h2⟩ | ⟨y, h1, h2, h3, h4, h5⟩
        · exact .inl ⟨h1, fun y k1 k2 => by
            by_cases e : y = m
            · subst e; exact c
            · exact h2 y (by omega) k2⟩
        · exact .inr ⟨y, h1, by omega, h3, h4, fun z k1 k2 => by
            by_cases e : z = m
            · subst e; exact c
            · exact h5 z (by omega) k2⟩
    have h3 := refparts_l3 hn hn0 hd (by omega) hstep n.toNat 0 (!(bAt done m)) (by omega) (by simp)
    refine Ev.step (fun k => ?_) h3
    rw [lambrequinref10_Parts.l2, show ((m + 1 : Nat) : Int) - 1 = (m : Int) by omega, if_pos (by omega), if_pos (by omega), if_pos (by omega), rdOf_bAt]
    rfl
theorem refparts_l1 {R : Int → Int → Prop} (hn : n ≤ 1000) (hn0 : 0 ≤ n) : ∀ k done out left, PS n.toNat R done out left → left.toNat + 1 ≤ k → out.length ≤ 10000 - left.toNat → ∀ r, partsO (tosP n.toNat R) n.toNat k done out left = some r →
    Ev (fun k => lambrequinref10_Parts.l1 k n (tosP n.toNat R) done out) r
  | 0, _, _, _, _, h, _ => by omega
  | k + 1, done, out, left, h, hk, hol => by
    intro r hr
    have hlf := h.lft
    have hcl := List.count_le_length (a := false) (l := done)
    rw [h.len] at hcl
    rw [partsO] at hr
    have hl2 := refparts_l2 (R := R) (done := done) (out := out) (r := r) hn hn0 h.len (fun hnone => by
        by_cases c : 0 < left
        · obtain ⟨x, hf, _⟩ := h.go (by omega)
          rw [hnone] at hf; cases hf
        · rw [if_neg c] at hr
          exact (Option.some.inj hr).symm) (fun x hf => by
        by_cases c : 0 < left
        · rw [if_pos c] at hr
          obtain ⟨x', hf', hx, _, _, hps, hxm⟩ := h.go (by omega)
          obtain rfl : x = x' := Option.some.inj (hf.symm.trans hf')
          rw [hf, Option.bind_some] at hr
          have hpos := List.length_pos_of_mem hxm
          have hlf' := hps.lft
          have ih := refparts_l1 hn hn0 k _ _ _ hps (by omega) (by simp only [List.length_append, List.length_cons, List.length_nil]; omega) r hr
          exact refparts_l4 hn hn0 (by omega) hx h.len ih n.toNat 0 (by omega) (by simp [partTo]) (by simp [partTo, h.len])
        · obtain rfl : left = 0 := by omega
          rw [h.stop] at hf; cases hf) n.toNat (-1) (Nat.le_refl _) (.inl ⟨rfl, fun y h1 h2 => by omega⟩)
    refine Ev.step (fun k => ?_) hl2
    rw [lambrequinref10_Parts.l1, w64 (by omega), Int.toNat_of_nonneg hn0]
theorem refparts_l0 (hl : l.length ≤ 1000) (ok : OkE n l) {r : List (List Int)} (h : Ev (fun k => lambrequinref10_Parts.l1 k n (tosP n.toNat (Ed l)) (List.replicate n.toNat false) []) r) : ∀ m i, n.toNat = i + m → Ev (fun k => lambrequinref10_Parts.l0 k n l ((tosP n.toNat (Ed l)).take i) (i : Int)) r
  | 0, i, e => by
    have hn1 := ok.n1
    rw [List.take_of_length_le (by rw [tosP_len]; omega)]
    refine Ev.step (fun k => ?_) h
    rw [lambrequinref10_Parts.l0, if_neg (by have := ok.n0; omega), if_pos ok.n0, if_pos (by omega)]
  | m + 1, i, e => by
    have hn1 := ok.n1
    have ih := refparts_l0 hl ok h m (i + 1) (by omega)
    refine Ev.step (f := fun k => (lambrequinref10_Reach.f k n l (i : Int)).bind fun t341 => lambrequinref10_Parts.l0 k n l ((tosP n.toNat (Ed l)).take i ++ [t341]) ((i : Int) + 1)) (fun k => ?_) (Ev.bind (refReach_ok hl ok (by omega) (by omega)) ?_)
    · rw [lambrequinref10_Parts.l0, if_pos (by omega), w64 (by omega)]
      congr 1
      funext t
      rw [if_pos (by rw [List.length_take]; omega)]
    · rw [← tosP_get (n := n.toNat) (R := Ed l) (i := i) (by omega), ← List.take_succ_eq_append_getElem]
      exact ih
theorem refParts_ok (hl : l.length ≤ 1000) (ok : OkE n l) {r : List (List Int)} (hr : graph_Parts.f n l = some r) : Ev (fun k => lambrequinref10_Parts.f k n l) r := by
  rw [Parts_is ok] at hr
  have hn0 := ok.n0
  have hps := PS.start (n := n.toNat) (R := Ed l)
  rw [Int.toNat_of_nonneg hn0] at hps
  have hn1 := ok.n1
  have h1 := refparts_l1 ok.n1 hn0 (n.toNat + 2) _ _ _ hps (by omega) (by simp only [List.length_nil]; omega) r hr
  have h0 := refparts_l0 hl ok h1 n.toNat 0 (by omega)
  rw [List.take_zero] at h0
  exact Ev.bind (may_ok hl ok) (Ev.congr (fun k => if_pos rfl) h0)
theorem refParts_bad (hl : l.length ≤ 1000) (h : ¬ OkE n l) : Ev (fun k => lambrequinref10_Parts.f k n l) [] :=
  Ev.bind (may_bad hl h) (Ev.congr (fun k => if_neg (by simp)) (Ev.now _))
end
end Go.Proofs.Ytngmdccheaidkaa.Pr
end
section
/- Plain laws: the document's Path. -/
namespace Go.Proofs.Ytngmdccheaidkaa.Pr
open Go.RowKit Go.Proofs.YtngmdccheaidkaaW.PrintWords Go.Proofs.YtngmdccheaidkaaW.PrintLast Go.Proofs.YtngmdccheaidkaaW.PrintMore
set_option linter.unusedVariables false
theorem Short.rev {R : Int → Int → Prop} {a b : Int} {p : List Int} (h : Short R a p b) : Short (fun x y => R y x) b p.reverse a :=
  ⟨h.1.rev, fun q hq => by
    have := h.2 _ hq.rev
    simpa using this⟩
section
variable {n : Int} {l : List S27} {b : Int} {t : List Int}
/-- The steps to b. -/
def ToSteps (n : Int) (R : Int → Int → Prop) (b : Int) (t : List Int) : Prop := t.length = n.toNat ∧ ∀ x, 0 ≤ x → x < n → (∃ p, Short R x p b ∧ rd t x = (p.length : Int) - 1) ∨ (¬ Rt R x b ∧ rd t x = -1)
theorem toSteps {R : Int → Int → Prop} (h : IsSteps n (fun x y => R y x) b t) : ToSteps n R b t := ⟨h.1, fun x h0 h1 => by
  rcases h.2 x h0 h1 with ⟨p, k1, k2⟩ | ⟨k1, k2⟩
  · exact .inl ⟨p.reverse, k1.rev, by rw [List.length_reverse]; exact k2⟩
  · exact .inr ⟨fun hr => k1 hr.rev, k2⟩⟩
theorem ToSteps.short {R : Int → Int → Prop} (h : ToSteps n R b t) {x : Int} (h0 : 0 ≤ x) (h1 : x < n) {p : List Int} (hp : Short R x p b) : rd t x = (p.length : Int) - 1 := by
  rcases h.2 x h0 h1 with ⟨q, k1, k2⟩ | ⟨k1, _⟩
  · rw [k2, k1.len hp]
  · exact absurd ⟨_, hp.1⟩ k1
/-- The next nodes that are nearer. -/
def Nearer (l : List S27) (t : List Int) (x z : Int) : Prop := Ed l x z ∧ rd t z = rd t x - 1
theorem refpath_l2 (hl : l.length ≤ 1000) (ok : OkE n l) (ht : ToSteps n (Ed l) b t) {x : Int} (x0 : 0 ≤ x) (x1 : x < n) {acc : List Int} (hal : acc.length ≤ 10000) {r : List Int} {y : Int} (hy : Nearer l t x y ∧ ∀ z, Nearer l t x z → y ≤ z) (hnext : Ev (fun k => lambrequinref10_Path.l1 k l b t (acc ++ [y]) y) r) :
    ∀ m j best, l.length = j + m → ((best = -1 ∧ ∀ (i : Nat) (e : S27), i < j → l[i]? = some e → e.f0 = x → ¬ Nearer l t x e.f1) ∨ (Nearer l t x best ∧ ∀ (i : Nat) (e : S27), i < j → l[i]? = some e → e.f0 = x → Nearer l t x e.f1 → best ≤ e.f1)) →
      Ev (fun k => lambrequinref10_Path.l2 k l b t acc x best (j : Int)) r
  | 0, j, best, e, h => by
    have hb : best = y := by
      obtain ⟨i, hi⟩ := List.getElem?_of_mem (show (⟨x, y⟩ : S27) ∈ l from hy.1.1)
      have hil := (List.getElem?_eq_some_iff.1 hi).1
      rcases h with ⟨_, h⟩ | ⟨h1, h2⟩
      · exact absurd hy.1 (h i _ (by omega) hi rfl)
      · have := h2 i _ (by omega) hi rfl hy.1
        have := hy.2 best h1
        simp only at *
        omega
    subst hb
    refine Ev.step (fun k => ?_) hnext
    rw [lambrequinref10_Path.l2, if_neg (by omega), if_pos (by omega)]
  | m + 1, j, best, e, h => by
    have hj : j < l.length := by omega
    have hm := ok.mem _ (List.getElem_mem hj)
    have hget := List.getElem?_eq_getElem hj
    have htl := ht.1
    have hxd : -1 ≤ rd t x ∧ rd t x ≤ 10000 := by
      rcases ht.2 x x0 x1 with ⟨p, k1, k2⟩ | ⟨_, k2⟩
      · have h1 := k1.1.pos
        have h2 := nodup_len (n := n.toNat) k1.nodup (k1.1.all (P := fun z => 0 ≤ z ∧ z < (n.toNat : Int)) (fun u v huv => by have := ok.edge huv; omega) ⟨x0, by omega⟩)
        have := ok.n1
        omega
      · omega
    have hbest : best < 0 ↔ best = -1 := by
      rcases h with ⟨h1, _⟩ | ⟨h1, _⟩
      · omega
      · have := ok.edge h1.1; omega
    by_cases c : l[j].f0 = x
    · by_cases c2 : rd t l[j].f1 = rd t x - 1
      · have hnear : Nearer l t x l[j].f1 := ⟨by
          have : (⟨x, l[j].f1⟩ : S27) = l[j] := by rw [← c]
          show (⟨x, l[j].f1⟩ : S27) ∈ l
          rw [this]; exact List.getElem_mem hj, c2⟩
        have hnew : ∀ best', (best' = l[j].f1 ∨ best' = best) → (Nearer l t x best') → best' ≤ l[j].f1 → (∀ (i : Nat) (e : S27), i < j → l[i]? = some e → e.f0 = x → Nearer l t x e.f1 → best' ≤ e.f1) → Ev (fun k => lambrequinref10_Path.l2 k l b t acc x best' ((j : Int) + 1)) r := fun best' _ h1 h2 h3 =>
          refpath_l2 hl ok ht x0 x1 hal hy hnext m (j + 1) best' (by omega) (.inr ⟨h1, fun i e' hi he' hx hz => by
            by_cases e2 : i = j
            · subst e2
              obtain rfl := Option.some.inj (hget.symm.trans he')
              exact h2
            · exact h3 i e' (by omega) he' hx hz⟩)
        by_cases c3 : best < 0
        · refine Ev.step (fun k => ?_) (hnew l[j].f1 (.inl rfl) hnear (Int.le_refl _) (fun i e' hi he' hx hz => by
            rcases h with ⟨_, h⟩ | ⟨h1, _⟩
            · exact absurd hz (h i e' hi he' hx)
            · have := ok.edge h1.1; omega))
          rw [lambrequinref10_Path.l2, if_pos (by omega), if_pos (by omega), rd27_get hj, if_pos c, if_pos hm.2.2.1, if_pos (by omega), if_pos x0, if_pos (by omega), w64 (n := rd t x - 1) (by omega), if_pos c2, if_pos c3, w64 (by omega)]
        · have hcand : Nearer l t x best ∧ ∀ (i : Nat) (e : S27), i < j → l[i]? = some e → e.f0 = x → Nearer l t x e.f1 → best ≤ e.f1 := by
            rcases h with ⟨h1, _⟩ | h
            · exact absurd (hbest.2 h1) c3
            · exact h
          by_cases c4 : l[j].f1 < best
          · refine Ev.step (fun k => ?_) (hnew l[j].f1 (.inl rfl) hnear (Int.le_refl _) (fun i e' hi he' hx hz => by have := hcand.2 i e' hi he' hx hz; omega))
            rw [lambrequinref10_Path.l2, if_pos (by omega), if_pos (by omega), rd27_get hj, if_pos c, if_pos hm.2.2.1, if_pos (by omega), if_pos x0, if_pos (by omega), w64 (n := rd t x - 1) (by omega), if_pos c2, if_neg c3, if_pos c4, w64 (by omega)]
          · refine Ev.step (fun k => ?_) (hnew best (.inr rfl) hcand.1 (by omega) hcand.2)
            rw [lambrequinref10_Path.l2, if_pos (by omega), if_pos (by omega), rd27_get hj, if_pos c, if_pos hm.2.2.1, if_pos (by omega), if_pos x0, if_pos (by omega), w64 (n := rd t x - 1) (by omega), if_pos c2, if_neg c3, if_neg c4, w64 (by omega)]
      · refine Ev.step (fun k => ?_) (refpath_l2 hl ok ht x0 x1 hal hy hnext m (j + 1) best (by omega) (by
          have hk : ∀ (i : Nat) (e : S27), i < j + 1 → l[i]? = some e → i = j → ¬ Nearer l t x e.f1 := fun i e' hi he' e2 hz => by
            subst e2
            obtain rfl := Option.some.inj (hget.symm.trans he')
            exact c2 hz.2
          rcases h with ⟨h1, h2⟩ | ⟨h1, h2⟩
          · refine .inl ⟨h1, fun i e' hi he' hx hz => ?_⟩
            by_cases e2 : i = j
            · exact hk i e' hi he' e2 hz
            · exact h2 i e' (by omega) he' hx hz
          · refine .inr ⟨h1, fun i e' hi he' hx hz => ?_⟩
            by_cases e2 : i = j
            · exact absurd hz (hk i e' hi he' e2)
            · exact h2 i e' (by omega) he' hx hz))
        rw [lambrequinref10_Path.l2, if_pos (by omega), if_pos (by omega), rd27_get hj, if_pos c, if_pos hm.2.2.1, if_pos (by omega), if_pos x0, if_pos (by omega), w64 (n := rd t x - 1) (by omega), if_neg c2, w64 (by omega)]
        rfl
    · refine Ev.step (fun k => ?_) (refpath_l2 hl ok ht x0 x1 hal hy hnext m (j + 1) best (by omega) (by
        have hk : ∀ (i : Nat) (e : S27), l[i]? = some e → e.f0 = x → i ≠ j := fun i e' he' hx e2 => by
          subst e2
          obtain rfl := Option.some.inj (hget.symm.trans he')
          exact c hx
        rcases h with ⟨h1, h2⟩ | ⟨h1, h2⟩
        · exact .inl ⟨h1, fun i e' hi he' hx hz => h2 i e' (by have := hk i e' he' hx; omega) he' hx hz⟩
        · exact .inr ⟨h1, fun i e' hi he' hx hz => h2 i e' (by have := hk i e' he' hx; omega) he' hx hz⟩))
      rw [lambrequinref10_Path.l2, if_pos (by omega), if_pos (by omega), rd27_get hj, if_neg c, w64 (by omega)]
      rfl
theorem least_of {P : Int → Prop} (h : ∃ x, P x) (hb : ∀ x, P x → 0 ≤ x) : ∃ y, P y ∧ ∀ z, P z → y ≤ z := by
  obtain ⟨x, hx⟩ := h
  suffices ∀ m (x : Int), P x → x.toNat ≤ m → ∃ y, P y ∧ ∀ z, P z → y ≤ z from this _ x hx (Nat.le_refl _)
  intro m
  induction m with
  | zero => exact fun x hx hm => ⟨x, hx, fun z hz => by have := hb z hz; omega⟩
  | succ m ih =>
    intro x hx hm
    by_cases c : ∃ z, P z ∧ z < x
    · obtain ⟨z, hz, hlt⟩ := c
      exact ih z hz (by have := hb z hz; omega)
    · exact ⟨x, hx, fun z hz => Int.not_lt.1 fun q => c ⟨z, hz, q⟩⟩
theorem refpath_l1 (hl : l.length ≤ 1000) (ok : OkE n l) (ht : ToSteps n (Ed l) b t) : ∀ m x (acc : List Int) p, Short (Ed l) x p b → p.length = m + 1 → 0 ≤ x → x < n → acc.length + m ≤ 5000 →
    ∃ q, Least (Ed l) x q b ∧ Ev (fun k => lambrequinref10_Path.l1 k l b t (acc ++ [x]) x) (acc ++ q)
  | 0, x, acc, p, hp, hpl, x0, x1, hal => by
    have hx : x = b := by
      cases hp.1 with
      | one => rfl
      | cons _ t => have := t.pos; simp only [List.length_cons] at hpl; omega
    subst hx
    have hone : ∀ q, Short (Ed l) x q x → q = [x] := fun q hq => by
      have := hq.2 _ (.one x)
      cases hq.1 with
      | one => rfl
      | cons _ t => have := t.pos; simp only [List.length_cons, List.length_nil] at *; omega
    refine ⟨[x], ⟨⟨.one x, fun q hq => hq.pos⟩, fun q hq => by rw [hone q hq]; exact lexLE.refl _⟩, Ev.step (fun k => ?_) (Ev.now _)⟩
    rw [lambrequinref10_Path.l1, if_pos rfl]
  | m + 1, x, acc, p, hp, hpl, x0, x1, hal => by
    have hxb : x ≠ b := fun e => by
      subst e
      have := hp.2 _ (.one x)
      simp only [List.length_cons, List.length_nil] at this
      omega
    have hdx := ht.short x0 x1 hp
    have hex : ∃ z, Nearer l t x z := by
      cases hp.1 with
      | one => exact absurd rfl hxb
      | @cons _ c _ p' h' t' =>
        have hc := ok.edge h'
        have hsc : Short (Ed l) c p' b := ⟨t', fun q hq => by have := hp.2 _ (.cons h' hq); simp only [List.length_cons] at this; omega⟩
        exact ⟨c, h', by rw [ht.short hc.2.2.1 hc.2.2.2 hsc, hdx]; simp only [List.length_cons]; omega⟩
    obtain ⟨y, hy⟩ := least_of hex (fun z hz => (ok.edge hz.1).2.2.1)
    have hye := ok.edge hy.1.1
    have hys : ∃ p', Short (Ed l) y p' b ∧ p'.length = m + 1 := by
      have h1 := hy.1.2
      rcases ht.2 y hye.2.2.1 hye.2.2.2 with ⟨p', k1, k2⟩ | ⟨_, k2⟩
      · exact ⟨p', k1, by omega⟩
      · omega
    obtain ⟨p', hp', hpl'⟩ := hys
    obtain ⟨q, hq, hev⟩ := refpath_l1 hl ok ht m y (acc ++ [x]) p' hp' hpl' hye.2.2.1 hye.2.2.2 (by simp only [List.length_append, List.length_cons, List.length_nil]; omega)
    have hql := hq.1.len hp'
    refine ⟨x :: q, ⟨⟨.cons hy.1.1 hq.1.1, fun r hr => by have := hp.2 r hr; simp only [List.length_cons]; omega⟩, fun r hr => ?_⟩, ?_⟩
    · have hrl := hr.len hp
      cases hr.1 with
      | one => exact absurd rfl hxb
      | @cons _ c _ r' h' t' =>
        have hc := ok.edge h'
        have hsc : Short (Ed l) c r' b := ⟨t', fun s hs => by have := hr.2 _ (.cons h' hs); simp only [List.length_cons] at this; omega⟩
        have hnear : Nearer l t x c := ⟨h', by rw [ht.short hc.2.2.1 hc.2.2.2 hsc, hdx]; simp only [List.length_cons] at hrl; omega⟩
        refine .inr ⟨rfl, ?_⟩
        have hle := hy.2 c hnear
        by_cases e : y = c
        · subst e
          exact hq.2 r' hsc
        · have hq1 := hq.1.1.head
          have hr1 := t'.head
          cases q with
          | nil => simp at hq1
          | cons u v =>
            cases r' with
            | nil => simp at hr1
            | cons u' v' =>
              simp only [List.head?_cons, Option.some.injEq] at hq1 hr1
              subst hq1 hr1
              exact .inl (by omega)
    · have e1 : acc ++ [x] ++ q = acc ++ x :: q := by simp
      rw [e1] at hev
      refine Ev.step (fun k => ?_) (refpath_l2 hl ok ht x0 x1 (acc := acc ++ [x]) (by simp only [List.length_append, List.length_cons, List.length_nil]; omega) hy hev l.length 0 (-1) (by omega) (.inl ⟨rfl, fun i e' hi => by omega⟩))
      rw [lambrequinref10_Path.l1, if_neg hxb]
      rfl
def swapE (x : S27) : S27 := ⟨x.f1, x.f0⟩
theorem Ed_swap {x y : Int} : Ed (l.map swapE) x y ↔ Ed l y x := by
  unfold Ed
  rw [List.mem_map]
  constructor
  · rintro ⟨⟨u, v⟩, h, e⟩
    simp only [swapE, S27.mk.injEq] at e
    obtain ⟨rfl, rfl⟩ := e
    exact h
  · intro h; exact ⟨⟨y, x⟩, h, rfl⟩
theorem refpath_l0 (hl : l.length ≤ 1000) {x2 : Int} {r : List Int} (h : Ev (fun k => (lambrequinref10_Steps.f k n (l.map swapE) b).bind fun t373 => (if 0 ≤ x2 then (if x2 < (t373.length : Int) then (if (rd t373 x2) < 0 then (some ([] : List Int)) else (lambrequinref10_Path.l1 k l b t373 (([x2] : List Int)) x2)) else (none)) else (none))) r) :
    ∀ m i, l.length = i + m → Ev (fun k => lambrequinref10_Path.l0 k n l x2 b ((l.take i).map swapE) (i : Int)) r
  | 0, i, e => by
    rw [List.take_of_length_le (by omega)]
    refine Ev.step (fun k => ?_) h
    rw [lambrequinref10_Path.l0, if_neg (by omega)]
  | m + 1, i, e => by
    have hi : i < l.length := by omega
    refine Ev.step (fun k => ?_) (refpath_l0 hl h m (i + 1) (by omega))
    rw [lambrequinref10_Path.l0, if_pos (by omega), if_pos (by omega), if_pos (by rw [List.length_map, List.length_take]; omega), rd27_get hi, w64 (by omega), List.take_succ_eq_append_getElem hi, List.map_append]
    rfl
theorem refPath_ok (hl : l.length ≤ 1000) (ok : OkE n l) {a : Int} (a0 : 0 ≤ a) (a1 : a < n) (b0 : 0 ≤ b) (b1 : b < n) : ∃ r, Ev (fun k => lambrequinref10_Path.f k n l a b) r ∧ IsPath (Ed l) a b r := by
  have okr : OkE n (l.map swapE) := ⟨ok.n0, ok.n1, by rw [List.length_map]; omega, fun x hx => by
    obtain ⟨y, hy, rfl⟩ := List.mem_map.1 hx
    have := ok.mem y hy
    exact ⟨this.2.2.1, this.2.2.2, this.1, this.2.1⟩⟩
  obtain ⟨t, hst, hsteps⟩ := Steps_ok okr b0 b1
  have hE : Ed (l.map swapE) = fun x y => Ed l y x := by
    funext x y; exact propext Ed_swap
  rw [hE] at hsteps
  have ht := toSteps hsteps
  have key : ∃ r, Ev (fun k => if rd t a < 0 then some [] else lambrequinref10_Path.l1 k l b t [a] a) r ∧ IsPath (Ed l) a b r := by
    rcases ht.2 a a0 a1 with ⟨p, k1, k2⟩ | ⟨k1, k2⟩
    · have hpos := k1.1.pos
      have hpl := least_len (n := n.toNat) (R := Ed l) (fun x y hxy => by have := ok.edge hxy; omega) a0 (by omega) k1
      obtain ⟨q, hq, hev⟩ := refpath_l1 hl ok ht (p.length - 1) a [] p k1 (by omega) a0 a1 (by have := ok.n1; simp only [List.length_nil]; omega)
      exact ⟨q, Ev.congr (fun k => by rw [if_neg (by omega)]; rfl) hev, .inl ⟨⟨_, k1.1⟩, hq⟩⟩
    · exact ⟨[], Ev.congr (fun k => by rw [if_pos (by omega)]) (Ev.now _), .inr ⟨k1, rfl⟩⟩
  obtain ⟨r, hr, hp⟩ := key
  refine ⟨r, ?_, hp⟩
  have h0 := refpath_l0 (n := n) (b := b) (x2 := a) (r := r) hl (Ev.bind hst (Ev.congr (fun k => by rw [if_pos a0, if_pos (by rw [ht.1]; have := ok.n0; omega)]) hr)) l.length 0 (by omega)
  refine Ev.bind (may_ok hl ok) (Ev.congr (f := fun k => lambrequinref10_Path.j0 k n l a b false) (fun k => ?_) (Ev.step (fun k => ?_) h0))
  · rw [if_pos rfl, if_neg (by omega), if_neg (by omega), if_neg (by omega), decide_eq_false (by omega)]
  · rw [lambrequinref10_Path.j0, if_neg (by simp)]
    rfl
theorem refPath_out (hl : l.length ≤ 1000) {a : Int} (h : ¬ OkE n l ∨ a < 0 ∨ n ≤ a ∨ b < 0 ∨ n ≤ b) : Ev (fun k => lambrequinref10_Path.f k n l a b) [] := by
  have hj : Ev (fun k => lambrequinref10_Path.j0 k n l a b true) ([] : List Int) := Ev.step (fun k => by rw [lambrequinref10_Path.j0, if_pos rfl]) (Ev.now _)
  by_cases c : OkE n l
  · refine Ev.bind (may_ok hl c) (Ev.congr (fun k => ?_) hj)
    rw [if_pos rfl]
    by_cases c1 : a < 0
    · rw [if_pos c1]
    · by_cases c2 : a ≥ n
      · rw [if_neg c1, if_pos c2]
      · by_cases c3 : b < 0
        · rw [if_neg c1, if_neg c2, if_pos c3]
        · rw [if_neg c1, if_neg c2, if_neg c3, decide_eq_true]
          rcases h with h | h
          · exact absurd c h
          · omega
  · exact Ev.bind (may_bad hl c) (Ev.congr (fun k => if_neg (by simp)) hj)
end
end Go.Proofs.Ytngmdccheaidkaa.Pr
end
section
/- The statement GraphTells, of lists and numbers alone. -/
namespace Go.Proofs.Ytngmdccheaidkaa.Pr
open Go.RowKit Go.Proofs.YtngmdccheaidkaaW.PrintWords Go.Proofs.YtngmdccheaidkaaW.PrintLast Go.Proofs.YtngmdccheaidkaaW.PrintMore
set_option linter.unusedVariables false
section
variable {n : Int} {l : List S27} {a b : Int}
theorem tells_l1 {T : List Bool} (hT : T.length ≤ 100000) {r : List (List Int)} (hr : graph_Parts.f n l = some r) (hrr : Ev (fun k => lambrequinref10_Parts.f k n l) r) (hrl : r.length < 1000000000000 ∧ ∀ p ∈ r, p.length < 1000000000000)
    {p : List Int} (hp : Ev (fun k => graph_Path.f k n l a b) p) (hpp : Ev (fun k => lambrequinref10_Path.f k n l a b) p) (hpl : p.length < 1000000000000) :
    ∀ m i, T.length = i + m → Ev (fun k => lambrequinlaw10_GraphTells.l1 k n l a b true T T (i : Int)) true
  | 0, i, e => by
    refine Ev.step (f := fun k => (graph_Parts.f n l).bind fun t406 => ((lambrequinref10_Parts.f k n l).bind fun t409 => ((lambrequinref10_Lists.f k t406 t409).bind fun t412 => (if t412 = true then ((graph_Path.f k n l a b).bind fun t413 => ((lambrequinref10_Path.f k n l a b).bind fun t416 => ((lambrequinref10_Ints.f k t413 t416).bind fun t419 => (some t419)))) else (some false))))) (fun k => ?_)
      (Ev.bind ⟨0, fun _ _ => hr⟩ (Ev.bind hrr (Ev.bind (lists_self hrl.1 hrl.2) (Ev.congr (fun k => if_pos rfl) (Ev.bind hp (Ev.bind hpp (Ev.bind (ints_self hpl) (Ev.now _))))))))
    rw [lambrequinlaw10_GraphTells.l1, if_neg (by omega), if_pos rfl]
  | m + 1, i, e => by
    refine Ev.step (fun k => ?_) (tells_l1 hT hr hrr hrl hp hpp hpl m (i + 1) (by omega))
    rw [lambrequinlaw10_GraphTells.l1, if_pos (by omega), if_pos (by omega), if_pos (by omega), if_neg (by simp), w64 (by omega)]
    rfl
theorem tells_l0 {c : List S27} (hc : c.length ≤ 100000) {T : List Bool} (hT : Ev (fun k => graph_Reach.f k n l a) T) (hTT : Ev (fun k => lambrequinref10_Reach.f k n l a) T) (h1 : Ev (fun k => lambrequinlaw10_GraphTells.l1 k n l a b true T T 0) true) :
    ∀ m i, c.length = i + m → Ev (fun k => lambrequinlaw10_GraphTells.l0 k n l a b true c c (i : Int)) true
  | 0, i, e => by
    refine Ev.step (f := fun k => (graph_Reach.f k n l a).bind fun t398 => ((lambrequinref10_Reach.f k n l a).bind fun t401 => (if (t398.length : Int) = (t401.length : Int) then (lambrequinlaw10_GraphTells.l1 k n l a b true t398 t401 0) else (some false)))) (fun k => ?_)
      (Ev.bind hT (Ev.bind hTT (Ev.congr (fun k => if_pos rfl) h1)))
    rw [lambrequinlaw10_GraphTells.l0, if_neg (by omega)]
  | m + 1, i, e => by
    refine Ev.step (fun k => ?_) (tells_l0 hc hT hTT h1 m (i + 1) (by omega))
    rw [lambrequinlaw10_GraphTells.l0, if_pos (by omega), if_pos (by omega), if_pos (by omega), if_neg (by simp), w64 (by omega)]
    rfl
theorem tells_j0 {c : List S27} {e : Int} (hc : c.length ≤ 100000) (hC : graph_Clean.f n l = some (c, e)) (hCC : Ev (fun k => lambrequinref10_Clean.f k n l) (c, e)) (h1 : Ev (fun k => lambrequinlaw10_GraphTells.l0 k n l a b true c c 0) true) :
    Ev (fun k => lambrequinlaw10_GraphTells.j0 k n l a b true false) true := by
  refine Ev.step (f := fun k => (graph_Clean.f n l).bind fun bt388 => ((lambrequinref10_Clean.f k n l).bind fun bt392 => (if bt388.2 = bt392.2 then (lambrequinlaw10_GraphTells.j1 k n l a b true bt388.1 bt392.1 ((bt388.1.length : Int) != (bt392.1.length : Int))) else (lambrequinlaw10_GraphTells.j1 k n l a b true bt388.1 bt392.1 true)))) (fun k => ?_)
    (Ev.bind ⟨0, fun _ _ => hC⟩ (Ev.bind hCC (Ev.congr (f := fun k => lambrequinlaw10_GraphTells.j1 k n l a b true c c false) (fun k => ?_) (Ev.step (fun k => ?_) h1))))
  · rw [lambrequinlaw10_GraphTells.j0, if_neg (by simp)]
  · show (if e = e then _ else _) = _
    rw [if_pos rfl]
    simp
  · rw [lambrequinlaw10_GraphTells.j1, if_neg (by simp)]
end
theorem GraphTells.pure {n : Int} {l : List S27} {a b : Int} : ∃ k, lambrequinlaw10_GraphTells.f k n l a b = some true := by
  refine Ev.rounds (g := fun k => lambrequinlaw10_GraphTells.f k n l a b) ?_
  unfold lambrequinlaw10_GraphTells.f
  refine Ev.bind shown_ok ?_
  have hj : Ev (fun k => lambrequinlaw10_GraphTells.j0 k n l a b true true) true := Ev.step (fun k => by rw [lambrequinlaw10_GraphTells.j0, if_pos rfl]) (Ev.now _)
  by_cases hl : (l.length : Int) > 200
  · exact Ev.congr (fun k => by rw [if_pos hl]) hj
  · have hlen : l.length ≤ 200 := by omega
    have hmain : (n ≤ 30 ∨ 1000 < n) → Ev (fun k => lambrequinlaw10_GraphTells.j0 k n l a b true false) true := fun hn => by
      by_cases ok : OkE n l
      · have hn0 := ok.n0
        have hn1 := ok.n1
        obtain ⟨r, done, hr, hps⟩ := Parts_ok ok
        have hrr := refParts_ok (by omega) ok hr
        have hcl := cleanP_len l
        obtain ⟨p, hp, hpp, hpl⟩ : ∃ p, Ev (fun k => graph_Path.f k n l a b) p ∧ Ev (fun k => lambrequinref10_Path.f k n l a b) p ∧ p.length < 1000000000000 := by
          by_cases c : a < 0 ∨ n ≤ a ∨ b < 0 ∨ n ≤ b
          · exact ⟨[], Path_out (by omega) (.inr c), refPath_out (by omega) (.inr c), by simp⟩
          · simp only [not_or] at c
            obtain ⟨p, h1, h2⟩ := Path_ok ok (a := a) (b := b) (by omega) (by omega) (by omega) (by omega)
            obtain ⟨p', h1', h2'⟩ := refPath_ok (by omega) ok (a := a) (b := b) (by omega) (by omega) (by omega) (by omega)
            obtain rfl := h2.one h2'
            have := Path_len ok (by omega) (by omega) h2
            exact ⟨p, h1, h1', by omega⟩
        obtain ⟨T, hT, hTT, hTl⟩ : ∃ T, Ev (fun k => graph_Reach.f k n l a) T ∧ Ev (fun k => lambrequinref10_Reach.f k n l a) T ∧ T.length ≤ 100000 := by
          by_cases c : a < 0 ∨ n ≤ a
          · refine ⟨List.replicate n.toNat false, ⟨l.length + 1, fun k hk => ?_⟩, refReach_out (by omega) ok c, by simp; omega⟩
            show graph_Reach.f k n l a = _
            unfold graph_Reach.f
            rw [nexts_ok ok hk]
            simp only [Option.bind_some, if_pos]
            by_cases c1 : a < 0
            · rw [if_pos c1, if_pos (by omega), if_pos (by omega)]
            · rw [if_neg c1, if_pos (by omega), if_pos (by omega), if_pos (by omega)]
          · simp only [not_or] at c
            exact ⟨_, ⟨l.length + 1, fun k hk => Reach_ok ok (by omega) (by omega) hk⟩, refReach_ok (by omega) ok (by omega) (by omega), by rw [reachP_len]; omega⟩
        exact tells_j0 (by omega) (Clean_ok ok) (refClean_ok (by omega) ok) (tells_l0 (by omega) hT hTT (tells_l1 hTl hr hrr (Parts_len ok hps) hp hpp hpl T.length 0 (by omega)) (cleanP l).length 0 (by omega))
      · have hr : graph_Parts.f n l = some [] := by
          unfold graph_Parts.f
          rw [nexts_bad (by omega) ok]
          simp
        have hT : Ev (fun k => graph_Reach.f k n l a) [] := ⟨0, fun k _ => by
          show graph_Reach.f k n l a = _
          unfold graph_Reach.f
          rw [nexts_bad (by omega) ok]
          simp⟩
        exact tells_j0 (c := []) (e := 1) (by simp) (Clean_bad (by omega) ok) (refClean_bad (by omega) ok)
          (tells_l0 (by simp) hT (refReach_bad (by omega) ok) (tells_l1 (by simp) hr (refParts_bad (by omega) ok) (by simp) (Path_out (by omega) (.inl ok)) (refPath_out (by omega) (.inl ok)) (by simp) 0 0 (by simp)) 0 0 (by simp))
    by_cases h30 : n > 30
    · by_cases h1000 : n ≤ 1000
      · exact Ev.congr (fun k => by rw [if_neg hl, if_pos h30, decide_eq_true h1000]) hj
      · exact Ev.congr (fun k => by rw [if_neg hl, if_pos h30, decide_eq_false h1000]) (hmain (.inr (by omega)))
    · exact Ev.congr (fun k => by rw [if_neg hl, if_neg h30]) (hmain (.inl (by omega)))
end Go.Proofs.Ytngmdccheaidkaa.Pr
end
