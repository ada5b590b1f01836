/- Plain laws: graph.Clean, graph.nexts, graph.reached, graph.Reach. -/
import Derived.Test.YtngmdccheaidkaaPG
import Derived.Test.YtngmdccheaidkaaPSort
import Derived.Test.YtngmdccheaidkaaGReached
import Derived.Test.YtngmdccheaidkaaF22
namespace Go.Proofs.Ytngmdccheaidkaa.Pr
open Go.RowKit Go.Proofs.YtngmdccheaidkaaW.PrintWords Go.Proofs.YtngmdccheaidkaaW.PrintLast Go.Proofs.YtngmdccheaidkaaW.PrintMore
open Go.Lib Go.Sort
/-! ### Clean -/
/-- The edges, as a relation. -/
def Ed (l : List S27) (x y : Int) : Prop := (⟨x, y⟩ : S27) ∈ l
theorem mem_cleanP (l : List S27) (x : S27) : x ∈ cleanP l ↔ x ∈ l := by
  unfold cleanP
  rw [List.mem_map]
  constructor
  · rintro ⟨p, hp, rfl⟩
    rw [mem_compact] at hp
    unfold sortP at hp
    rw [List.mem_mergeSort, List.mem_map] at hp
    obtain ⟨y, hy, rfl⟩ := hp
    exact hy
  · intro hx
    refine ⟨toP x, ?_, rfl⟩
    rw [mem_compact]
    unfold sortP
    rw [List.mem_mergeSort]
    exact List.mem_map.2 ⟨x, hx, rfl⟩
def ltS (x y : S27) : Prop := x.f0 < y.f0 ∨ (x.f0 = y.f0 ∧ x.f1 < y.f1)
theorem cleanP_rising (l : List S27) : (cleanP l).Pairwise ltS := by
  have hs : (sortP (l.map toP)).Pairwise (fun x y => ltP x y ∨ x = y) := by
    have := List.pairwise_mergeSort (le := fun x y : Pair => !(ltOf cfP y x)) (fun a b c => by
      simp only [Bool.not_eq_true', cfP_nlt]
      unfold ltP; omega) (fun a b => by
      rcases h : ltOf cfP b a with _ | _
      · rfl
      · have := (cfP_lt _ _).1 h
        have : ltOf cfP a b = false := by rw [cfP_nlt]; unfold ltP at *; omega
        simp [this]) (l.map toP)
    refine this.imp (fun {a b} h => ?_)
    simp only [Bool.not_eq_true', cfP_nlt] at h
    unfold ltP at *
    by_cases e : a = b
    · exact .inr e
    · refine .inl ?_
      have : ¬ (a.1 = b.1 ∧ a.2 = b.2) := fun k => e (Prod.ext k.1 k.2)
      omega
  have hc := compact_pairwise (le := fun x y : Pair => ltP x y ∨ x = y) (fun a => .inr rfl) (fun a b h k => by
    rcases h with h | h
    · rcases k with k | k
      · unfold ltP at h k; omega
      · exact k.symm
    · exact h) _ hs
  unfold cleanP
  rw [List.pairwise_map]
  refine hc.imp (fun {a b} h => ?_)
  rcases h.1 with k | k
  · exact k
  · exact absurd k h.2
theorem cleanP_same {l m : List S27} (h : ∀ x, x ∈ l ↔ x ∈ m) : cleanP l = cleanP m :=
  rising_unique (lt := ltS) (fun a h => by unfold ltS at h; omega) (fun a b c h k => by unfold ltS at *; omega) (cleanP_rising l) (cleanP_rising m) (fun x => by rw [mem_cleanP, mem_cleanP]; exact h x)
theorem cleanP_len (l : List S27) : (cleanP l).length ≤ l.length := by
  unfold cleanP
  rw [List.length_map]
  have h : ∀ (d : Array Pair) m, (compactUpTo d m).length ≤ m := by
    intro d m
    induction m with
    | zero => simp [compactUpTo]
    | succ m ih => rw [compactUpTo_succ]; split <;> simp <;> omega
  have := h (sortP (l.map toP)).toArray (sortP (l.map toP)).length
  unfold Lib.compact
  simp only [sortP, List.length_mergeSort, List.length_map] at *
  omega
/-- Edges between nodes below n, of a size that the program takes. -/
structure OkE (n : Int) (l : List S27) : Prop where
  n0 : 0 ≤ n
  n1 : n ≤ 1000
  len : l.length ≤ 8796093022208
  mem : ∀ x ∈ l, 0 ≤ x.f0 ∧ x.f0 < n ∧ 0 ≤ x.f1 ∧ x.f1 < n
theorem OkE.edge {n l x y} (h : OkE n l) (k : Ed l x y) : 0 ≤ x ∧ x < n ∧ 0 ≤ y ∧ y < n := h.mem _ k
theorem outP_any {n : Int} {l : List S27} : (l.map toP).any (outP n) = true ↔ ¬ ∀ x ∈ l, 0 ≤ x.f0 ∧ x.f0 < n ∧ 0 ≤ x.f1 ∧ x.f1 < n := by
  rw [List.any_eq_true]
  constructor
  · rintro ⟨p, hp, ho⟩ h
    obtain ⟨x, hx, rfl⟩ := List.mem_map.1 hp
    have := h x hx
    simp [outP, withinP, toP] at ho
    grind
  · intro h
    refine Classical.byContradiction fun c => h fun x hx => ?_
    have : ¬ outP n (toP x) = true := fun k => c ⟨toP x, List.mem_map.2 ⟨x, hx, rfl⟩, k⟩
    simp [outP, withinP, toP] at this
    grind
theorem Clean_ok {n : Int} {l : List S27} (h : OkE n l) : graph_Clean.f n l = some (cleanP l, 0) := by
  unfold graph_Clean.f
  rw [if_pos h.len, if_neg]
  rintro (k | k | k)
  · have := h.n0; omega
  · have := h.n1; omega
  · exact outP_any.1 k h.mem
theorem Clean_bad {n : Int} {l : List S27} (hl : l.length ≤ 8796093022208) (h : ¬ OkE n l) : graph_Clean.f n l = some ([], 1) := by
  unfold graph_Clean.f
  rw [if_pos hl, if_pos]
  refine Classical.byContradiction fun c => h ?_
  simp only [not_or] at c
  exact ⟨by omega, by omega, hl, Classical.byContradiction fun k => c.2.2 (outP_any.2 k)⟩
/-! ### nexts -/
def outOf (l : List S27) (x : Int) : List Int := (l.filter fun e => e.f0 == x).map (·.f1)
def nextsP (n : Nat) (l : List S27) : List (List Int) := (List.range n).map fun x : Nat => outOf (cleanP l) (x : Int)
theorem mem_outOf {l : List S27} {x y : Int} : y ∈ outOf l x ↔ Ed l x y := by
  unfold outOf Ed
  rw [List.mem_map]
  constructor
  · rintro ⟨⟨a, b⟩, he, rfl⟩
    rw [List.mem_filter] at he
    have : a = x := by simpa using he.2
    subst this
    exact he.1
  · intro h
    exact ⟨⟨x, y⟩, List.mem_filter.2 ⟨h, by simp⟩, rfl⟩
theorem outOf_rising (l : List S27) (x : Int) : (outOf (cleanP l) x).Pairwise (· < ·) := by
  unfold outOf
  rw [List.pairwise_map]
  refine ((cleanP_rising l).filter _).imp_of_mem (fun {a b} ha hb h => ?_)
  have h1 : a.f0 = x := by simpa using (List.mem_filter.1 ha).2
  have h2 : b.f0 = x := by simpa using (List.mem_filter.1 hb).2
  unfold ltS at h
  omega
theorem nextsP_same {n : Nat} {l m : List S27} (h : ∀ x, x ∈ l ↔ x ∈ m) : nextsP n l = nextsP n m := by
  unfold nextsP; rw [cleanP_same h]
theorem rd_nextsP {n : Nat} {l : List S27} {x : Int} (h0 : 0 ≤ x) (h1 : x < (n : Int)) : rd_L1 (nextsP n l) x = outOf (cleanP l) x := by
  unfold rd_L1 nextsP
  rw [List.getD_eq_getElem?_getD, List.getElem?_map, List.getElem?_range (by omega)]
  simp only [Option.map_some, Option.getD_some]
  rw [Int.toNat_of_nonneg h0]
theorem mem_nextsP {n : Nat} {l : List S27} {x y : Int} (h0 : 0 ≤ x) (h1 : x < (n : Int)) : y ∈ rd_L1 (nextsP n l) x ↔ Ed l x y := by
  rw [rd_nextsP h0 h1, mem_outOf]
  unfold Ed
  exact mem_cleanP _ _
theorem w64 {n : Int} (h : -9223372036854775808 ≤ n ∧ n ≤ 9223372036854775807) : wrap64 n = n := by unfold wrap64; omega
theorem rd27_get {l : List S27} {i : Nat} (h : i < l.length) : rd_T27 l (i : Int) = l[i] := by
  unfold rd_T27
  rw [Int.toNat_natCast, List.getD_eq_getElem?_getD, List.getElem?_eq_getElem h]; rfl
/-- The rows so far. -/
def rowsTo (n : Nat) (c : List S27) : List (List Int) := (List.range n).map fun x : Nat => outOf c (x : Int)
theorem rowsTo_len (n : Nat) (c : List S27) : (rowsTo n c).length = n := by simp [rowsTo]
theorem rd_rowsTo {n : Nat} {c : List S27} {x : Int} (h0 : 0 ≤ x) (h1 : x < (n : Int)) : rd_L1 (rowsTo n c) x = outOf c x := by
  unfold rd_L1 rowsTo
  rw [List.getD_eq_getElem?_getD, List.getElem?_map, List.getElem?_range (by omega)]
  simp only [Option.map_some, Option.getD_some]
  rw [Int.toNat_of_nonneg h0]
theorem outOf_len (c : List S27) (x : Int) : (outOf c x).length ≤ c.length := by
  unfold outOf; rw [List.length_map]; exact List.length_filter_le _ _
theorem rowsTo_snoc {n : Nat} {c : List S27} {e : S27} (h0 : 0 ≤ e.f0) (h1 : e.f0 < (n : Int)) : (rowsTo n c).set e.f0.toNat (rd_L1 (rowsTo n c) e.f0 ++ [e.f1]) = rowsTo n (c ++ [e]) := by
  rw [rd_rowsTo h0 h1]
  apply List.ext_getElem
  · simp [rowsTo]
  · intro i hi hj
    simp only [rowsTo, List.length_set, List.length_map, List.length_range] at hi hj
    rw [List.getElem_set]
    simp only [rowsTo, List.getElem_map, List.getElem_range]
    split
    · rename_i k
      subst k
      rw [Int.toNat_of_nonneg h0]
      simp [outOf]
    · rename_i k
      have : ¬ e.f0 = (i : Int) := by omega
      simp [outOf, this]
theorem nexts_l0 {n : Nat} {c : List S27} (hc : ∀ x ∈ c, 0 ≤ x.f0 ∧ x.f0 < (n : Int)) (hl : c.length ≤ 8796093022208) : ∀ m i k, c.length = i + m → m + 1 ≤ k → graph_nexts.l0 k (rowsTo n (c.take i)) c (c.length : Int) (i : Int) = some (rowsTo n c, true)
  | 0, i, k, he, hk => by
    obtain ⟨k, rfl⟩ : ∃ k', k = k' + 1 := ⟨k - 1, by omega⟩
    rw [graph_nexts.l0, if_neg (by omega), List.take_of_length_le (by omega)]
  | m + 1, i, k, he, hk => by
    obtain ⟨k, rfl⟩ : ∃ k', k = k' + 1 := ⟨k - 1, by omega⟩
    have hi : i < c.length := by omega
    have hm := hc _ (List.getElem_mem hi)
    rw [graph_nexts.l0, if_pos (by omega), if_pos (by omega), if_pos (by omega), rd27_get hi, if_pos hm.1, rowsTo_len, if_pos hm.2]
    rw [if_pos (by rw [rd_rowsTo hm.1 hm.2]; have := outOf_len (c.take i) c[i].f0; have := List.length_take_le i c; simp only [List.length_take] at *; omega)]
    rw [rowsTo_snoc hm.1 hm.2, w64 (by omega), ← List.take_succ_eq_append_getElem hi]
    exact nexts_l0 hc hl m (i + 1) k (by omega) (by omega)
theorem nexts_ok {n : Int} {l : List S27} (h : OkE n l) {k : Nat} (hk : l.length + 1 ≤ k) : graph_nexts.f k n l = some (nextsP n.toNat l, true) := by
  unfold graph_nexts.f
  rw [Clean_ok h]
  have h0 := h.n0; have h1 := h.n1
  have hl := cleanP_len l
  have hl2 := h.len
  simp only [Option.bind_some]
  rw [if_pos trivial, if_pos h0, if_pos (by omega)]
  have := nexts_l0 (n := n.toNat) (c := cleanP l) (fun x hx => by have := h.mem x ((mem_cleanP l x).1 hx); omega) (by omega) (cleanP l).length 0 k (by omega) (by omega)
  have e : rowsTo n.toNat ((cleanP l).take 0) = List.replicate n.toNat [] := by
    apply List.ext_getElem
    · simp [rowsTo]
    · intro i hi hj; simp [rowsTo, outOf]
  rw [e] at this
  exact this
theorem nexts_bad {n : Int} {l : List S27} (hl : l.length ≤ 8796093022208) (h : ¬ OkE n l) (k : Nat) : graph_nexts.f k n l = some ([], false) := by
  unfold graph_nexts.f
  rw [Clean_bad hl h]
  simp
end Go.Proofs.Ytngmdccheaidkaa.Pr
