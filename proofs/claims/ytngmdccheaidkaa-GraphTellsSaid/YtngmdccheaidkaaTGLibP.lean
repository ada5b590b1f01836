/- Texts of the seat, without what this claim does not use. -/
import Derived.Test.YtngmdccheaidkaaTGCl1
import Derived.Shelf.SlSortCmp.NoneTotal
/- slices.Clone, SortFunc, Compact at pairs of ints, as contracts over rows of pairs. -/
namespace Go.Proofs.Ytngmdccheaidkaa.Pr
open Go.RowKit Go.Proofs.YtngmdccheaidkaaW.PrintWords Go.Proofs.YtngmdccheaidkaaW.PrintLast Go.Proofs.YtngmdccheaidkaaW.PrintMore
open Go.Lib Go.Sort
set_option linter.unusedVariables false
def toP (x : S27) : Pair := (x.f0, x.f1)
def ofP (x : Pair) : S27 := ⟨x.1, x.2⟩
theorem toP_ofP (x : Pair) : toP (ofP x) = x := rfl
theorem two_of {α : Type} {l : List α} {i : Nat} {a b : α} (h0 : l[i]? = some a) (h1 : l[i + 1]? = some b) : (l.drop i).take 2 = [a, b] := by
  apply List.ext_getElem?
  intro j
  rcases (show j = 0 ∨ j = 1 ∨ 2 ≤ j by omega) with rfl | rfl | h
  · simp [h0]
  · simp [h1]
  · rw [List.getElem?_eq_none (by simp; omega), List.getElem?_eq_none (by simpa using h)]
theorem at_two {α : Type} {l : List α} {i : Nat} {a b : α} (h : (l.drop i).take 2 = [a, b]) : l[i]? = some a ∧ l[i + 1]? = some b := by
  have h0 := congrArg (fun x : List α => x[0]?) h
  have h1 := congrArg (fun x : List α => x[1]?) h
  simp only [List.getElem?_take, List.getElem?_drop] at h0 h1
  simpa using And.intro h0 h1
/-- A made row of pairs, laid open. -/
theorem pairs_down {w : World} {base : Nat} {ok : Nat → Prop} {v : Value} {xs : List S27} (h : Kd.R k27 27 w base ok v xs) (hv : v ≠ .slice none 0 0) :
    ∃ g cap cur, v = .slice (some ⟨g, 0, none⟩) xs.length cap ∧ base ≤ g ∧ g < w.heap.size ∧ w.heap[g]? = some (.cells cur 27 (0, 0)) ∧ xs.length ≤ cap ∧ cap ≤ maxLen ∧ cur.size = cap * 2 ∧ ok g ∧ HoldsK encP 2 w g 0 (xs.map toP).toArray := by
  obtain ⟨hok, inner, hown, hreps⟩ := h
  obtain ⟨hl, e0 | ⟨g, cap, cur, rfl, hb, hh, h1, h2, h3, h4⟩⟩ := hown
  · exact absurd e0.1 hv
  have h4 : cur.toList.take (xs.length * 2) = inner := h4
  have h3 : cur.size = cap * 2 := h3
  refine ⟨g, cap, cur, rfl, hb, blk_lt hh, hh, h1, h2, h3, hok g rfl, fun t ht => ?_⟩
  have ht' : t < xs.length * 2 := by simpa [flatK] using ht
  refine ⟨?_, by simp [World.frozen?, hh]⟩
  have hj : t / 2 < xs.length := by omega
  have hM := hreps.2 (t / 2) _ (List.getElem?_eq_getElem hj)
  have e := k27_openM (Kd.iso _ _ |>.M_mono (fun _ h => h) hM)
  obtain ⟨i0, i1⟩ := at_two e
  have i0 : inner[t / 2 * 2]? = some (.int .i64 (xs[t / 2]).f0) := i0
  have i1 : inner[t / 2 * 2 + 1]? = some (.int .i64 (xs[t / 2]).f1) := i1
  have hcell : ∀ u, inner[t]? = some u → w.cell? ⟨g, t, none⟩ = some u := fun u hu => by
    rw [← h4, List.getElem?_take_of_lt ht', Array.getElem?_toList] at hu
    simp only [World.cell?, hh]
    simpa using hu
  rw [get_flatK _ _ _ _ (by simpa using ht'), Nat.zero_add]
  have ex : ((xs.map toP).toArray)[t / 2]! = toP xs[t / 2] := by
    rw [getElem!_pos _ _ (by simpa using hj)]; simp
  rw [ex, getE _ _ (by omega)]
  refine hcell _ ?_
  rcases (show t % 2 = 0 ∨ t % 2 = 1 by omega) with h | h
  · rw [if_pos h]; rw [show t / 2 * 2 = t by omega] at i0; exact i0
  · rw [if_neg (by omega)]; rw [show t / 2 * 2 + 1 = t by omega] at i1; exact i1
/-- A row of pairs put in place. -/
theorem pairs_up {w : World} {base g cap k q : Nat} {ok : Nat → Prop} {cur : Array Value} {ys : List Pair} {os : Array Obj} (hb : base ≤ g) (hh : w.heap[g]? = some (.cells cur 27 (0, 0))) (h1 : ys.length ≤ cap) (h2 : cap ≤ maxLen) (h3 : cur.size = cap * 2) (hk : k ≤ ys.length) (hok : ok g) :
    Kd.R k27 27 (grow (putRowK encP 2 (Sort.ahead w q) g 0 ys.toArray) os) base ok (.slice (some ⟨g, 0, none⟩) k cap) ((ys.take k).map ofP) := by
  have hg := blk_lt hh
  have hheap : (grow (putRowK encP 2 (Sort.ahead w q) g 0 ys.toArray) os).heap[g]? = some (.cells (putCells id 0 (flatK encP 2 ys.toArray) cur) 27 (0, 0)) := by
    rw [heap_grow_old _ _ (by simpa [putRowK, putRow, mapBlock, Sort.ahead] using hg)]
    simp [putRowK, putRow, mapBlock, Sort.ahead, Array.getElem?_modify, hh, onCells]
  have hlen : ((ys.take k).map ofP).length = k := by simp; omega
  refine ⟨fun b hb => by cases hb; exact hok, (putCells id 0 (flatK encP 2 ys.toArray) cur).toList.take (k * 2), ⟨?_, .inr ⟨g, cap, _, by rw [hlen], hb, hheap, by rw [hlen]; omega, h2, (by simpa [putCells] using h3 : (putCells id 0 (flatK encP 2 ys.toArray) cur).size = cap * 2), by rw [hlen]; rfl⟩⟩, ?_, ?_⟩
  · rw [hlen, List.length_take]
    have : (putCells id 0 (flatK encP 2 ys.toArray) cur).toList.length = cap * 2 := by simpa [putCells] using h3
    rw [this]
    show min (k * 2) (cap * 2) = k * 2
    omega
  · rw [hlen, List.length_take]
    have : (putCells id 0 (flatK encP 2 ys.toArray) cur).toList.length = cap * 2 := by simpa [putCells] using h3
    rw [this]
    show min (k * 2) (cap * 2) = k * 2
    omega
  · intro j p hj
    have hjk : j < k := by
      have := (List.getElem?_eq_some_iff.1 hj).1
      rw [hlen] at this; exact this
    have hjy : j < ys.length := by omega
    have hp : p = ofP ys[j] := by
      rw [List.getElem?_map, List.getElem?_take_of_lt hjk, List.getElem?_eq_getElem hjy] at hj
      exact (Option.some.inj hj).symm
    subst hp
    have key : ∀ c, c < 2 → ((putCells id 0 (flatK encP 2 ys.toArray) cur).toList.take (k * 2))[j * 2 + c]? = some (.int .i64 (if c = 0 then (ys[j]).1 else (ys[j]).2)) := by
      intro c hc
      rw [List.getElem?_take_of_lt (by omega), Array.getElem?_toList]
      simp only [putCells, Array.getElem?_mapIdx]
      rw [Array.getElem?_eq_getElem (by omega)]
      simp only [Option.map_some, Nat.zero_le, Nat.zero_add, Nat.sub_zero, true_and, id_eq, size_flatK, List.size_toArray]
      rw [if_pos (by omega), get_flatK _ _ _ _ (by simp; omega)]
      have ex : (ys.toArray)[(j * 2 + c) / 2]! = ys[j] := by
        rw [show (j * 2 + c) / 2 = j by omega, getElem!_pos _ _ (by simpa using hjy)]; simp
      rw [ex, getE _ _ (by omega), show (j * 2 + c) % 2 = c by omega]
    have e := two_of (i := j * 2) (key 0 (by omega)) (key 1 (by omega))
    show k27.M _ _ _ (ofP ys[j]) (List.take 2 (List.drop (j * 2) _))
    rw [e]
    exact k27_mkM _ _ _ (ofP ys[j])
theorem grownBy_pairs {w : World} {g n : Nat} {os : Array Obj} (d : Array Pair) : w.grownBy (grow (putRowK encP 2 (Sort.ahead w n) g 0 d) os) (some g) := by
  refine ⟨rfl, rfl, rfl, by simp [putRowK, putRow, mapBlock, Sort.ahead, grow], fun k hk hne => ?_⟩
  rw [heap_grow_old _ _ (by simpa [putRowK, putRow, mapBlock, Sort.ahead] using hk)]
  have : g ≠ k := fun e => hne (by rw [e])
  simp [putRowK, putRow, mapBlock, Sort.ahead, Array.getElem?_modify, this]
theorem grow_none (w : World) : grow w #[] = w := by simp [grow]

/-! ### the order -/
theorem compareInt_lt (x y : Int) : compareInt x y < 0 ↔ x < y := by
  unfold compareInt; repeat' split
  all_goals omega
theorem compareInt_zero (x y : Int) : compareInt x y = 0 ↔ x = y := by
  unfold compareInt; repeat' split
  all_goals omega
def ltP (x y : Pair) : Prop := x.1 < y.1 ∨ (x.1 = y.1 ∧ x.2 < y.2)
theorem cfP_lt (x y : Pair) : ltOf cfP x y = true ↔ ltP x y := by
  unfold ltOf cfP orV ltP
  rw [decide_eq_true_eq]
  have h1 := compareInt_lt x.1 y.1
  have h2 := compareInt_lt x.2 y.2
  have h3 := compareInt_zero x.1 y.1
  split
  · rename_i h; have := h3.1 h; omega
  · rename_i h; have : ¬ x.1 = y.1 := fun e => h (h3.2 e); omega
theorem cfP_nlt (x y : Pair) : ltOf cfP x y = false ↔ ¬ ltP x y := by
  rw [← cfP_lt]; simp
theorem swoP : SWO (ltOf cfP) where
  irrefl := fun x => by rw [cfP_nlt]; unfold ltP; omega
  trans := fun x y z => by rw [cfP_lt, cfP_lt, cfP_lt]; unfold ltP; omega
  ntrans := fun x y z => by rw [cfP_nlt, cfP_nlt, cfP_nlt]; unfold ltP; omega
theorem totalP (x y : Pair) : ltOf cfP x y = false → ltOf cfP y x = false → x = y := by
  rw [cfP_nlt, cfP_nlt]; unfold ltP
  intro h1 h2
  exact Prod.ext (by omega) (by omega)

/-! ### the contracts -/
theorem isAgg27 : ∀ w, (isAgg 27).run Try.prog w = .ok true w := Try.isAgg27
theorem sizeOf27 : ∀ w, (Go.sizeOf 27).run Try.prog w = .ok 2 w := Try.sizeOf27
theorem enc1 : ∀ x : Pair, ∀ v ∈ encP x, v.oneCell' = true := fun x v hv => by
  rcases List.mem_cons.1 hv with rfl | hv
  · rfl
  · rw [List.mem_singleton.1 hv]; rfl
def sortP (l : List Pair) : List Pair := l.mergeSort fun x y => !(ltOf cfP y x)
/-- slices.SortFunc over edges, by graph.Clean's third closure. -/
theorem sortFunc_calls (P0_ : Nat → Prop) (u : Value) (l0 : List S27) (w0 w : World) (hB : Below w0.heap.size w0 w) (ho0 : Kd.R k27 27 w w0.heap.size P0_ u l0) (hlim : l0.length < 4611686018427387904) :
    Calls Try.prog 40 #[u, .func (.func 41) #[] #[]] w fun e w' => e = .returned (.tuple #[]) ∧ Kd.R k27 27 w' w0.heap.size (fun k_ => (P0_ k_ ∨ w.heap.size ≤ k_)) u ((sortP (l0.map toP)).map ofP) ∧ Below w0.heap.size w0 w' ∧ Kept w w' (fun k_ => P0_ k_) := by
  by_cases hu : u = .slice none 0 0
  · subst hu
    obtain ⟨A, c, e⟩ := Kd.R_slice ho0
    injection e with e1 e2 e3
    have hl : l0 = [] := List.length_eq_zero_iff.mp e2.symm
    subst hl
    refine (Try.slices_SortFunc_none (α := Pair) none 0 _ w).mono ?_
    rintro e w' ⟨rfl, rfl⟩
    exact ⟨rfl, Kd.R_mono (by simpa [sortP] using ho0) (fun k hk => .inl hk), hB, Kept.refl _ _⟩
  · obtain ⟨g, cap, cur, rfl, hb, hg, hh, h1, h2, h3, hok, hH⟩ := pairs_down ho0 hu
    have hlen : ((l0.map toP).toArray).size = l0.length := by simp
    have h := Try.slices_SortFunc_total 2 isAgg27 sizeOf27 encP encP_len enc1 cfP swoP 41 #[] g 0 cap (l0.map toP).toArray w (fun args w => by rfl) (fun m os dk _ x y => by have h := cmp41 x y (sortWorldK encP 2 w g 0 m dk os); simpa [encP] using h) hH hg (by rw [hlen]; exact hlim) totalP
    rw [hlen] at h
    refine h.mono ?_
    rintro e w' ⟨rfl, n, os, rfl⟩
    have hgb := grownBy_pairs (w := w) (g := g) (n := n) (os := os) (sortP (l0.map toP)).toArray
    have hup := pairs_up (w := w) (base := w0.heap.size) (q := n) (k := l0.length) (ok := P0_) (ys := sortP (l0.map toP)) (os := os) hb hh (by simp [sortP]; omega) h2 h3 (by simp [sortP]) hok
    rw [List.take_of_length_le (by simp [sortP])] at hup
    exact ⟨rfl, Kd.R_mono hup (fun k hk => .inl hk), hB.grown hgb hB.size (fun k hk => by cases hk; exact hb), Kept.of_grown hgb (Kept.refl w _) (fun k hk => .inl (by cases hk; exact hok))⟩
/-- slices.Compact over edges. -/
theorem compact_calls (P0_ : Nat → Prop) (u : Value) (l0 : List S27) (w0 w : World) (hB : Below w0.heap.size w0 w) (ho0 : Kd.R k27 27 w w0.heap.size P0_ u l0) (hlim : l0.length < 4611686018427387904) :
    Calls Try.prog 44 #[u] w fun e w' => ∃ v, e = .returned v ∧ Kd.R k27 27 w' w0.heap.size (fun k_ => (P0_ k_ ∨ w.heap.size ≤ k_)) v ((Lib.compact (l0.map toP)).map ofP) ∧ Below w0.heap.size w0 w' := by
  by_cases hu : u = .slice none 0 0
  · subst hu
    obtain ⟨A, c, e⟩ := Kd.R_slice ho0
    injection e with e1 e2 e3
    have hl : l0 = [] := List.length_eq_zero_iff.mp e2.symm
    subst hl
    have h : Calls Try.prog 44 #[.slice none 0 0] w fun e w' => e = .returned (.slice none 0 0) ∧ w' = w := by
      go_enter Try.func44, Try.ntmps44
      go_wp2
      go_ret
      exact ⟨rfl, rfl⟩
    refine h.mono ?_
    rintro e w' ⟨rfl, rfl⟩
    exact ⟨_, rfl, Kd.R_mono (by simpa [Lib.compact, compactUpTo] using ho0) (fun k hk => .inl hk), hB⟩
  · obtain ⟨g, cap, cur, rfl, hb, hg, hh, h1, h2, h3, hok, hH⟩ := pairs_down ho0 hu
    have hlen : ((l0.map toP).toArray).size = l0.length := by simp
    have h := compact44 g cap (l0.map toP).toArray w hH (by rw [hlen]; omega) (by rw [hlen]; exact h1)
    rw [hlen] at h
    have hc : compactUpTo (l0.map toP).toArray l0.length = Lib.compact (l0.map toP) := by unfold Lib.compact; rw [List.length_map]
    rw [hc] at h
    have hcl : (Lib.compact (l0.map toP)).length ≤ l0.length := by have := Lib.compact_length_le (l0.map toP); simpa using this
    refine h.mono ?_
    rintro e w' ⟨rfl, q, rfl⟩
    have hup := pairs_up (w := w) (base := w0.heap.size) (q := q) (k := (Lib.compact (l0.map toP)).length) (ok := P0_) (ys := Lib.compact (l0.map toP) ++ List.replicate (l0.length - (Lib.compact (l0.map toP)).length) (0, 0)) (os := #[]) hb hh (by simp; omega) h2 h3 (by simp) hok
    rw [List.take_left, grow_none] at hup
    have hgb := grownBy_pairs (w := w) (g := g) (n := q) (os := #[]) (Lib.compact (l0.map toP) ++ List.replicate (l0.length - (Lib.compact (l0.map toP)).length) ((0, 0) : Pair)).toArray
    rw [grow_none] at hgb
    exact ⟨_, rfl, Kd.R_mono hup (fun k hk => .inl hk), hB.grown hgb hB.size (fun k hk => by cases hk; exact hb)⟩
end Go.Proofs.Ytngmdccheaidkaa.Pr
