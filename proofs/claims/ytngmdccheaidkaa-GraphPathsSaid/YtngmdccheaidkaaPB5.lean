/- Plain laws: graph.Path is the least of the shortest walks. -/
import Derived.Test.YtngmdccheaidkaaPB4
import Derived.Test.YtngmdccheaidkaaF20
namespace Go.Proofs.Ytngmdccheaidkaa.Pr
open Go.RowKit Go.Proofs.YtngmdccheaidkaaW.PrintWords Go.Proofs.YtngmdccheaidkaaW.PrintLast Go.Proofs.YtngmdccheaidkaaW.PrintMore
theorem rd_get {l : List Int} {j : Nat} (h : j < l.length) : rd l (j : Int) = l[j] := rdOf_get (d := 0) (l := l) (x := (j : Int)) (by omega) (by omega)
section
variable {n : Nat} {R : Int → Int → Prop} {a b : Int} {nx : List (List Int)} {r : List Int}
theorem path_l2 (hn : n ≤ 1000) {ys : List Int} (hy : ∀ y ∈ ys, 0 ≤ y ∧ y < (n : Int)) (hyl : ys.length < 1000000000000) {x i len : Int} {row : List Int} : ∀ m j (st : St), ys.length = j + m → Sz n st →
    Ev (fun k => graph_Path.l1 k a b nx ((ys.drop j).foldl (visit x) st).1 ((ys.drop j).foldl (visit x) st).2.1 ((ys.drop j).foldl (visit x) st).2.2 row len (wrap64 (i + 1))) r →
    Ev (fun k => graph_Path.l2 k a b nx st.1 st.2.1 st.2.2 x row len i ys (ys.length : Int) (j : Int)) r
  | 0, j, st, he, hs, h => by
    rw [List.drop_of_length_le (by omega)] at h
    refine Ev.step (fun k => ?_) h
    rw [graph_Path.l2, if_neg (by omega)]
    rfl
  | m + 1, j, st, he, hs, h => by
    have hj : j < ys.length := by omega
    have hyj := hy _ (List.getElem_mem hj)
    rw [List.drop_eq_getElem_cons hj, List.foldl_cons] at h
    have hv := (visit_sz (x := x) hs hyj.1 hyj.2).1
    have ih := path_l2 hn hy hyl m (j + 1) (visit x st ys[j]) (by omega) hv h
    have hp := hs.p; have hss := hs.s; have hc := hs.c
    refine Ev.step (fun k => ?_) ih
    rw [graph_Path.l2, if_pos (by omega), if_pos (by omega), if_pos (by omega), rd_get hj, if_pos hyj.1, if_pos (by omega), w64 (by omega)]
    unfold visit
    by_cases c : rdOf false st.2.1 ys[j] = true
    · rw [if_pos c, if_pos c]; rfl
    · rw [if_neg c, if_neg c, if_pos (by omega), if_pos (by omega)]; rfl
theorem scan_sz {x : Int} (hx : ∀ y ∈ rd_L1 nx x, 0 ≤ y ∧ y < (n : Int)) {st : St} (h : Sz n st) : Sz n (scan nx st x) := by
  unfold scan
  revert st
  generalize rd_L1 nx x = ys at hx
  induction ys with
  | nil => intro st h; exact h
  | cons y ys ih => intro st h; exact ih (fun z hz => hx z (by simp [hz])) (visit_sz h (hx y (by simp)).1 (hx y (by simp)).2).1
theorem path_l1 (hn : n ≤ 1000) (hnx : nx.length = n) (hys : ∀ x, 0 ≤ x → x < (n : Int) → (∀ y ∈ rd_L1 nx x, 0 ≤ y ∧ y < (n : Int)) ∧ (rd_L1 nx x).length < 1000000000000) {row : List Int} (hrow : ∀ x ∈ row, 0 ≤ x ∧ x < (n : Int)) (hrl : row.length ≤ 1000) : ∀ m i (st : St), row.length = i + m → Sz n st →
    Ev (fun k => graph_Path.l0 k a b nx ((row.drop i).foldl (scan nx) st).1 ((row.drop i).foldl (scan nx) st).2.1 ((row.drop i).foldl (scan nx) st).2.2) r →
    Ev (fun k => graph_Path.l1 k a b nx st.1 st.2.1 st.2.2 row (row.length : Int) (i : Int)) r
  | 0, i, st, he, hs, h => by
    rw [List.drop_of_length_le (by omega)] at h
    refine Ev.step (fun k => ?_) h
    rw [graph_Path.l1, if_neg (by omega)]
    rfl
  | m + 1, i, st, he, hs, h => by
    have hi : i < row.length := by omega
    have hx := hrow _ (List.getElem_mem hi)
    rw [List.drop_eq_getElem_cons hi, List.foldl_cons] at h
    have ih := path_l1 hn hnx hys hrow hrl m (i + 1) (scan nx st row[i]) (by omega) (scan_sz (hys _ hx.1 hx.2).1 hs) h
    have := path_l2 (a := a) (b := b) (nx := nx) (r := r) hn (hys _ hx.1 hx.2).1 (hys _ hx.1 hx.2).2 (x := row[i]) (i := (i : Int)) (len := (row.length : Int)) (row := row) (rd_L1 nx row[i]).length 0 st (by omega) hs (by
      rw [w64 (by omega), List.drop_zero]
      exact ih)
    refine Ev.step (fun k => ?_) this
    rw [graph_Path.l1, if_pos (by omega), if_pos (by omega), if_pos (by omega), rd_get hi, if_pos hx.1, if_pos (by omega)]
    rfl
theorem path_l3 (hn : n ≤ 1000) {prev seen row P d} (h : BI n R a prev seen row P d) : ∀ m x (s : List Int), (P x).length = m → 0 ≤ x → x < (n : Int) → rdOf false seen x = true → s.length + m ≤ 10000 →
    Ev (fun k => graph_Path.l3 k a prev (s ++ [x]) x) ((s ++ (P x).reverse).reverse)
  | 0, x, s, hm, h0, h1, hx, hs => by
    have := (h.least x h0 h1 hx).1.1.pos
    omega
  | m + 1, x, s, hm, h0, h1, hx, hs => by
    by_cases c : x = a
    · subst c
      have hL := h.least x h0 h1 hx
      have : P x = [x] := by
        have := hL.1.2 _ (.one x)
        cases hP : P x with
        | nil => rw [hP] at hm; simp at hm
        | cons u t =>
          have hh := hL.1.1.head
          rw [hP] at hh this
          simp at hh this
          simp [hh, this]
      rw [this]
      refine Ev.step (f := fun k => some (s ++ [x]).reverse) (fun k => ?_) (Ev.now _)
      rw [graph_Path.l3, if_pos rfl]
      unfold slices_Reverse_int_int.f
      rw [if_pos (by simp; omega)]; rfl
    · obtain ⟨k1, k2, k3⟩ := h.prv x h0 h1 hx c
      have hm' : (P (rd prev x)).length = m := by
        rw [k3] at hm
        simp only [List.length_append, List.length_cons, List.length_nil] at hm
        omega
      have ih := path_l3 hn h m (rd prev x) (s ++ [x]) hm' k1.1 k1.2 k2 (by simp only [List.length_append, List.length_cons, List.length_nil]; omega)
      have e : (s ++ [x] ++ (P (rd prev x)).reverse) = s ++ (P x).reverse := by rw [k3]; simp
      rw [e] at ih
      refine Ev.step (fun k => ?_) ih
      rw [graph_Path.l3, if_neg c, if_pos h0, if_pos (by rw [h.p]; exact h1), if_pos (by simp only [List.length_append, List.length_cons, List.length_nil]; omega)]
theorem least_len {p : List Int} {x : Int} (hin : ∀ x y, R x y → (0 ≤ x ∧ x < (n : Int)) ∧ 0 ≤ y ∧ y < (n : Int)) (a0 : 0 ≤ a) (a1 : a < (n : Int)) (h : Short R a p x) : p.length ≤ n :=
  nodup_len h.nodup (h.1.all (P := fun z => 0 ≤ z ∧ z < (n : Int)) (fun u v huv => (hin u v huv).2) ⟨a0, a1⟩)
/-- What a path is. -/
def IsPath (R : Int → Int → Prop) (a b : Int) (r : List Int) : Prop := (Rt R a b ∧ Least R a r b) ∨ (¬ Rt R a b ∧ r = [])
theorem IsPath.one {r s : List Int} (h : IsPath R a b r) (k : IsPath R a b s) : r = s := by
  rcases h with ⟨h1, h2⟩ | ⟨h1, rfl⟩ <;> rcases k with ⟨k1, k2⟩ | ⟨k1, rfl⟩
  · exact h2.one k2
  · exact absurd h1 k1
  · exact absurd k1 h1
  · rfl
theorem path_l0 (hn : n ≤ 1000) (hnx : nx.length = n) (hR : ∀ x y, 0 ≤ x → x < (n : Int) → (y ∈ rd_L1 nx x ↔ R x y)) (hin : ∀ x y, R x y → (0 ≤ x ∧ x < (n : Int)) ∧ 0 ≤ y ∧ y < (n : Int)) (hup : ∀ x, 0 ≤ x → x < (n : Int) → (rd_L1 nx x).Pairwise (· < ·)) (b0 : 0 ≤ b) (b1 : b < (n : Int)) :
    ∀ m prev seen row P d, BI n R a prev seen row P d → row.length + seen.count false ≤ n → (seen.count false < m ∨ row = []) → ∃ r, Ev (fun k => graph_Path.l0 k a b nx prev seen row) r ∧ IsPath R a b r := by
  have hys : ∀ x, 0 ≤ x → x < (n : Int) → (∀ y ∈ rd_L1 nx x, 0 ≤ y ∧ y < (n : Int)) ∧ (rd_L1 nx x).length < 1000000000000 := fun x h0 h1 => by
    have hi : ∀ y ∈ rd_L1 nx x, 0 ≤ y ∧ y < (n : Int) := fun y hy => (hin x y ((hR x y h0 h1).1 hy)).2
    refine ⟨hi, ?_⟩
    have := nodup_len (n := n) (p := rd_L1 nx x) (List.nodup_iff_pairwise_ne.2 ((hup x h0 h1).imp (fun h => by omega))) hi
    omega
  intro m
  induction m with
  | zero =>
    intro prev seen row P d h hc hm
    rcases hm with hm | rfl
    · omega
    · -- nothing more
      have hst : Ev (fun k => graph_Path.l0 k a b nx prev seen []) (if rdOf false seen b = true then P b else []) ∧ IsPath R a b (if rdOf false seen b = true then P b else []) := by
        by_cases c : rdOf false seen b = true
        · rw [if_pos c]
          have hL := h.least b b0 b1 c
          refine ⟨?_, .inl ⟨⟨_, hL.1.1⟩, hL⟩⟩
          have hl3 := path_l3 hn h (P b).length b [] rfl b0 b1 c (by have := least_len hin h.a0 h.a1 hL.1; simp only [List.length_nil]; omega)
          rw [List.nil_append, List.nil_append, List.reverse_reverse] at hl3
          refine Ev.step (f := fun k => graph_Path.j2 k a b nx prev seen [] false) (fun k => ?_) (Ev.step (fun k => ?_) hl3)
          · rw [graph_Path.l0, if_neg (by simp)]
          · rw [graph_Path.j2, if_neg (by simp), if_pos b0, if_pos (by rw [h.s]; exact b1), if_pos c]
        · rw [if_neg c]
          refine ⟨?_, .inr ⟨fun hr => c ?_, rfl⟩⟩
          · refine Ev.step (f := fun k => graph_Path.j2 k a b nx prev seen [] false) (fun k => ?_) (Ev.step (fun k => ?_) (Ev.now _))
            · rw [graph_Path.l0, if_neg (by simp)]
            · rw [graph_Path.j2, if_neg (by simp), if_pos b0, if_pos (by rw [h.s]; exact b1), if_neg c]
          · refine (hr.closed (P := fun z => (0 ≤ z ∧ z < (n : Int)) ∧ rdOf false seen z = true) (fun u v hu huv => ?_) ⟨⟨h.a0, h.a1⟩, (h.se a h.a0 h.a1).2 ⟨_, .one a, by simp⟩⟩).2
            have hi := hin u v huv
            refine ⟨hi.2, ?_⟩
            have h1 := h.short hi.1.1 hi.1.2 hu.2
            have h2 : ¬ (P u).length = d + 1 := fun e => by
              have := (h.ro u).2 ⟨hu.1, hu.2, e⟩
              simp at this
            exact (h.se v hi.2.1 hi.2.2).2 ⟨_, (h.least u hi.1.1 hi.1.2 hu.2).1.1.snoc huv, by simp only [List.length_append, List.length_cons, List.length_nil]; omega⟩
      exact ⟨_, hst⟩
  | succ m ih =>
    intro prev seen row P d h hc hm
    by_cases e : row = []
    · exact ih prev seen row P d h hc (.inr e)
    · by_cases c : rdOf false seen b = true
      · have hL := h.least b b0 b1 c
        have hl3 := path_l3 hn h (P b).length b [] rfl b0 b1 c (by have := least_len hin h.a0 h.a1 hL.1; simp only [List.length_nil]; omega)
        rw [List.nil_append, List.nil_append, List.reverse_reverse] at hl3
        have hrp := List.length_pos_iff.2 e
        refine ⟨_, Ev.step (f := fun k => graph_Path.j2 k a b nx prev seen row false) (fun k => ?_) (Ev.step (fun k => ?_) hl3), .inl ⟨⟨_, hL.1.1⟩, hL⟩⟩
        · rw [graph_Path.l0, if_pos (by omega), if_pos b0, if_pos (by rw [h.s]; exact b1), c]; rfl
        · rw [graph_Path.j2, if_neg (by simp), if_pos b0, if_pos (by rw [h.s]; exact b1), if_pos c]
      · have hrow : ∀ x ∈ row, 0 ≤ x ∧ x < (n : Int) := fun x hx => ((h.ro x).1 hx).1
        obtain ⟨hsz, P', hB, hless⟩ := h.go hR hin hup
        have hmm : (row.foldl (scan nx) (prev, seen, [])).2.1.count false < m ∨ (row.foldl (scan nx) (prev, seen, [])).2.2 = [] := by
          by_cases e2 : (row.foldl (scan nx) (prev, seen, [])).2.2 = []
          · exact .inr e2
          · have := hless e2
            rcases hm with hm | hm
            · exact .inl (by omega)
            · exact absurd hm e
        obtain ⟨r, hr, hp⟩ := ih _ _ _ P' (d + 1) hB hsz.c hmm
        have hrl : row.length ≤ 1000 := by omega
        have h1 := path_l1 (a := a) (b := b) (r := r) hn hnx hys hrow hrl row.length 0 (prev, seen, []) (by omega) ⟨h.p, h.s, by simp only [List.length_nil]; omega⟩ (by rw [List.drop_zero]; exact hr)
        have hrp := List.length_pos_iff.2 e
        refine ⟨r, Ev.step (f := fun k => graph_Path.j2 k a b nx prev seen row true) (fun k => ?_) (Ev.step (fun k => ?_) h1), hp⟩
        · rw [graph_Path.l0, if_pos (by omega), if_pos b0, if_pos (by rw [h.s]; exact b1)]
          simp [c]
        · rw [graph_Path.j2, if_pos rfl]; rfl
theorem Path_ok {n : Int} {l : List S27} (h : OkE n l) {a b : Int} (a0 : 0 ≤ a) (a1 : a < n) (b0 : 0 ≤ b) (b1 : b < n) : ∃ r, Ev (fun k => graph_Path.f k n l a b) r ∧ IsPath (Ed l) a b r := by
  have hn0 := h.n0
  have hn1 := h.n1
  have hnx : (nextsP n.toNat l).length = n.toNat := by simp [nextsP]
  have hB := BI.start (n := n.toNat) (R := Ed l) (a := a) a0 (by omega)
  have hc1 : ((List.replicate n.toNat false).set a.toNat true).count false + 1 = n.toNat := by
    have := count_set_true (l := List.replicate n.toNat false) (i := a.toNat) (by simp; omega) (by simp)
    simpa using this
  obtain ⟨r, hr, hp⟩ := path_l0 (n := n.toNat) (R := Ed l) (a := a) (b := b) (nx := nextsP n.toNat l) (by omega) hnx (fun x y x0 x1 => mem_nextsP x0 x1) (fun x y hxy => by have := h.edge hxy; omega)
    (fun x x0 x1 => by rw [rd_nextsP x0 x1]; exact outOf_rising l x) b0 (by omega) (n.toNat + 1) _ _ _ _ _ hB (by simp only [List.length_cons, List.length_nil]; omega) (.inl (by omega))
  refine ⟨r, ?_, hp⟩
  unfold graph_Path.f
  refine Ev.bind (a := (nextsP n.toNat l, true)) ⟨l.length + 1, fun k hk => nexts_ok h hk⟩ ?_
  refine Ev.congr (f := fun k => graph_Path.j0 k n a b (nextsP n.toNat l) false) (fun k => ?_) (Ev.step (fun k => ?_) hr)
  · simp only [if_true]
    rw [if_neg (by omega), if_neg (by omega), if_neg (by omega), decide_eq_false (by omega)]
  · rw [graph_Path.j0, if_neg (by simp), if_pos hn0, if_pos (by omega), if_pos (by omega)]
    simp only [Option.bind_some, List.length_replicate]
    rw [if_pos a0, if_pos (by omega)]
theorem Path_out {n : Int} {l : List S27} (hl : l.length ≤ 8796093022208) {a b : Int} (h : ¬ OkE n l ∨ a < 0 ∨ n ≤ a ∨ b < 0 ∨ n ≤ b) : Ev (fun k => graph_Path.f k n l a b) [] := by
  unfold graph_Path.f
  have hj : ∀ nx, Ev (fun k => graph_Path.j0 k n a b nx true) ([] : List Int) := fun nx => Ev.step (fun k => by rw [graph_Path.j0, if_pos rfl]) (Ev.now _)
  by_cases c : OkE n l
  · refine Ev.bind (a := (nextsP n.toNat l, true)) ⟨l.length + 1, fun k hk => nexts_ok c hk⟩ (Ev.congr (fun k => ?_) (hj (nextsP n.toNat l)))
    simp only [if_true]
    by_cases c1 : a < 0
    · rw [if_pos c1]
    · by_cases c2 : a ≥ n
      · rw [if_neg c1, if_pos c2]
      · by_cases c3 : b < 0
        · rw [if_neg c1, if_neg c2, if_pos c3]
        · rw [if_neg c1, if_neg c2, if_neg c3, decide_eq_true]
          rcases h with h | h
          · exact absurd c h
          · omega
  · refine Ev.bind (a := ([], false)) ⟨0, fun k hk => nexts_bad hl c k⟩ (Ev.congr (fun k => ?_) (hj []))
    simp
end
end Go.Proofs.Ytngmdccheaidkaa.Pr
