/- Plain laws: one level of a search in breadth, and the search. -/
import Derived.Test.YtngmdccheaidkaaPB2
namespace Go.Proofs.Ytngmdccheaidkaa.Pr
open Go.RowKit Go.Proofs.YtngmdccheaidkaaW.PrintWords Go.Proofs.YtngmdccheaidkaaW.PrintLast Go.Proofs.YtngmdccheaidkaaW.PrintMore
/-- What a level has: who is ahead, what is seen, the next row. -/
abbrev St := List Int × List Bool × List Int
def visit (x : Int) (st : St) (y : Int) : St := if rdOf false st.2.1 y = true then st else (st.1.set y.toNat x, st.2.1.set y.toNat true, st.2.2 ++ [y])
def scan (nx : List (List Int)) (st : St) (x : Int) : St := (rd_L1 nx x).foldl (visit x) st
def pairsOf (nx : List (List Int)) (row : List Int) : List (Int × Int) := row.flatMap fun x => (rd_L1 nx x).map fun y => (x, y)
theorem scan_pairs (nx : List (List Int)) (row : List Int) (st : St) : row.foldl (scan nx) st = (pairsOf nx row).foldl (fun st p => visit p.1 st p.2) st := by
  unfold pairsOf
  rw [List.foldl_flatMap]
  congr 1
  funext st x
  rw [List.foldl_map]
  rfl
structure Sz (n : Nat) (st : St) : Prop where
  p : st.1.length = n
  s : st.2.1.length = n
  c : st.2.2.length + st.2.1.count false ≤ n
theorem visit_sz {n : Nat} {st : St} {x y : Int} (h : Sz n st) (h0 : 0 ≤ y) (h1 : y < (n : Int)) : Sz n (visit x st y) ∧ (visit x st y).2.2.length + (visit x st y).2.1.count false = st.2.2.length + st.2.1.count false := by
  unfold visit
  have hp := h.p; have hs := h.s; have hc := h.c
  by_cases c : rdOf false st.2.1 y = true
  · rw [if_pos c]; exact ⟨h, rfl⟩
  · rw [if_neg c]
    rw [rdOf_get h0 (by omega)] at c
    have := count_set_true (l := st.2.1) (i := y.toNat) (by omega) (by simpa using c)
    exact ⟨⟨by simp [hp], by simp [hs], by simp only [List.length_append, List.length_cons, List.length_nil]; omega⟩, by simp only [List.length_append, List.length_cons, List.length_nil]; omega⟩
theorem rd_set (l : List Int) (x y v : Int) (hx : 0 ≤ x) (hl : x < (l.length : Int)) (hy : 0 ≤ y) : rd (l.set x.toNat v) y = if y = x then v else rd l y := rdOf_set 0 l x y v hx hl hy
/-- A level, so far. -/
structure LI (n : Nat) (P : Int → List Int) (prev : List Int) (seen : List Bool) (ps : List (Int × Int)) (st : St) : Prop where
  sz : Sz n st
  cnt : st.2.2.length + st.2.1.count false = seen.count false
  se : ∀ y, 0 ≤ y → y < (n : Int) → (rdOf false st.2.1 y = true ↔ rdOf false seen y = true ∨ y ∈ st.2.2)
  nr : ∀ y, y ∈ st.2.2 ↔ (0 ≤ y ∧ y < (n : Int)) ∧ ¬ rdOf false seen y = true ∧ ∃ u, (u, y) ∈ ps
  via : ∀ y, y ∈ st.2.2 → (rd st.1 y, y) ∈ ps ∧ ∀ u, (u, y) ∈ ps → lexLE (P (rd st.1 y)) (P u)
  old : ∀ y, 0 ≤ y → y < (n : Int) → y ∉ st.2.2 → rd st.1 y = rd prev y
  ord : st.2.2.Pairwise fun y z => lexLT (P (rd st.1 y)) (P (rd st.1 z)) ∨ (rd st.1 y = rd st.1 z ∧ y < z)
theorem LI.start {n : Nat} {P prev seen} (h1 : prev.length = n) (h2 : seen.length = n) : LI n P prev seen [] (prev, seen, []) where
  sz := ⟨h1, h2, by have := List.count_le_length (a := false) (l := seen); simp only [List.length_nil]; omega⟩
  cnt := by simp
  se := by simp
  nr := by simp
  via := by simp
  old := by simp
  ord := by simp
theorem LI.go {n : Nat} {P prev seen ps st} (h : LI n P prev seen ps st) {x y : Int} (h0 : 0 ≤ y) (h1 : y < (n : Int)) (hb : ∀ q ∈ ps, lexLT (P q.1) (P x) ∨ (q.1 = x ∧ q.2 < y)) : LI n P prev seen (ps ++ [(x, y)]) (visit x st y) := by
  have hs := h.sz
  obtain ⟨hv, hcn⟩ := visit_sz (x := x) hs h0 h1
  rw [h.cnt] at hcn
  have hle : ∀ u z, (u, z) ∈ ps → lexLE (P u) (P x) := fun u z hu => by
    rcases hb _ hu with k | ⟨rfl, _⟩
    · exact k.1
    · exact lexLE.refl _
  by_cases c : rdOf false st.2.1 y = true
  · have e : visit x st y = st := by unfold visit; rw [if_pos c]
    rw [e] at hv hcn ⊢
    refine ⟨hs, hcn, h.se, fun z => ?_, fun z hz => ?_, h.old, h.ord⟩
    · rw [h.nr]
      constructor
      · rintro ⟨k1, k2, u, k3⟩; exact ⟨k1, k2, u, by simp [k3]⟩
      · rintro ⟨k1, k2, u, k3⟩
        refine ⟨k1, k2, ?_⟩
        rcases List.mem_append.1 k3 with k3 | k3
        · exact ⟨u, k3⟩
        · simp only [List.mem_singleton, Prod.mk.injEq] at k3
          obtain ⟨rfl, rfl⟩ := k3
          rcases (h.se _ h0 h1).1 c with q | q
          · exact absurd q k2
          · exact ((h.nr _).1 q).2.2
    · obtain ⟨k1, k2⟩ := h.via z hz
      refine ⟨by simp [k1], fun u hu => ?_⟩
      rcases List.mem_append.1 hu with hu | hu
      · exact k2 u hu
      · simp only [List.mem_singleton, Prod.mk.injEq] at hu
        obtain ⟨rfl, rfl⟩ := hu
        exact hle _ _ k1
  · have e : visit x st y = (st.1.set y.toNat x, st.2.1.set y.toNat true, st.2.2 ++ [y]) := by unfold visit; rw [if_neg c]
    rw [e] at hv hcn ⊢
    have hp := hs.p; have hss := hs.s
    have hny : y ∉ st.2.2 := fun q => c ((h.se y h0 h1).2 (.inr q))
    have hns : ¬ rdOf false seen y = true := fun q => c ((h.se y h0 h1).2 (.inl q))
    have hpr : ∀ z, 0 ≤ z → rd (st.1.set y.toNat x) z = if z = y then x else rd st.1 z := fun z hz => rd_set _ _ _ _ h0 (by omega) hz
    have hin : ∀ z ∈ st.2.2, 0 ≤ z ∧ z ≠ y ∧ rd (st.1.set y.toNat x) z = rd st.1 z := fun z hz => by
      have hz0 := ((h.nr z).1 hz).1
      have hne : z ≠ y := fun e => hny (e ▸ hz)
      exact ⟨hz0.1, hne, by rw [hpr z hz0.1, if_neg hne]⟩
    have hyy : rd (st.1.set y.toNat x) y = x := by rw [hpr y h0, if_pos rfl]
    refine ⟨hv, hcn, fun z z0 z1 => ?_, fun z => ?_, fun z hz => ?_, fun z z0 z1 hz => ?_, ?_⟩
    · show rdOf false (st.2.1.set y.toNat true) z = true ↔ _
      rw [rdOf_set _ _ _ _ _ h0 (by omega) z0]
      by_cases e2 : z = y
      · simp [e2]
      · rw [if_neg e2, h.se z z0 z1]; simp [e2]
    · show z ∈ st.2.2 ++ [y] ↔ _
      rw [List.mem_append, List.mem_singleton, h.nr]
      constructor
      · rintro (⟨k1, k2, u, k3⟩ | rfl)
        · exact ⟨k1, k2, u, by simp [k3]⟩
        · exact ⟨⟨h0, h1⟩, hns, x, by simp⟩
      · rintro ⟨k1, k2, u, k3⟩
        rcases List.mem_append.1 k3 with k3 | k3
        · exact .inl ⟨k1, k2, u, k3⟩
        · simp only [List.mem_singleton, Prod.mk.injEq] at k3
          exact .inr k3.2
    · show (rd (st.1.set y.toNat x) z, z) ∈ _ ∧ ∀ u, _ → lexLE (P (rd (st.1.set y.toNat x) z)) _
      rcases List.mem_append.1 hz with hz | hz
      · obtain ⟨_, hne, e2⟩ := hin z hz
        rw [e2]
        obtain ⟨k1, k2⟩ := h.via z hz
        refine ⟨by simp [k1], fun u hu => ?_⟩
        rcases List.mem_append.1 hu with hu | hu
        · exact k2 u hu
        · simp only [List.mem_singleton, Prod.mk.injEq] at hu
          exact absurd hu.2 hne
      · rw [List.mem_singleton] at hz
        subst hz
        rw [hyy]
        refine ⟨by simp, fun u hu => ?_⟩
        rcases List.mem_append.1 hu with hu | hu
        · exact absurd ((h.nr _).2 ⟨⟨h0, h1⟩, hns, u, hu⟩) hny
        · simp only [List.mem_singleton, Prod.mk.injEq] at hu
          rw [hu.1]; exact lexLE.refl _
    · have hne : z ≠ y := fun e2 => hz (by rw [e2]; exact List.mem_append_right _ (by simp))
      show rd (st.1.set y.toNat x) z = _
      rw [hpr z z0, if_neg hne]
      exact h.old z z0 z1 (fun q => hz (List.mem_append_left _ q))
    · show (st.2.2 ++ [y]).Pairwise fun a b => lexLT (P (rd (st.1.set y.toNat x) a)) (P (rd (st.1.set y.toNat x) b)) ∨ (rd (st.1.set y.toNat x) a = rd (st.1.set y.toNat x) b ∧ a < b)
      rw [List.pairwise_append]
      refine ⟨h.ord.imp_of_mem (fun {a b} ha hb k => ?_), by simp, fun a ha b hb' => ?_⟩
      · rw [(hin a ha).2.2, (hin b hb).2.2]; exact k
      · rw [List.mem_singleton] at hb'
        subst hb'
        rw [(hin a ha).2.2, hyy]
        exact hb _ (h.via a ha).1
theorem LI.all {n : Nat} {P prev seen} : ∀ {rest ps : List (Int × Int)} {st : St}, LI n P prev seen ps st → (∀ q ∈ rest, 0 ≤ q.2 ∧ q.2 < (n : Int)) → (ps ++ rest).Pairwise (fun q r => lexLT (P q.1) (P r.1) ∨ (q.1 = r.1 ∧ q.2 < r.2)) →
    LI n P prev seen (ps ++ rest) (rest.foldl (fun st p => visit p.1 st p.2) st)
  | [], ps, st, h, _, _ => by rw [List.append_nil]; exact h
  | q :: rest, ps, st, h, hr, hp => by
    have h1 := h.go (x := q.1) (y := q.2) (hr q (by simp)).1 (hr q (by simp)).2 (fun r hr' => (List.pairwise_append.1 hp).2.2 r hr' q (by simp))
    have := LI.all (rest := rest) h1 (fun r hr' => hr r (by simp [hr'])) (by simpa using hp)
    simpa using this
/-- Between two levels. -/
structure BI (n : Nat) (R : Int → Int → Prop) (a : Int) (prev : List Int) (seen : List Bool) (row : List Int) (P : Int → List Int) (d : Nat) : Prop where
  p : prev.length = n
  s : seen.length = n
  a0 : 0 ≤ a
  a1 : a < (n : Int)
  se : ∀ x, 0 ≤ x → x < (n : Int) → (rdOf false seen x = true ↔ ∃ q, Walk R a q x ∧ q.length ≤ d + 1)
  least : ∀ x, 0 ≤ x → x < (n : Int) → rdOf false seen x = true → Least R a (P x) x
  ro : ∀ x, x ∈ row ↔ (0 ≤ x ∧ x < (n : Int)) ∧ rdOf false seen x = true ∧ (P x).length = d + 1
  ord : row.Pairwise fun u v => lexLT (P u) (P v)
  prv : ∀ x, 0 ≤ x → x < (n : Int) → rdOf false seen x = true → x ≠ a → (0 ≤ rd prev x ∧ rd prev x < (n : Int)) ∧ rdOf false seen (rd prev x) = true ∧ P x = P (rd prev x) ++ [x]
section
variable {n : Nat} {R : Int → Int → Prop} {a : Int}
theorem BI.short {prev seen row P d} (h : BI n R a prev seen row P d) {x : Int} (h0 : 0 ≤ x) (h1 : x < (n : Int)) (hx : rdOf false seen x = true) : (P x).length ≤ d + 1 := by
  obtain ⟨q, hq, hl⟩ := (h.se x h0 h1).1 hx
  exact Nat.le_trans ((h.least x h0 h1 hx).1.2 q hq) hl
theorem BI.start (a0 : 0 ≤ a) (a1 : a < (n : Int)) : BI n R a (List.replicate n 0) ((List.replicate n false).set a.toNat true) [a] (fun x => [x]) 0 := by
  have hz : ∀ x : Int, 0 ≤ x → (rdOf false ((List.replicate n false).set a.toNat true) x = true ↔ x = a) := fun x hx => by
    rw [rdOf_set _ _ _ _ _ a0 (by simpa using a1) hx]
    split
    · rename_i e; simp [e]
    · rename_i e
      have : rdOf false (List.replicate n false) x = false := by
        unfold rdOf; rw [List.getD_eq_getElem?_getD, List.getElem?_replicate]; split <;> rfl
      simp [this, e]
  have hone : ∀ {q b}, Walk R a q b → q.length ≤ 1 → b = a ∧ q = [a] := fun {q b} h hl => by
    cases h with
    | one => exact ⟨rfl, rfl⟩
    | cons h t => have := t.pos; simp only [List.length_cons] at hl; omega
  refine ⟨by simp, by simp, a0, a1, fun x x0 x1 => ?_, fun x x0 x1 hx => ?_, fun x => ?_, by simp, fun x x0 x1 hx hne => ?_⟩
  · rw [hz x x0]
    constructor
    · rintro rfl; exact ⟨[x], .one x, by simp⟩
    · rintro ⟨q, hq, hl⟩; exact (hone hq hl).1
  · rw [hz x x0] at hx
    subst hx
    refine ⟨⟨.one x, fun q hq => hq.pos⟩, fun q hq => ?_⟩
    have := hq.2 _ (.one x)
    rw [(hone hq.1 this).2]
    exact lexLE.refl _
  · rw [List.mem_singleton]
    constructor
    · rintro rfl; exact ⟨⟨a0, a1⟩, (hz _ a0).2 rfl, rfl⟩
    · rintro ⟨⟨x0, _⟩, hx, _⟩; exact (hz x x0).1 hx
  · exact absurd ((hz x x0).1 hx) hne
theorem mem_pairsOf {nx : List (List Int)} {row : List Int} {u y : Int} : (u, y) ∈ pairsOf nx row ↔ u ∈ row ∧ y ∈ rd_L1 nx u := by
  unfold pairsOf
  rw [List.mem_flatMap]
  constructor
  · rintro ⟨x, hx, hm⟩
    obtain ⟨z, hz, e⟩ := List.mem_map.1 hm
    simp only [Prod.mk.injEq] at e
    obtain ⟨rfl, rfl⟩ := e
    exact ⟨hx, hz⟩
  · rintro ⟨hu, hy⟩
    exact ⟨u, hu, List.mem_map.2 ⟨y, hy, rfl⟩⟩
theorem pairsOf_sorted {nx : List (List Int)} {P : Int → List Int} : ∀ {row : List Int}, row.Pairwise (fun u v => lexLT (P u) (P v)) → (∀ x ∈ row, (rd_L1 nx x).Pairwise (· < ·)) → (pairsOf nx row).Pairwise (fun q r => lexLT (P q.1) (P r.1) ∨ (q.1 = r.1 ∧ q.2 < r.2))
  | [], _, _ => by simp [pairsOf]
  | x :: row, h, k => by
    have e : pairsOf nx (x :: row) = ((rd_L1 nx x).map fun y => (x, y)) ++ pairsOf nx row := rfl
    rw [List.pairwise_cons] at h
    rw [e, List.pairwise_append]
    refine ⟨?_, pairsOf_sorted h.2 (fun z hz => k z (by simp [hz])), fun q hq r hr => ?_⟩
    · rw [List.pairwise_map]
      exact (k x (by simp)).imp (fun h => .inr ⟨rfl, h⟩)
    · obtain ⟨y, _, rfl⟩ := List.mem_map.1 hq
      exact .inl (h.1 _ (mem_pairsOf.1 (show (r.1, r.2) ∈ _ from hr)).1)
/-- One level. -/
theorem BI.go {prev seen row P d} (h : BI n R a prev seen row P d) {nx : List (List Int)} (hR : ∀ x y, 0 ≤ x → x < (n : Int) → (y ∈ rd_L1 nx x ↔ R x y)) (hin : ∀ x y, R x y → (0 ≤ x ∧ x < (n : Int)) ∧ 0 ≤ y ∧ y < (n : Int)) (hup : ∀ x, 0 ≤ x → x < (n : Int) → (rd_L1 nx x).Pairwise (· < ·)) :
    Sz n (row.foldl (scan nx) (prev, seen, [])) ∧ ∃ P', BI n R a (row.foldl (scan nx) (prev, seen, [])).1 (row.foldl (scan nx) (prev, seen, [])).2.1 (row.foldl (scan nx) (prev, seen, [])).2.2 P' (d + 1) ∧
      ((row.foldl (scan nx) (prev, seen, [])).2.2 ≠ [] → (row.foldl (scan nx) (prev, seen, [])).2.1.count false < seen.count false) := by
  rw [scan_pairs]
  have hrow : ∀ x ∈ row, 0 ≤ x ∧ x < (n : Int) := fun x hx => ((h.ro x).1 hx).1
  have hpin : ∀ q ∈ pairsOf nx row, 0 ≤ q.2 ∧ q.2 < (n : Int) := fun q hq => by
    obtain ⟨k1, k2⟩ := mem_pairsOf.1 (show (q.1, q.2) ∈ _ from hq)
    exact (hin _ _ ((hR _ _ (hrow _ k1).1 (hrow _ k1).2).1 k2)).2
  have L := LI.all (rest := pairsOf nx row) (LI.start (P := P) h.p h.s) hpin (by
    rw [List.nil_append]
    exact pairsOf_sorted h.ord (fun x hx => hup x (hrow x hx).1 (hrow x hx).2))
  rw [List.nil_append] at L
  generalize (pairsOf nx row).foldl (fun st p => visit p.1 st p.2) (prev, seen, []) = st at L
  obtain ⟨pv, sn, nr⟩ := st
  have hmem : ∀ u y, (u, y) ∈ pairsOf nx row ↔ u ∈ row ∧ R u y := fun u y => by
    rw [mem_pairsOf]
    constructor
    · rintro ⟨k1, k2⟩; exact ⟨k1, (hR u y (hrow u k1).1 (hrow u k1).2).1 k2⟩
    · rintro ⟨k1, k2⟩; exact ⟨k1, (hR u y (hrow u k1).1 (hrow u k1).2).2 k2⟩
  have Ls := L.se; have Ln := L.nr; have Lv := L.via; have Lo := L.old; have Lr := L.ord
  dsimp only at Ls Ln Lv Lo Lr ⊢
  -- a node seen, and a step from it
  have hstep : ∀ u y, R u y → rdOf false seen u = true → ¬ rdOf false seen y = true → u ∈ row := fun u y hR' hu hy => by
    have hi := hin u y hR'
    rw [h.ro]
    refine ⟨hi.1, hu, ?_⟩
    have h1 := h.short hi.1.1 hi.1.2 hu
    refine Nat.le_antisymm h1 (Nat.lt_of_not_le fun c => hy ?_)
    rw [h.se y hi.2.1 hi.2.2]
    exact ⟨_, (h.least u hi.1.1 hi.1.2 hu).1.1.snoc hR', by simp only [List.length_append, List.length_cons, List.length_nil]; omega⟩
  have hvia : ∀ y ∈ nr, rd pv y ∈ row ∧ R (rd pv y) y := fun y hy => (hmem _ _).1 (Lv y hy).1
  have hrs : ∀ x ∈ row, rdOf false seen x = true ∧ x ∉ nr := fun x hx => ⟨((h.ro x).1 hx).2.1, fun q => ((Ln x).1 q).2.1 ((h.ro x).1 hx).2.1⟩
  have hns : ∀ y, rdOf false seen y = true → y ∉ nr := fun y hy q => ((Ln y).1 q).2.1 hy
  classical
  let P' : Int → List Int := fun y => if y ∈ nr then P (rd pv y) ++ [y] else P y
  have hP1 : ∀ y, y ∈ nr → P' y = P (rd pv y) ++ [y] := fun y hy => if_pos hy
  have hP2 : ∀ y, y ∉ nr → P' y = P y := fun y hy => if_neg hy
  have hlen : ∀ x ∈ row, (P x).length = d + 1 := fun x hx => ((h.ro x).1 hx).2.2
  have hleast : ∀ y ∈ nr, Least R a (P (rd pv y) ++ [y]) y := fun y hy => by
    obtain ⟨hv1, hv2⟩ := hvia y hy
    have hx := (h.ro _).1 hv1
    have hyi := ((Ln y).1 hy).1
    have hyn := ((Ln y).1 hy).2.1
    have hLx := h.least _ hx.1.1 hx.1.2 hx.2.1
    have hlong : ∀ q, Walk R a q y → d + 2 ≤ q.length := fun q hq => Nat.lt_of_not_le fun c => hyn ((h.se y hyi.1 hyi.2).2 ⟨q, hq, by omega⟩)
    refine ⟨⟨hLx.1.1.snoc hv2, fun q hq => by have := hlong q hq; simp only [List.length_append, List.length_cons, List.length_nil]; omega⟩, fun q hq => ?_⟩
    have hql : q.length = d + 2 := by
      have := hlong q hq.1
      have := hq.2 _ (hLx.1.1.snoc hv2)
      simp only [List.length_append, List.length_cons, List.length_nil] at this
      omega
    rcases hq.1.last with ⟨rfl, rfl⟩ | ⟨q', u, rfl, hw, hu⟩
    · simp at hql
    · simp only [List.length_append, List.length_cons, List.length_nil] at hql
      have hui := (hin u y hu).1
      have hus : rdOf false seen u = true := (h.se u hui.1 hui.2).2 ⟨q', hw, by omega⟩
      have hur := hstep u y hu hus hyn
      have hul := hlen u hur
      have hLu := h.least u hui.1 hui.2 hus
      have hsq : Short R a q' u := ⟨hw, fun r hr => by have := hLu.1.2 r hr; omega⟩
      have h1 := (Lv y hy).2 u ((hmem _ _).2 ⟨hur, hu⟩)
      exact lexLE.app (by omega) (h1.trans (hLu.2 q' hsq)) (fun _ => lexLE.refl _)
  refine ⟨L.sz, P', ⟨L.sz.p, L.sz.s, h.a0, h.a1, fun y y0 y1 => ?_, fun y y0 y1 hy => ?_, fun y => ?_, ?_, fun y y0 y1 hy hne => ?_⟩, fun hne => ?_⟩
  · rw [Ls y y0 y1]
    constructor
    · rintro (k | k)
      · obtain ⟨q, hq, hl⟩ := (h.se y y0 y1).1 k
        exact ⟨q, hq, by omega⟩
      · have hL := hleast y k
        refine ⟨_, hL.1.1, ?_⟩
        have := hlen _ (hvia y k).1
        simp only [List.length_append, List.length_cons, List.length_nil]
        omega
    · rintro ⟨q, hq, hl⟩
      by_cases c : rdOf false seen y = true
      · exact .inl c
      · refine .inr ((Ln y).2 ⟨⟨y0, y1⟩, c, ?_⟩)
        rcases hq.last with ⟨rfl, rfl⟩ | ⟨q', u, rfl, hw, hu⟩
        · exact absurd ((h.se _ y0 y1).2 ⟨_, .one _, by simp⟩) c
        · simp only [List.length_append, List.length_cons, List.length_nil] at hl
          have hui := (hin u y hu).1
          have hus : rdOf false seen u = true := (h.se u hui.1 hui.2).2 ⟨q', hw, by omega⟩
          exact ⟨u, (hmem _ _).2 ⟨hstep u y hu hus c, hu⟩⟩
  · by_cases c : y ∈ nr
    · rw [hP1 y c]; exact hleast y c
    · rw [hP2 y c]
      rcases (Ls y y0 y1).1 hy with k | k
      · exact h.least y y0 y1 k
      · exact absurd k c
  · constructor
    · intro hy
      have hyi := ((Ln y).1 hy).1
      refine ⟨hyi, (Ls y hyi.1 hyi.2).2 (.inr hy), ?_⟩
      rw [hP1 y hy]
      have := hlen _ (hvia y hy).1
      simp only [List.length_append, List.length_cons, List.length_nil]
      omega
    · rintro ⟨⟨y0, y1⟩, hy, hl⟩
      rcases (Ls y y0 y1).1 hy with k | k
      · rw [hP2 y (hns y k)] at hl
        have := h.short y0 y1 k
        omega
      · exact k
  · refine Lr.imp_of_mem (fun {y z} hy hz k => ?_)
    rw [hP1 y hy, hP1 z hz]
    have e1 := hlen _ (hvia y hy).1
    have e2 := hlen _ (hvia z hz).1
    rcases k with k | ⟨k1, k2⟩
    · exact lexLT.app (by omega) k _ _
    · rw [k1]
      refine ⟨lexLE.same _ (.inl k2), fun e => ?_⟩
      have := List.append_cancel_left e
      simp only [List.cons.injEq, and_true] at this
      omega
  · by_cases c : y ∈ nr
    · obtain ⟨hv1, hv2⟩ := hvia y c
      have hx := (h.ro _).1 hv1
      refine ⟨hx.1, (Ls _ hx.1.1 hx.1.2).2 (.inl hx.2.1), ?_⟩
      rw [hP1 y c, hP2 _ (hns _ hx.2.1)]
    · rcases (Ls y y0 y1).1 hy with k | k
      · rw [Lo y y0 y1 c]
        obtain ⟨k1, k2, k3⟩ := h.prv y y0 y1 k hne
        refine ⟨k1, (Ls _ k1.1 k1.2).2 (.inl k2), ?_⟩
        rw [hP2 y c, hP2 _ (hns _ k2)]
        exact k3
      · exact absurd k c
  · have hc := L.cnt
    dsimp only at hc
    have := List.length_pos_iff.2 hne
    omega
end
end Go.Proofs.Ytngmdccheaidkaa.Pr
