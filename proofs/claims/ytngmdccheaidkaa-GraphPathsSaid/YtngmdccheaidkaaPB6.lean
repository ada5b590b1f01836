/- Plain laws: what the statements about graphs begin with; GraphOrder. -/
import Derived.Test.YtngmdccheaidkaaPB3
import Derived.Test.YtngmdccheaidkaaPB5
import Derived.Test.YtngmdccheaidkaaF14
import Derived.Test.YtngmdccheaidkaaF15
namespace Go.Proofs.Ytngmdccheaidkaa.Pr
open Go.RowKit Go.Proofs.YtngmdccheaidkaaW.PrintWords Go.Proofs.YtngmdccheaidkaaW.PrintLast Go.Proofs.YtngmdccheaidkaaW.PrintMore
theorem cleanP_id {l : List S27} (h : l.Pairwise ltS) : cleanP l = l :=
  rising_unique (lt := ltS) (fun a h => by unfold ltS at h; omega) (fun a b c h k => by unfold ltS at *; omega) (cleanP_rising l) h (fun x => mem_cleanP l x)
/-! ### Ints, Lists -/
theorem ints_l0 {l : List Int} (hl : l.length < 1000000000000) : ∀ m i, l.length = i + m → Ev (fun k => lambrequinref10_Ints.l0 k l l (i : Int)) true
  | 0, i, e => Ev.step (fun k => by rw [lambrequinref10_Ints.l0, if_neg (by omega)]) (Ev.now _)
  | m + 1, i, e => Ev.step (fun k => by rw [lambrequinref10_Ints.l0, if_pos (by omega), if_pos (by omega), if_pos (by omega), if_pos rfl, w64 (by omega)]; rfl) (ints_l0 hl m (i + 1) (by omega))
theorem ints_self {l : List Int} (hl : l.length < 1000000000000) : Ev (fun k => lambrequinref10_Ints.f k l l) true :=
  Ev.congr (fun k => by unfold lambrequinref10_Ints.f; rw [if_pos rfl]; rfl) (ints_l0 hl l.length 0 (by omega))
theorem rdL1_get {l : List (List Int)} {j : Nat} (h : j < l.length) : rd_L1 l (j : Int) = l[j] := by
  unfold rd_L1
  rw [Int.toNat_natCast, List.getD_eq_getElem?_getD, List.getElem?_eq_getElem h]; rfl
theorem lists_l0 {l : List (List Int)} (hl : l.length < 1000000000000) (hr : ∀ r ∈ l, r.length < 1000000000000) : ∀ m i, l.length = i + m → Ev (fun k => lambrequinref10_Lists.l0 k l l (i : Int)) true
  | 0, i, e => Ev.step (fun k => by rw [lambrequinref10_Lists.l0, if_neg (by omega)]) (Ev.now _)
  | m + 1, i, e => by
    have hi : i < l.length := by omega
    refine Ev.step (f := fun k => (lambrequinref10_Ints.f k l[i] l[i]).bind fun t => (if t = true then lambrequinref10_Lists.l0 k l l ((i : Int) + 1) else some false)) (fun k => ?_) (Ev.bind (ints_self (hr _ (List.getElem_mem hi))) (Ev.congr (fun k => if_pos rfl) (lists_l0 hl hr m (i + 1) (by omega))))
    rw [lambrequinref10_Lists.l0, if_pos (by omega), if_pos (by omega), if_pos (by omega), rdL1_get hi, w64 (by omega)]
theorem lists_self {l : List (List Int)} (hl : l.length < 1000000000000) (hr : ∀ r ∈ l, r.length < 1000000000000) : Ev (fun k => lambrequinref10_Lists.f k l l) true :=
  Ev.congr (fun k => by unfold lambrequinref10_Lists.f; rw [if_pos rfl]; rfl) (lists_l0 hl hr l.length 0 (by omega))
/-! ### The document's example -/
theorem shown_ok : Ev (fun k => lambrequinlaw10_shown.f k) true := by
  unfold lambrequinlaw10_shown.f
  have h1 : OkE 3 [(⟨0, 1⟩ : S27), ⟨1, 0⟩, ⟨1, 2⟩] := ⟨by decide, by decide, by simp, by simp⟩
  have h2 : OkE 3 [(⟨0, 1⟩ : S27), ⟨1, 2⟩] := ⟨by decide, by decide, by simp, by simp⟩
  have c1 : cleanP [(⟨0, 1⟩ : S27), ⟨1, 0⟩, ⟨1, 2⟩] = [⟨0, 1⟩, ⟨1, 0⟩, ⟨1, 2⟩] := cleanP_id (by simp [ltS])
  have c2 : cleanP [(⟨0, 1⟩ : S27), ⟨1, 2⟩] = [⟨0, 1⟩, ⟨1, 2⟩] := cleanP_id (by simp [ltS])
  have e1 : graph_Parts.f 3 [(⟨0, 1⟩ : S27), ⟨1, 0⟩, ⟨1, 2⟩] = some [[2], [0, 1]] := by
    unfold graph_Parts.f graph_nexts.f
    rw [Clean_ok h1, c1]
    kernel_rfl
  have e2 : graph_Path.f 40 3 [(⟨0, 1⟩ : S27), ⟨1, 2⟩] 0 2 = some [0, 1, 2] := by
    unfold graph_Path.f graph_nexts.f
    rw [Clean_ok h2, c2]
    kernel_rfl
  obtain ⟨r, hr, _⟩ := Path_ok h2 (a := 0) (b := 2) (by decide) (by decide) (by decide) (by decide)
  refine Ev.bind (a := [[2], [0, 1]]) ⟨0, fun k _ => e1⟩ (Ev.bind (a := [0, 1, 2]) (Ev.of (fun k => graph_Path.mono 3 _ 0 2 k) e2) ?_)
  exact Ev.bind (lists_self (by simp) (by simp)) (Ev.congr (fun k => if_pos rfl) (Ev.bind (ints_self (by simp)) (Ev.now _)))
/-! ### ends -/
theorem u8_wf {n : Int} (h : (Lit.int .u8 n).wf = true) : 0 ≤ n ∧ n ≤ 255 := by
  have k0 : IntKind.u8.min = 0 := rfl
  have k1 : IntKind.u8.max = 255 := rfl
  simp [Lit.wf] at h
  omega
theorem ends_l0 {n : Int} (n0 : 0 < n) {l : List S45} (hl : ∀ x ∈ l, (0 ≤ x.f0 ∧ x.f0 ≤ 255) ∧ 0 ≤ x.f1 ∧ x.f1 ≤ 255) (hll : l.length < 1000000000000000) : ∀ m i (acc : List S27), i + m = 100 → acc.length ≤ i → (∀ x ∈ acc, 0 ≤ x.f0 ∧ x.f0 < n ∧ 0 ≤ x.f1 ∧ x.f1 < n) →
    ∃ es : List S27, Ev (fun k => lambrequinlaw10_ends.l0 k l n acc (i : Int)) (n, es) ∧ es.length ≤ 100 ∧ ∀ x ∈ es, 0 ≤ x.f0 ∧ x.f0 < n ∧ 0 ≤ x.f1 ∧ x.f1 < n
  | 0, i, acc, e, ha, hx => by
    refine ⟨acc, Ev.step (fun k => ?_) (Ev.now _), by omega, hx⟩
    rw [lambrequinlaw10_ends.l0]
    split
    · rw [if_neg (by omega)]
    · rfl
  | m + 1, i, acc, e, ha, hx => by
    by_cases c : i < l.length
    · have hm := hl _ (List.getElem_mem c)
      have hr : rd_T45 l (i : Int) = l[i] := by
        unfold rd_T45
        rw [Int.toNat_natCast, List.getD_eq_getElem?_getD, List.getElem?_eq_getElem c]; rfl
      have q0 := Int.tmod_nonneg n hm.1.1
      have q1 := Int.tmod_lt_of_pos l[i].f0 n0
      have q2 := Int.tmod_nonneg n hm.2.1
      have q3 := Int.tmod_lt_of_pos l[i].f1 n0
      obtain ⟨es, h1, h2, h3⟩ := ends_l0 n0 hl hll m (i + 1) (acc ++ [(⟨Int.tmod l[i].f0 n, Int.tmod l[i].f1 n⟩ : S27)]) (by omega) (by simp only [List.length_append, List.length_cons, List.length_nil]; omega) (fun x hx' => by
        rcases List.mem_append.1 hx' with hx' | hx'
        · exact hx x hx'
        · rw [List.mem_singleton] at hx'
          subst hx'
          exact ⟨q0, q1, q2, q3⟩)
      refine ⟨es, Ev.step (fun k => ?_) h1, h2, h3⟩
      rw [lambrequinlaw10_ends.l0, if_pos (by omega), if_pos (by omega), if_pos (by omega), if_neg (by omega), if_pos (by omega), hr, w64 (by omega), w64 (by omega), w64 (by omega)]
      rfl
    · refine ⟨acc, Ev.step (fun k => ?_) (Ev.now _), by omega, hx⟩
      rw [lambrequinlaw10_ends.l0, if_neg (by omega)]
theorem ends_ok {a0 : Int} {l : List S45} (ha : 0 ≤ a0 ∧ a0 ≤ 255) (hl : ∀ x ∈ l, (0 ≤ x.f0 ∧ x.f0 ≤ 255) ∧ 0 ≤ x.f1 ∧ x.f1 ≤ 255) (hll : l.length < 1000000000000000) :
    ∃ n es, Ev (fun k => lambrequinlaw10_ends.f k a0 l) (n, es) ∧ (1 ≤ n ∧ n ≤ 20) ∧ es.length ≤ 100 ∧ OkE n es := by
  have q0 := Int.tmod_nonneg 20 ha.1
  have q1 := Int.tmod_lt_of_pos a0 (b := 20) (by decide)
  obtain ⟨es, h1, h2, h3⟩ := ends_l0 (n := 1 + Int.tmod a0 20) (by omega) hl hll 100 0 [] (by omega) (by simp) (by simp)
  refine ⟨1 + Int.tmod a0 20, es, Ev.congr (fun k => ?_) h1, by omega, h2, ⟨by omega, by omega, by omega, h3⟩⟩
  unfold lambrequinlaw10_ends.f
  rw [w64 (n := Int.tmod a0 20) (by omega), w64 (by omega)]
  rfl
theorem Parts_len {n : Int} {l : List S27} {r done} (h : OkE n l) (hp : PS n.toNat (Ed l) done r 0) : r.length < 1000000000000 ∧ ∀ p ∈ r, p.length < 1000000000000 := by
  have hn0 := h.n0; have hn1 := h.n1
  have hs := hp.sum
  have key : ∀ (r : List (List Int)), (∀ p ∈ r, p ≠ []) → r.length ≤ (r.map List.length).sum ∧ ∀ p ∈ r, p.length ≤ (r.map List.length).sum := by
    intro r
    induction r with
    | nil => simp
    | cons p r ih =>
      intro hne
      obtain ⟨h1, h2⟩ := ih (fun q hq => hne q (by simp [hq]))
      have := List.length_pos_iff.2 (hne p (by simp))
      simp only [List.length_cons, List.map_cons, List.sum_cons]
      refine ⟨by omega, fun q hq => ?_⟩
      rcases List.mem_cons.1 hq with rfl | hq
      · omega
      · have := h2 q hq; omega
  obtain ⟨h1, h2⟩ := key r (fun p hp' => (hp.part p hp').2.1)
  exact ⟨by omega, fun p hp' => by have := h2 p hp'; omega⟩
theorem Path_len {n : Int} {l : List S27} (h : OkE n l) {a b : Int} {r : List Int} (a0 : 0 ≤ a) (a1 : a < n) (hp : IsPath (Ed l) a b r) : r.length ≤ n.toNat := by
  have hn0 := h.n0
  rcases hp with ⟨_, hp⟩ | ⟨_, rfl⟩
  · exact least_len (n := n.toNat) (R := Ed l) (fun x y hxy => by have := h.edge hxy; omega) a0 (by omega) hp.1
  · simp
end Go.Proofs.Ytngmdccheaidkaa.Pr
