/- Plain laws: graph.Parts. -/
import Derived.Test.YtngmdccheaidkaaPB2
import Derived.Test.YtngmdccheaidkaaGParts
namespace Go.Proofs.Ytngmdccheaidkaa.Pr
open Go.RowKit Go.Proofs.YtngmdccheaidkaaW.PrintWords Go.Proofs.YtngmdccheaidkaaW.PrintLast Go.Proofs.YtngmdccheaidkaaW.PrintMore
/-- What is reached from each node. -/
noncomputable def tosP (n : Nat) (R : Int → Int → Prop) : List (List Bool) := (List.range n).map fun x : Nat => reachP n R (x : Int)
theorem tosP_len (n R) : (tosP n R).length = n := by simp [tosP]
theorem tosP_get {n : Nat} {R} {i : Nat} (h : i < n) : (tosP n R)[i]'(by rw [tosP_len]; exact h) = reachP n R (i : Int) := by simp [tosP]
theorem toAt_tosP {n : Nat} {R} {x y : Nat} (hx : x < n) (hy : y < n) : toAt (tosP n R) x y = true ↔ Rt R (x : Int) (y : Int) := by
  unfold toAt bAt
  rw [List.getD_eq_getElem?_getD (l := tosP n R), List.getElem?_eq_getElem (by rw [tosP_len]; exact hx), Option.getD_some, tosP_get hx]
  exact rd_reachP (n := n) (R := R) (a := (x : Int)) (x := (y : Int)) (by omega) (by omega)
theorem tosO_ok {n : Nat} {R} {nx : List (List Int)} (h : ∀ a : Int, 0 ≤ a → a < (n : Int) → graph_reached.f nx a = some (reachP n R a)) : ∀ k x, x + k = n → tosO nx k ((tosP n R).take x) x = some (tosP n R)
  | 0, x, e => by
    rw [tosO, List.take_of_length_le (by rw [tosP_len]; omega)]
  | k + 1, x, e => by
    rw [tosO, h (x : Int) (by omega) (by omega), Option.bind_some, ← tosP_get (n := n) (R := R) (i := x) (by omega), ← List.take_succ_eq_append_getElem]
    exact tosO_ok h k (x + 1) (by omega)
theorem bAt_set {l : List Bool} {i j : Nat} (h : i < l.length) : bAt (l.set i true) j = true ↔ bAt l j = true ∨ j = i := by
  unfold bAt
  rw [List.getD_eq_getElem?_getD, List.getElem?_set, List.getD_eq_getElem?_getD]
  by_cases e : j = i
  · subst e; simp [h]
  · rw [if_neg (fun k => e k.symm)]; simp [e]
theorem bAt_get {l : List Bool} {i : Nat} (h : i < l.length) : bAt l i = l[i] := by
  unfold bAt; rw [List.getD_eq_getElem?_getD, List.getElem?_eq_getElem h]; rfl
section
variable {n : Nat} {R : Int → Int → Prop}
theorem withP_iff {x y : Nat} (hx : x < n) (hy : y < n) : withP (tosP n R) x y = true ↔ Rt R (x : Int) y ∧ Rt R (y : Int) x := by
  unfold withP
  rw [Bool.and_eq_true, toAt_tosP hx hy, toAt_tosP hy hx]
theorem badP_iff {done : List Bool} {x y : Nat} (hx : x < n) (hy : y < n) : badP (tosP n R) done x y = true ↔ Rt R (x : Int) y ∧ ¬ Rt R (y : Int) x ∧ ¬ bAt done y = true := by
  unfold badP
  rw [Bool.and_eq_true, Bool.and_eq_true, toAt_tosP hx hy, Bool.not_eq_true', Bool.not_eq_true', ← toAt_tosP hy hx, Bool.not_eq_true, Bool.not_eq_true, and_assoc]
theorem readyP_iff {done : List Bool} {x : Nat} (hx : x < n) : readyP (tosP n R) done n x = true ↔ ¬ bAt done x = true ∧ ∀ y : Nat, y < n → Rt R (x : Int) y → Rt R (y : Int) x ∨ bAt done y = true := by
  unfold readyP
  rw [Bool.and_eq_true, List.all_eq_true, Bool.not_eq_true', ← Bool.not_eq_true]
  constructor
  · rintro ⟨h, k⟩
    refine ⟨k, fun y hy hr => ?_⟩
    have := h y (List.mem_range.2 hy)
    rw [Bool.not_eq_true', ← Bool.not_eq_true, badP_iff hx hy] at this
    exact Classical.byContradiction fun c => this ⟨hr, fun q => c (.inl q), fun q => c (.inr q)⟩
  · rintro ⟨k, h⟩
    refine ⟨fun y hy => ?_, k⟩
    rw [List.mem_range] at hy
    rw [Bool.not_eq_true', ← Bool.not_eq_true, badP_iff hx hy]
    rintro ⟨h1, h2, h3⟩
    rcases h y hy h1 with c | c
    · exact h2 c
    · exact h3 c
theorem firstReady_some {tos : List (List Bool)} {done : List Bool} {n : Nat} : ∀ {k x r}, firstReady tos done n k x = some r → x ≤ r ∧ r < x + k ∧ readyP tos done n r = true ∧ ∀ y, x ≤ y → y < r → ¬ readyP tos done n y = true
  | 0, x, r, h => by simp [firstReady] at h
  | k + 1, x, r, h => by
    rw [firstReady] at h
    by_cases c : readyP tos done n x = true
    · rw [if_pos c] at h
      cases h
      exact ⟨Nat.le_refl _, by omega, c, fun y h1 h2 => by omega⟩
    · rw [if_neg c] at h
      obtain ⟨h1, h2, h3, h4⟩ := firstReady_some h
      refine ⟨by omega, by omega, h3, fun y k1 k2 => ?_⟩
      by_cases e : y = x
      · subst e; exact c
      · exact h4 y (by omega) k2
theorem firstReady_none {tos : List (List Bool)} {done : List Bool} {n : Nat} : ∀ {k x}, firstReady tos done n k x = none ↔ ∀ y, x ≤ y → y < x + k → ¬ readyP tos done n y = true
  | 0, x => by simp [firstReady]; intro y h1 h2; omega
  | k + 1, x => by
    rw [firstReady]
    by_cases c : readyP tos done n x = true
    · rw [if_pos c]
      constructor
      · intro h; cases h
      · intro h; exact absurd c (h x (Nat.le_refl _) (by omega))
    · rw [if_neg c, firstReady_none]
      constructor
      · intro h y h1 h2
        by_cases e : y = x
        · subst e; exact c
        · exact h y (by omega) (by omega)
      · intro h y h1 h2; exact h y (by omega) (by omega)
/-- Where a node is not done, one is ready. -/
theorem ready_some {done : List Bool} {x : Nat} (hx : x < n) (hd : ¬ bAt done x = true) : ∃ y, y < n ∧ readyP (tosP n R) done n y = true := by
  classical
  suffices ∀ m (x : Nat), x < n → ¬ bAt done x = true → ((List.range n).filter fun y : Nat => decide (Rt R (x : Int) y) && !bAt done y).length ≤ m → ∃ y, y < n ∧ readyP (tosP n R) done n y = true from this _ x hx hd (Nat.le_refl _)
  intro m
  induction m with
  | zero =>
    intro x hx hd hm
    have : x ∈ (List.range n).filter fun y : Nat => decide (Rt R (x : Int) y) && !bAt done y := by
      rw [List.mem_filter, List.mem_range]
      exact ⟨hx, by simp [Rt.refl, hd]⟩
    have := List.length_pos_of_mem this
    omega
  | succ m ih =>
    intro x hx hd hm
    by_cases c : readyP (tosP n R) done n x = true
    · exact ⟨x, hx, c⟩
    · rw [readyP_iff hx] at c
      have : ∃ y : Nat, y < n ∧ Rt R (x : Int) y ∧ ¬ Rt R (y : Int) x ∧ ¬ bAt done y = true := by
        refine Classical.byContradiction fun q => c ⟨hd, fun y hy hr => ?_⟩
        refine Classical.byContradiction fun q2 => q ⟨y, hy, hr, fun q3 => q2 (.inl q3), fun q3 => q2 (.inr q3)⟩
      obtain ⟨y, hy, h1, h2, h3⟩ := this
      refine ih y hy h3 ?_
      have := sub_len (l := x :: (List.range n).filter fun z : Nat => decide (Rt R (y : Int) z) && !bAt done z) (m := (List.range n).filter fun z : Nat => decide (Rt R (x : Int) z) && !bAt done z) (by
        rw [List.nodup_cons]
        refine ⟨fun q => ?_, (List.nodup_range).filter _⟩
        rw [List.mem_filter] at q
        simp [h2] at q) (fun z hz => by
        rw [List.mem_filter]
        rcases List.mem_cons.1 hz with rfl | hz
        · exact ⟨List.mem_range.2 hx, by simp [Rt.refl, hd]⟩
        · rw [List.mem_filter] at hz
          refine ⟨hz.1, ?_⟩
          have := hz.2
          simp only [Bool.and_eq_true, decide_eq_true_eq] at this ⊢
          exact ⟨h1.trans this.1, this.2⟩)
      simp only [List.length_cons] at this
      omega
theorem partTo_ok {done : List Bool} {x : Nat} (hx : x < n) (hl : done.length = n) (hun : ∀ y : Nat, y < n → withP (tosP n R) x y = true → ¬ bAt done y = true) : ∀ i, i ≤ n →
    (partTo (tosP n R) x done i).2.length = n ∧ (∀ y : Nat, bAt (partTo (tosP n R) x done i).2 y = true ↔ bAt done y = true ∨ (y < i ∧ withP (tosP n R) x y = true)) ∧
    (partTo (tosP n R) x done i).2.count false + (partTo (tosP n R) x done i).1.length = done.count false ∧
    (∀ z, z ∈ (partTo (tosP n R) x done i).1 ↔ ∃ y : Nat, y < i ∧ (y : Int) = z ∧ withP (tosP n R) x y = true) ∧ (partTo (tosP n R) x done i).1.Pairwise (· < ·)
  | 0, _ => ⟨hl, by simp [partTo], by simp [partTo], by simp [partTo], by simp [partTo]⟩
  | i + 1, hi => by
    obtain ⟨h1, h2, h3, h4, h5⟩ := partTo_ok hx hl hun i (by omega)
    rw [partTo]
    by_cases c : withP (tosP n R) x i = true
    · rw [if_pos c]
      have hb : ¬ bAt (partTo (tosP n R) x done i).2 i = true := fun q => by
        rcases (h2 i).1 q with q | q
        · exact hun i (by omega) c q
        · omega
      refine ⟨by simp [h1], fun y => ?_, ?_, fun z => ?_, ?_⟩
      · rw [bAt_set (by omega), h2]
        constructor
        · rintro ((q | ⟨q, q2⟩) | rfl)
          · exact .inl q
          · exact .inr ⟨by omega, q2⟩
          · exact .inr ⟨by omega, c⟩
        · rintro (q | ⟨q, q2⟩)
          · exact .inl (.inl q)
          · by_cases e : y = i
            · exact .inr e
            · exact .inl (.inr ⟨by omega, q2⟩)
      · rw [bAt_get (by omega)] at hb
        have := count_set_true (l := (partTo (tosP n R) x done i).2) (i := i) (by omega) (by simpa using hb)
        simp only [List.length_append, List.length_cons, List.length_nil]
        omega
      · rw [List.mem_append, h4, List.mem_singleton]
        constructor
        · rintro (⟨y, q, q2, q3⟩ | rfl)
          · exact ⟨y, by omega, q2, q3⟩
          · exact ⟨i, by omega, rfl, c⟩
        · rintro ⟨y, q, q2, q3⟩
          by_cases e : y = i
          · subst e; exact .inr q2.symm
          · exact .inl ⟨y, by omega, q2, q3⟩
      · rw [List.pairwise_append]
        refine ⟨h5, by simp, fun a ha b hb => ?_⟩
        rw [List.mem_singleton] at hb
        obtain ⟨y, q, q2, _⟩ := (h4 a).1 ha
        omega
    · rw [if_neg c]
      refine ⟨h1, fun y => ?_, h3, fun z => ?_, h5⟩
      · rw [h2]
        constructor
        · rintro (q | ⟨q, q2⟩)
          · exact .inl q
          · exact .inr ⟨by omega, q2⟩
        · rintro (q | ⟨q, q2⟩)
          · exact .inl q
          · by_cases e : y = i
            · subst e; exact absurd q2 c
            · exact .inr ⟨by omega, q2⟩
      · rw [h4]
        constructor
        · rintro ⟨y, q, q2, q3⟩; exact ⟨y, by omega, q2, q3⟩
        · rintro ⟨y, q, q2, q3⟩
          by_cases e : y = i
          · subst e; exact absurd q3 c
          · exact ⟨y, by omega, q2, q3⟩
/-- The parts so far. -/
structure PS (n : Nat) (R : Int → Int → Prop) (done : List Bool) (out : List (List Int)) (left : Int) : Prop where
  len : done.length = n
  clo : ∀ x y : Nat, x < n → y < n → bAt done x = true → Rt R (x : Int) y → bAt done y = true
  lft : left = (done.count false : Int)
  sum : ((out.map List.length).sum : Int) + left = (n : Int)
  mem : ∀ x : Nat, x < n → (bAt done x = true ↔ ∃ p ∈ out, (x : Int) ∈ p)
  part : ∀ p ∈ out, p.Pairwise (· < ·) ∧ p ≠ [] ∧ (∀ x ∈ p, 0 ≤ x ∧ x < (n : Int)) ∧ ∀ x ∈ p, ∀ y : Int, 0 ≤ y → y < (n : Int) → (y ∈ p ↔ Rt R x y ∧ Rt R y x)
  ord : ∀ (i j : Nat) (p q : List Int), out[i]? = some p → out[j]? = some q → ∀ x ∈ p, ∀ y ∈ q, Rt R x y → j ≤ i
theorem PS.none {done out left} (h : PS n R done out left) : left = 0 ↔ ∀ x : Nat, x < n → bAt done x = true := by
  rw [h.lft]
  constructor
  · intro h0 x hx
    have h1 : done.count false = 0 := by omega
    rw [List.count_eq_zero] at h1
    rw [bAt_get (by rw [h.len]; exact hx)]
    rcases hd : done[x]'(by rw [h.len]; exact hx) with _ | _
    · exact absurd (hd ▸ List.getElem_mem _) h1
    · rfl
  · intro hx
    have : done.count false = 0 := by
      rw [List.count_eq_zero]
      intro hm
      obtain ⟨i, hi, e⟩ := List.getElem_of_mem hm
      have := hx i (by rw [← h.len]; exact hi)
      rw [bAt_get hi, e] at this
      cases this
    omega
theorem PS.stop {done out} (h : PS n R done out 0) : firstReady (tosP n R) done n n 0 = Option.none := by
  rw [firstReady_none]
  intro y _ hy c
  exact ((readyP_iff (by omega)).1 c).1 (h.none.1 rfl y (by omega))
theorem PS.go {done out left} (h : PS n R done out left) (hl : left ≠ 0) : ∃ x, firstReady (tosP n R) done n n 0 = some x ∧ x < n ∧ readyP (tosP n R) done n x = true ∧ (∀ y, y < x → ¬ readyP (tosP n R) done n y = true) ∧
    PS n R (partTo (tosP n R) x done n).2 (out ++ [(partTo (tosP n R) x done n).1]) (left - ((partTo (tosP n R) x done n).1.length : Int)) ∧ (x : Int) ∈ (partTo (tosP n R) x done n).1 := by
  have hex : ∃ x, x < n ∧ ¬ bAt done x = true := Classical.byContradiction fun c => hl (h.none.2 fun x hx => Classical.byContradiction fun q => c ⟨x, hx, q⟩)
  obtain ⟨x0, hx0, hd0⟩ := hex
  obtain ⟨y0, hy0, hr0⟩ := ready_some (R := R) hx0 hd0
  rcases hf : firstReady (tosP n R) done n n 0 with _ | x
  · exact absurd hr0 ((firstReady_none.1 hf) y0 (Nat.zero_le _) (by omega))
  obtain ⟨_, hx, hr, hmin⟩ := firstReady_some hf
  rw [Nat.zero_add] at hx
  obtain ⟨hnd, hrd⟩ := (readyP_iff hx).1 hr
  have hun : ∀ y : Nat, y < n → withP (tosP n R) x y = true → ¬ bAt done y = true := fun y hy hw hd => hnd (h.clo y x hy hx hd ((withP_iff hx hy).1 hw).2)
  obtain ⟨h1, h2, h3, h4, h5⟩ := partTo_ok hx h.len hun n (Nat.le_refl _)
  have hxm : (x : Int) ∈ (partTo (tosP n R) x done n).1 := (h4 _).2 ⟨x, hx, rfl, (withP_iff hx hx).2 ⟨Rt.refl _, Rt.refl _⟩⟩
  have h4' : ∀ z : Int, z ∈ (partTo (tosP n R) x done n).1 ↔ (0 ≤ z ∧ z < (n : Int)) ∧ Rt R (x : Int) z ∧ Rt R z (x : Int) := fun z => by
    rw [h4]
    constructor
    · rintro ⟨y, hy, rfl, hw⟩
      exact ⟨⟨by omega, by omega⟩, (withP_iff hx hy).1 hw⟩
    · rintro ⟨⟨z0, z1⟩, hw⟩
      refine ⟨z.toNat, by omega, by omega, (withP_iff hx (by omega)).2 ?_⟩
      rw [Int.toNat_of_nonneg z0]; exact hw
  refine ⟨x, rfl, hx, hr, fun y hy => hmin y (Nat.zero_le _) hy, ⟨h1, ?_, ?_, ?_, ?_, ?_, ?_⟩, hxm⟩
  · intro u v hu hv hd hR
    rw [h2] at hd ⊢
    rcases hd with hd | ⟨_, hd⟩
    · exact .inl (h.clo u v hu hv hd hR)
    · have hw := (withP_iff hx hu).1 hd
      rcases hrd v hv (hw.1.trans hR) with q | q
      · exact .inr ⟨hv, (withP_iff hx hv).2 ⟨hw.1.trans hR, q⟩⟩
      · exact .inl q
  · have := h.lft; omega
  · have := h.sum
    rw [List.map_append, List.sum_append]
    simp only [List.map_cons, List.map_nil, List.sum_cons, List.sum_nil]
    omega
  · intro u hu
    rw [h2, h.mem u hu]
    constructor
    · rintro (⟨p, hp, hup⟩ | ⟨_, hw⟩)
      · exact ⟨p, by simp [hp], hup⟩
      · exact ⟨_, by simp, (h4 _).2 ⟨u, hu, rfl, hw⟩⟩
    · rintro ⟨p, hp, hup⟩
      rcases List.mem_append.1 hp with hp | hp
      · exact .inl ⟨p, hp, hup⟩
      · rw [List.mem_singleton] at hp
        subst hp
        obtain ⟨y, hy, e, hw⟩ := (h4 _).1 hup
        obtain rfl : y = u := by omega
        exact .inr ⟨hy, hw⟩
  · intro p hp
    rcases List.mem_append.1 hp with hp | hp
    · exact h.part p hp
    · rw [List.mem_singleton] at hp
      subst hp
      refine ⟨h5, List.ne_nil_of_mem hxm, fun z hz => ((h4' z).1 hz).1, fun z hz y y0 y1 => ?_⟩
      have hz := ((h4' z).1 hz).2
      rw [h4']
      exact ⟨fun q => ⟨hz.2.trans q.2.1, q.2.2.trans hz.1⟩, fun q => ⟨⟨y0, y1⟩, hz.1.trans q.1, q.2.trans hz.2⟩⟩
  · intro i j p q hp hq u hu v hv hR
    have hlen : ∀ (i : Nat) (p : List Int), (out ++ [(partTo (tosP n R) x done n).1])[i]? = some p → i < out.length ∧ out[i]? = some p ∨ i = out.length ∧ p = (partTo (tosP n R) x done n).1 := fun i p hp => by
      rcases Nat.lt_or_ge i out.length with c | c
      · rw [List.getElem?_append_left c] at hp; exact .inl ⟨c, hp⟩
      · rw [List.getElem?_append_right c] at hp
        have : i - out.length = 0 := by
          refine Classical.byContradiction fun q => ?_
          rw [List.getElem?_eq_none (by simp; omega)] at hp; cases hp
        rw [this] at hp
        exact .inr ⟨by omega, by simpa using hp.symm⟩
    rcases hlen i p hp with ⟨ci, hp⟩ | ⟨ci, hp⟩ <;> rcases hlen j q hq with ⟨cj, hq⟩ | ⟨cj, hq⟩
    · exact h.ord i j p q hp hq u hu v hv hR
    · exfalso
      subst hq
      have hv' := (h4' v).1 hv
      have hpm := List.mem_of_getElem? hp
      have hu' := (h.part p hpm).2.2.1 u hu
      have hdu : bAt done u.toNat = true := (h.mem u.toNat (by omega)).2 ⟨p, hpm, by rw [Int.toNat_of_nonneg hu'.1]; exact hu⟩
      refine hnd (h.clo u.toNat x (by omega) hx hdu ?_)
      rw [Int.toNat_of_nonneg hu'.1]
      exact hR.trans hv'.2.2
    · omega
    · omega
theorem partsO_ok : ∀ k done out left, PS n R done out left → left.toNat + 1 ≤ k → ∃ r done', partsO (tosP n R) n k done out left = some r ∧ PS n R done' r 0
  | 0, _, _, _, _, h => by omega
  | k + 1, done, out, left, h, hk => by
    rw [partsO]
    have hl := h.lft
    by_cases c : 0 < left
    · rw [if_pos c]
      obtain ⟨x, hf, hx, hr, hm, hps, hxm⟩ := h.go (by omega)
      rw [hf, Option.bind_some]
      have := List.length_pos_of_mem hxm
      have := hps.lft
      exact partsO_ok k _ _ _ hps (by omega)
    · rw [if_neg c]
      obtain rfl : left = 0 := by omega
      exact ⟨out, done, rfl, h⟩
theorem PS.start : PS n R (List.replicate n false) [] (n : Int) where
  len := by simp
  clo := fun x y hx hy hd _ => by rw [bAt_get (by simpa using hx)] at hd; simp at hd
  lft := by simp
  sum := by simp
  mem := fun x hx => by rw [bAt_get (by simpa using hx)]; simp
  part := fun p hp => by simp at hp
  ord := fun i j p q hp => by simp at hp
theorem Parts_is {n : Int} {l : List S27} (h : OkE n l) : graph_Parts.f n l = partsO (tosP n.toNat (Ed l)) n.toNat (n.toNat + 2) (List.replicate n.toNat false) [] n := by
  unfold graph_Parts.f
  have hn0 := h.n0
  have hn1 := h.n1
  rw [nexts_ok h (by omega)]
  simp only [Option.bind_some]
  rw [if_pos trivial, if_pos ⟨hn0, by omega⟩]
  have := tosO_ok (n := n.toNat) (R := Ed l) (nx := nextsP n.toNat l) (fun a h0 h1 => reached_ok (n := n.toNat) (by simp [nextsP]) (by omega) (fun x y x0 x1 => mem_nextsP x0 x1) (fun x y hxy => by have := h.edge hxy; omega) h0 (by omega)) n.toNat 0 (by omega)
  rw [List.take_zero] at this
  rw [this, Option.bind_some, if_pos]
  refine ⟨tosP_len _ _, List.all_eq_true.2 fun row hrow => ?_⟩
  obtain ⟨i, hi, rfl⟩ := List.getElem_of_mem hrow
  rw [tosP_len] at hi
  rw [tosP_get hi, reachP_len]
  simp
theorem Parts_ok {n : Int} {l : List S27} (h : OkE n l) : ∃ r done, graph_Parts.f n l = some r ∧ PS n.toNat (Ed l) done r 0 := by
  rw [Parts_is h]
  have hn0 := h.n0
  have hps := PS.start (n := n.toNat) (R := Ed l)
  rw [Int.toNat_of_nonneg hn0] at hps
  exact partsO_ok _ _ _ _ hps (by omega)
end
end Go.Proofs.Ytngmdccheaidkaa.Pr
