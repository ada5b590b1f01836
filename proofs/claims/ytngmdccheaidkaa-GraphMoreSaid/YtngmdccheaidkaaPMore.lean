/- The statement GraphMore, of lists and numbers alone. -/
import Derived.Test.YtngmdccheaidkaaPB6
import Derived.Test.YtngmdccheaidkaaF7
namespace Go.Proofs.Ytngmdccheaidkaa.Pr
open Go.RowKit Go.Proofs.YtngmdccheaidkaaW.PrintWords Go.Proofs.YtngmdccheaidkaaW.PrintLast Go.Proofs.YtngmdccheaidkaaW.PrintMore
theorem Rt_none {x y : Int} : Rt (Ed []) x y ↔ x = y := by
  constructor
  · rintro ⟨p, h⟩
    cases h with
    | one => rfl
    | cons h _ => simp [Ed] at h
  · rintro rfl; exact Rt.refl _
theorem partsO_none {n : Nat} : ∀ m i k done, i + m = n → m + 1 ≤ k → PS n (Ed []) done ((List.range i).map fun j : Nat => [(j : Int)]) (m : Int) →
    partsO (tosP n (Ed [])) n k done ((List.range i).map fun j : Nat => [(j : Int)]) (m : Int) = some ((List.range n).map fun j : Nat => [(j : Int)])
  | 0, i, k, done, e, hk, h => by
    obtain ⟨k, rfl⟩ : ∃ k', k = k' + 1 := ⟨k - 1, by omega⟩
    rw [partsO, if_neg (by omega)]
    obtain rfl : i = n := by omega
    rfl
  | m + 1, i, k, done, e, hk, h => by
    obtain ⟨k, rfl⟩ : ∃ k', k = k' + 1 := ⟨k - 1, by omega⟩
    have hd : ∀ y, y < n → (bAt done y = true ↔ y < i) := fun y hy => by
      rw [h.mem y hy]
      constructor
      · rintro ⟨p, hp, hyp⟩
        obtain ⟨j, hj, rfl⟩ := List.mem_map.1 hp
        rw [List.mem_range] at hj
        rw [List.mem_singleton] at hyp
        omega
      · intro hyi
        exact ⟨[(y : Int)], List.mem_map.2 ⟨y, List.mem_range.2 hyi, rfl⟩, by simp⟩
    obtain ⟨x, hf, hx, hr, hm, hps, hxm⟩ := h.go (by omega)
    have hready : ∀ y, y < n → i ≤ y → readyP (tosP n (Ed [])) done n y = true := fun y hy hiy => by
      rw [readyP_iff hy]
      refine ⟨fun c => by have := (hd y hy).1 c; omega, fun z hz hR => ?_⟩
      rw [Rt_none] at hR
      exact .inl (by rw [hR]; exact Rt.refl _)
    have hxi : x = i := by
      have h1 : ¬ x < i := fun c => ((readyP_iff hx).1 hr).1 ((hd x hx).2 c)
      have h2 : ¬ i < x := fun c => hm i c (hready i (by omega) (Nat.le_refl _))
      omega
    subst hxi
    have hpart := hps.part (partTo (tosP n (Ed [])) x done n).1 (by simp)
    have hp : (partTo (tosP n (Ed [])) x done n).1 = [(x : Int)] := by
      refine rising_unique (lt := fun a b : Int => a < b) (fun a => by omega) (fun a b c => by omega) hpart.1 (by simp) (fun z => ?_)
      rw [List.mem_singleton]
      constructor
      · intro hz
        have hzr := hpart.2.2.1 z hz
        exact (Rt_none.1 ((hpart.2.2.2 _ hxm z hzr.1 hzr.2).1 hz).1).symm
      · rintro rfl; exact hxm
    rw [hp] at hps
    have e1 : ((List.range x).map fun j : Nat => [(j : Int)]) ++ [[(x : Int)]] = (List.range (x + 1)).map fun j : Nat => [(j : Int)] := by
      rw [List.range_succ, List.map_append]; rfl
    have e2 : ((m + 1 : Nat) : Int) - (([(x : Int)] : List Int).length : Int) = (m : Int) := by simp only [List.length_cons, List.length_nil]; omega
    rw [e1, e2] at hps
    rw [partsO, if_pos (by omega), hf, Option.bind_some, hp, e1, e2]
    exact partsO_none m (x + 1) k _ (by omega) (by omega) hps
theorem Parts_none {n : Int} (h0 : 0 ≤ n) (h1 : n ≤ 1000) : graph_Parts.f n [] = some ((List.range n.toNat).map fun j : Nat => [(j : Int)]) := by
  have ok : OkE n [] := ⟨h0, h1, by simp, by simp⟩
  rw [Parts_is ok]
  have hps := PS.start (n := n.toNat) (R := Ed [])
  have := partsO_none n.toNat 0 (n.toNat + 2) _ (by omega) (by omega) hps
  rw [Int.toNat_of_nonneg h0] at this
  exact this
/-- With more edges there are no more parts. -/
theorem parts_fewer {n : Nat} {R R' : Int → Int → Prop} (hs : ∀ x y, R x y → R' x y) {done done' out out'} (h : PS n R done out 0) (h' : PS n R' done' out' 0) : out'.length ≤ out.length := by
  classical
  have hex : ∀ x : Int, ∃ i : Nat, (0 ≤ x ∧ x < (n : Int)) → ∃ p, out[i]? = some p ∧ x ∈ p := fun x => by
    by_cases c : 0 ≤ x ∧ x < (n : Int)
    · obtain ⟨p, hp, hxp⟩ := (h.mem x.toNat (by omega)).1 (h.none.1 rfl _ (by omega))
      obtain ⟨i, hi⟩ := List.getElem?_of_mem hp
      exact ⟨i, fun _ => ⟨p, hi, by rw [Int.toNat_of_nonneg c.1] at hxp; exact hxp⟩⟩
    · exact ⟨0, fun q => absurd q c⟩
  let f : Int → Nat := fun x => Classical.choose (hex x)
  have hf : ∀ x, (0 ≤ x ∧ x < (n : Int)) → ∃ p, out[f x]? = some p ∧ x ∈ p := fun x => Classical.choose_spec (hex x)
  have hhead : ∀ p ∈ out', p.headD 0 ∈ p := fun p hp => by
    have := (h'.part p hp).2.1
    cases p with
    | nil => exact absurd rfl this
    | cons a t => simp
  have key := sub_len (l := out'.map fun p => f (p.headD 0)) (m := List.range out.length) (by
    refine List.nodup_iff_pairwise_ne.2 (List.pairwise_map.2 (List.pairwise_iff_getElem.2 fun i j hi hj hij e => ?_))
    have m1 := List.getElem_mem hi
    have m2 := List.getElem_mem hj
    have k1 := hhead _ m1
    have k2 := hhead _ m2
    have r1 := (h'.part _ m1).2.2.1 _ k1
    have r2 := (h'.part _ m2).2.2.1 _ k2
    obtain ⟨p, hp, hxp⟩ := hf _ r1
    obtain ⟨q, hq, hxq⟩ := hf _ r2
    rw [e] at hp
    obtain rfl := Option.some.inj (hp.symm.trans hq)
    have hm := ((h.part p (List.mem_of_getElem? hp)).2.2.2 _ hxp _ r2.1 r2.2).1 hxq
    have := h'.ord i j _ _ (List.getElem?_eq_getElem hi) (List.getElem?_eq_getElem hj) _ k1 _ k2 (hm.1.mono hs)
    omega) (fun x hx => by
    obtain ⟨p, hp, rfl⟩ := List.mem_map.1 hx
    obtain ⟨q, hq, _⟩ := hf _ ((h'.part p hp).2.2.1 _ (hhead p hp))
    exact List.mem_range.2 (List.getElem?_eq_some_iff.1 hq).1)
  simpa using key
section
variable {n : Int} {es more : List S27} {a : Int}
theorem more_l1 (hn : 1 ≤ n) (ok : OkE n es) (okm : OkE n more) (hs : ∀ x ∈ es, x ∈ more) : ∀ m i, n.toNat = i + m → Ev (fun k => lambrequinlaw10_GraphMore.l1 k true n es more ((List.range n.toNat).map fun j : Nat => [(j : Int)]) (i : Int)) true
  | 0, i, e => by
    obtain ⟨r, d, hr, hps⟩ := Parts_ok ok
    obtain ⟨r', d', hr', hps'⟩ := Parts_ok okm
    have hle := parts_fewer (fun x y h => hs _ h) hps hps'
    refine Ev.step (f := fun k => (graph_Parts.f n more).bind fun t509 => ((graph_Parts.f n es).bind fun t512 => (some (decide ((t509.length : Int) ≤ (t512.length : Int)))))) (fun k => ?_) ⟨0, fun k _ => ?_⟩
    · rw [lambrequinlaw10_GraphMore.l1, if_neg (by omega), if_pos rfl]
    · rw [hr, hr', Option.bind_some, Option.bind_some, decide_eq_true (by omega)]
  | m + 1, i, e => by
    have hn1 := ok.n1
    have hg : rd_L1 ((List.range n.toNat).map fun j : Nat => [(j : Int)]) (i : Int) = [(i : Int)] := by
      rw [rdL1_get (by simp; omega)]; simp
    refine Ev.step (fun k => ?_) (more_l1 hn ok okm hs m (i + 1) (by omega))
    rw [lambrequinlaw10_GraphMore.l1, if_pos (by omega), if_pos (by omega), if_pos (by simp; omega), hg, if_pos (by simp), if_pos (by simp), if_pos (by simp [rd]), w64 (by omega)]
    rfl
theorem more_l0 (hn : 1 ≤ n) (ok : OkE n es) (okm : OkE n more) (hs : ∀ x ∈ es, x ∈ more) : ∀ m i, n.toNat = i + m → Ev (fun k => lambrequinlaw10_GraphMore.l0 k true n es more (reachP n.toNat (Ed es) a) (reachP n.toNat (Ed more) a) (i : Int)) true
  | 0, i, e => by
    have hl1 := more_l1 hn ok okm hs n.toNat 0 (by omega)
    refine Ev.step (f := fun k => lambrequinlaw10_GraphMore.l1 k true n es more ((List.range n.toNat).map fun j : Nat => [(j : Int)]) 0) (fun k => ?_) hl1
    rw [lambrequinlaw10_GraphMore.l0, if_neg (by omega), Parts_none (by omega) ok.n1, Option.bind_some, if_pos (by simp; omega)]
  | m + 1, i, e => by
    have hn1 := ok.n1
    refine Ev.step (fun k => ?_) (more_l0 hn ok okm hs m (i + 1) (by omega))
    rw [lambrequinlaw10_GraphMore.l0, if_pos (by omega), if_pos (by omega), reachP_len, if_pos (by omega), reachP_len, w64 (by omega)]
    by_cases c : rdOf false (reachP n.toNat (Ed es) a) (i : Int) = true
    · rw [if_pos c, if_pos (by omega), if_pos]
      · rfl
      · rw [rd_reachP (by omega) (by omega)] at c ⊢
        exact c.mono fun x y h => hs _ h
    · rw [if_neg c]; rfl
end
theorem GraphMore.pure {a0 : Int} {l : List S45} {b0 b1 a3 : Int} (h0 : 0 ≤ a0 ∧ a0 ≤ 255) (hl : ∀ x ∈ l, (0 ≤ x.f0 ∧ x.f0 ≤ 255) ∧ 0 ≤ x.f1 ∧ x.f1 ≤ 255) (hll : l.length < 1000000000000000) (h1 : 0 ≤ b0 ∧ b0 ≤ 255) (h2 : 0 ≤ b1 ∧ b1 ≤ 255) (h3 : 0 ≤ a3 ∧ a3 ≤ 255) :
    ∃ k, lambrequinlaw10_GraphMore.f k a0 l b0 b1 a3 = some true := by
  obtain ⟨n, es, he, hn, hel, ok⟩ := ends_ok h0 hl hll
  refine Ev.rounds (g := fun k => lambrequinlaw10_GraphMore.f k a0 l b0 b1 a3) ?_
  have p0 := Int.tmod_nonneg n h1.1
  have p1 := Int.tmod_lt_of_pos b0 (b := n) (by omega)
  have p2 := Int.tmod_nonneg n h2.1
  have p3 := Int.tmod_lt_of_pos b1 (b := n) (by omega)
  have q0 := Int.tmod_nonneg n h3.1
  have q1 := Int.tmod_lt_of_pos a3 (b := n) (by omega)
  have okm : OkE n (es ++ [(⟨Int.tmod b0 n, Int.tmod b1 n⟩ : S27)]) := ⟨ok.n0, ok.n1, by simp only [List.length_append, List.length_cons, List.length_nil]; omega, fun x hx => by
    rcases List.mem_append.1 hx with hx | hx
    · exact ok.mem x hx
    · rw [List.mem_singleton] at hx
      subst hx
      exact ⟨p0, p1, p2, p3⟩⟩
  unfold lambrequinlaw10_GraphMore.f
  refine Ev.bind shown_ok (Ev.bind he ?_)
  have hl0 := more_l0 (a := Int.tmod a3 n) hn.1 ok okm (fun x hx => List.mem_append_left _ hx) n.toNat 0 (by omega)
  refine Ev.congr (f := fun k => (graph_Reach.f k n es (Int.tmod a3 n)).bind fun t494 => ((graph_Reach.f k n (es ++ [(⟨Int.tmod b0 n, Int.tmod b1 n⟩ : S27)]) (Int.tmod a3 n)).bind fun t497 => (if (t494.length : Int) = n then (if (t497.length : Int) = n then (if 0 ≤ (Int.tmod a3 n) then (if (Int.tmod a3 n) < (t494.length : Int) then (lambrequinlaw10_GraphMore.j0 k true n es (es ++ [(⟨Int.tmod b0 n, Int.tmod b1 n⟩ : S27)]) t494 t497 (!(rdOf false t494 (Int.tmod a3 n)))) else (none)) else (none)) else (lambrequinlaw10_GraphMore.j0 k true n es (es ++ [(⟨Int.tmod b0 n, Int.tmod b1 n⟩ : S27)]) t494 t497 true)) else (lambrequinlaw10_GraphMore.j0 k true n es (es ++ [(⟨Int.tmod b0 n, Int.tmod b1 n⟩ : S27)]) t494 t497 true)))) (fun k => ?_) ?_
  · simp only [Option.bind_some, List.nil_append]
    rw [if_pos (by simp only [List.length_nil]; omega), if_neg (by omega), if_pos (by simp only [List.length_cons, List.length_nil]; omega), w64 (n := b0) (by omega), w64 (n := b1) (by omega), w64 (n := a3) (by omega)]
  · refine Ev.bind ⟨es.length + 1, fun k hk => Reach_ok ok q0 q1 hk⟩ (Ev.bind ⟨_, fun k hk => Reach_ok okm q0 q1 hk⟩ (Ev.congr (f := fun k => lambrequinlaw10_GraphMore.j0 k true n es (es ++ [(⟨Int.tmod b0 n, Int.tmod b1 n⟩ : S27)]) (reachP n.toNat (Ed es) (Int.tmod a3 n)) (reachP n.toNat (Ed (es ++ [(⟨Int.tmod b0 n, Int.tmod b1 n⟩ : S27)])) (Int.tmod a3 n)) false) (fun k => ?_) (Ev.step (fun k => ?_) hl0)))
    · rw [reachP_len, reachP_len, if_pos (by omega), if_pos (by omega), if_pos q0, if_pos (by omega), (rd_reachP (n := n.toNat) (R := Ed es) q0 (by omega)).2 (Rt.refl _)]
      rfl
    · rw [lambrequinlaw10_GraphMore.j0, if_neg (by simp)]; rfl
end Go.Proofs.Ytngmdccheaidkaa.Pr
