/- Texts of the seat, without what this claim does not use. -/
import Derived.Test.YtngmdccheaidkaaTF
import Derived.Test.YtngmdccheaidkaaTF45
import Derived.Test.YtngmdccheaidkaaTGLibR
-- printed by this session's own turn of print (wip/tools/mkprint.py)
namespace Go.Proofs.Ytngmdccheaidkaa.Pr
open Go.RowKit Go.Proofs.YtngmdccheaidkaaW.PrintWords Go.Proofs.YtngmdccheaidkaaW.PrintLast Go.Proofs.YtngmdccheaidkaaW.PrintMore
attribute [local go_sem] max2_int min2_int max_two min_two max_three min_three max_four min_four   -- for this text's walks alone
set_option linter.unusedVariables false
set_option linter.unusedSimpArgs false

/-! ### graph_Path: function 20 -/
mutual
def graph_Path.j0 : Nat → Int → Int → Int → List (List Int) → Bool → Option (List Int)
  | 0, _, _, _, _, _ => none
  | k + 1, x0, x2, x3, x9, x46 => if x46 = true then (some ([] : List Int)) else (if 0 ≤ x0 then (if (x0 : Int).toNat ≤ 35184372088832 then (if (x0 : Int).toNat ≤ 281474976710656 then ((some (List.replicate (x0 : Int).toNat false : List Bool)).bind fun y143 => (if 0 ≤ x2 then (if x2 < (y143.length : Int) then (graph_Path.l0 k x2 x3 x9 (List.replicate (x0 : Int).toNat 0) (y143.set (x2 : Int).toNat true) (([x2] : List Int))) else (none)) else (none))) else (none)) else (none)) else (none))
def graph_Path.l0 : Nat → Int → Int → List (List Int) → List Int → List Bool → List Int → Option (List Int)
  | 0, _, _, _, _, _, _ => none
  | k + 1, x2, x3, x9, x11, x12, x13 => if (x13.length : Int) > 0 then (if 0 ≤ x3 then (if x3 < (x12.length : Int) then (graph_Path.j2 k x2 x3 x9 x11 x12 x13 (!(rdOf false x12 x3))) else (none)) else (none)) else (graph_Path.j2 k x2 x3 x9 x11 x12 x13 false)
def graph_Path.j2 : Nat → Int → Int → List (List Int) → List Int → List Bool → List Int → Bool → Option (List Int)
  | 0, _, _, _, _, _, _, _ => none
  | k + 1, x2, x3, x9, x11, x12, x13, x65 => if x65 = true then (graph_Path.l1 k x2 x3 x9 x11 x12 ([] : List Int) x13 (x13.length : Int) 0) else (if 0 ≤ x3 then (if x3 < (x12.length : Int) then (if rdOf false x12 x3 = true then (graph_Path.l3 k x2 x11 (([x3] : List Int)) x3) else (some ([] : List Int))) else (none)) else (none))
def graph_Path.l1 : Nat → Int → Int → List (List Int) → List Int → List Bool → List Int → List Int → Int → Int → Option (List Int)
  | 0, _, _, _, _, _, _, _, _, _ => none
  | k + 1, x2, x3, x9, x11, x12, x14, x66, x67, x68 => if x68 < x67 then (if 0 ≤ x68 then (if x68 < (x66.length : Int) then (if 0 ≤ (rd x66 x68) then (if (rd x66 x68) < (x9.length : Int) then (graph_Path.l2 k x2 x3 x9 x11 x12 x14 (rd x66 x68) x66 x67 x68 (rd_L1 x9 (rd x66 x68)) ((rd_L1 x9 (rd x66 x68)).length : Int) 0) else (none)) else (none)) else (none)) else (none)) else (graph_Path.l0 k x2 x3 x9 x11 x12 x14)
def graph_Path.l2 : Nat → Int → Int → List (List Int) → List Int → List Bool → List Int → Int → List Int → Int → Int → List Int → Int → Int → Option (List Int)
  | 0, _, _, _, _, _, _, _, _, _, _, _, _, _ => none
  | k + 1, x2, x3, x9, x11, x12, x14, x16, x66, x67, x68, x75, x76, x77 => if x77 < x76 then (if 0 ≤ x77 then (if x77 < (x75.length : Int) then (if 0 ≤ (rd x75 x77) then (if (rd x75 x77) < (x12.length : Int) then (if (rdOf false x12 (rd x75 x77) = true) then (graph_Path.l2 k x2 x3 x9 x11 x12 x14 x16 x66 x67 x68 x75 x76 (wrap64 (x77 + 1))) else (if (rd x75 x77) < (x11.length : Int) then (if x14.length < 17592186044416 then (graph_Path.l2 k x2 x3 x9 (x11.set ((rd x75 x77) : Int).toNat x16) (x12.set ((rd x75 x77) : Int).toNat true) (x14 ++ [rd x75 x77]) x16 x66 x67 x68 x75 x76 (wrap64 (x77 + 1))) else (none)) else (none))) else (none)) else (none)) else (none)) else (none)) else (graph_Path.l1 k x2 x3 x9 x11 x12 x14 x66 x67 (wrap64 (x68 + 1)))
def graph_Path.l3 : Nat → Int → List Int → List Int → Int → Option (List Int)
  | 0, _, _, _, _ => none
  | k + 1, x2, x11, x19, x20 => if x20 = x2 then ((slices_Reverse_int_int.f x19).bind fun t164 => (some t164)) else (if 0 ≤ x20 then (if x20 < (x11.length : Int) then (if x19.length < 17592186044416 then (graph_Path.l3 k x2 x11 (x19 ++ [rd x11 x20]) (rd x11 x20)) else (none)) else (none)) else (none))
end
def graph_Path.f (k : Nat) (a0 : Int) (l1 : List (S27)) (a2 : Int) (a3 : Int) : Option (List Int) := (graph_nexts.f k a0 l1).bind fun bt136 => (if bt136.2 = true then (if a2 < 0 then (graph_Path.j0 k a0 a2 a3 bt136.1 true) else (if a2 ≥ a0 then (graph_Path.j0 k a0 a2 a3 bt136.1 true) else (if a3 < 0 then (graph_Path.j0 k a0 a2 a3 bt136.1 true) else (graph_Path.j0 k a0 a2 a3 bt136.1 (decide (a3 ≥ a0)))))) else (graph_Path.j0 k a0 a2 a3 bt136.1 true))
theorem graph_Path.mono_l : ∀ k, (∀ y0 y1 y2 y3 y4, LeO (graph_Path.j0 k y0 y1 y2 y3 y4) (graph_Path.j0 (k + 1) y0 y1 y2 y3 y4)) ∧ (∀ y0 y1 y2 y3 y4 y5, LeO (graph_Path.l0 k y0 y1 y2 y3 y4 y5) (graph_Path.l0 (k + 1) y0 y1 y2 y3 y4 y5)) ∧ (∀ y0 y1 y2 y3 y4 y5 y6, LeO (graph_Path.j2 k y0 y1 y2 y3 y4 y5 y6) (graph_Path.j2 (k + 1) y0 y1 y2 y3 y4 y5 y6)) ∧ (∀ y0 y1 y2 y3 y4 y5 y6 y7 y8, LeO (graph_Path.l1 k y0 y1 y2 y3 y4 y5 y6 y7 y8) (graph_Path.l1 (k + 1) y0 y1 y2 y3 y4 y5 y6 y7 y8)) ∧ (∀ y0 y1 y2 y3 y4 y5 y6 y7 y8 y9 y10 y11 y12, LeO (graph_Path.l2 k y0 y1 y2 y3 y4 y5 y6 y7 y8 y9 y10 y11 y12) (graph_Path.l2 (k + 1) y0 y1 y2 y3 y4 y5 y6 y7 y8 y9 y10 y11 y12)) ∧ (∀ y0 y1 y2 y3, LeO (graph_Path.l3 k y0 y1 y2 y3) (graph_Path.l3 (k + 1) y0 y1 y2 y3))
  | 0 => ⟨fun _ _ _ _ _ r h => by simp [graph_Path.j0] at h, fun _ _ _ _ _ _ r h => by simp [graph_Path.l0] at h, fun _ _ _ _ _ _ _ r h => by simp [graph_Path.j2] at h, fun _ _ _ _ _ _ _ _ _ r h => by simp [graph_Path.l1] at h, fun _ _ _ _ _ _ _ _ _ _ _ _ _ r h => by simp [graph_Path.l2] at h, fun _ _ _ _ r h => by simp [graph_Path.l3] at h⟩
  | k + 1 => by
    obtain ⟨ih0, ih1, ih2, ih3, ih4, ih5⟩ := graph_Path.mono_l k
    refine ⟨?_, ?_, ?_, ?_, ?_, ?_⟩
    · intro y0 y1 y2 y3 y4
      unfold graph_Path.j0
      repeat' first
      | (with_reducible exact ih0 _ _ _ _ _)
      | (with_reducible exact ih1 _ _ _ _ _ _)
      | (with_reducible exact ih2 _ _ _ _ _ _ _)
      | (with_reducible exact ih3 _ _ _ _ _ _ _ _ _)
      | (with_reducible exact ih4 _ _ _ _ _ _ _ _ _ _ _ _ _)
      | (with_reducible exact ih5 _ _ _ _)
      | (with_reducible exact graph_nexts.mono _ _ _)
      | (with_reducible exact LeO.refl _)
      | (with_reducible exact LeO.none _)
      | (with_reducible refine LeO.ite ?_ ?_)
      | (with_reducible refine LeO.bind ?_ (fun _ => ?_))
      | exact ih0 _ _ _ _ _
      | exact ih1 _ _ _ _ _ _
      | exact ih2 _ _ _ _ _ _ _
      | exact ih3 _ _ _ _ _ _ _ _ _
      | exact ih4 _ _ _ _ _ _ _ _ _ _ _ _ _
      | exact ih5 _ _ _ _
      | exact graph_nexts.mono _ _ _
      | exact LeO.none _
      | refine LeO.ite ?_ ?_
      | refine LeO.bind ?_ (fun _ => ?_)
    · intro y0 y1 y2 y3 y4 y5
      unfold graph_Path.l0
      repeat' first
      | (with_reducible exact ih0 _ _ _ _ _)
      | (with_reducible exact ih1 _ _ _ _ _ _)
      | (with_reducible exact ih2 _ _ _ _ _ _ _)
      | (with_reducible exact ih3 _ _ _ _ _ _ _ _ _)
      | (with_reducible exact ih4 _ _ _ _ _ _ _ _ _ _ _ _ _)
      | (with_reducible exact ih5 _ _ _ _)
      | (with_reducible exact graph_nexts.mono _ _ _)
      | (with_reducible exact LeO.refl _)
      | (with_reducible exact LeO.none _)
      | (with_reducible refine LeO.ite ?_ ?_)
      | (with_reducible refine LeO.bind ?_ (fun _ => ?_))
      | exact ih0 _ _ _ _ _
      | exact ih1 _ _ _ _ _ _
      | exact ih2 _ _ _ _ _ _ _
      | exact ih3 _ _ _ _ _ _ _ _ _
      | exact ih4 _ _ _ _ _ _ _ _ _ _ _ _ _
      | exact ih5 _ _ _ _
      | exact graph_nexts.mono _ _ _
      | exact LeO.none _
      | refine LeO.ite ?_ ?_
      | refine LeO.bind ?_ (fun _ => ?_)
    · intro y0 y1 y2 y3 y4 y5 y6
      unfold graph_Path.j2
      repeat' first
      | (with_reducible exact ih0 _ _ _ _ _)
      | (with_reducible exact ih1 _ _ _ _ _ _)
      | (with_reducible exact ih2 _ _ _ _ _ _ _)
      | (with_reducible exact ih3 _ _ _ _ _ _ _ _ _)
      | (with_reducible exact ih4 _ _ _ _ _ _ _ _ _ _ _ _ _)
      | (with_reducible exact ih5 _ _ _ _)
      | (with_reducible exact graph_nexts.mono _ _ _)
      | (with_reducible exact LeO.refl _)
      | (with_reducible exact LeO.none _)
      | (with_reducible refine LeO.ite ?_ ?_)
      | (with_reducible refine LeO.bind ?_ (fun _ => ?_))
      | exact ih0 _ _ _ _ _
      | exact ih1 _ _ _ _ _ _
      | exact ih2 _ _ _ _ _ _ _
      | exact ih3 _ _ _ _ _ _ _ _ _
      | exact ih4 _ _ _ _ _ _ _ _ _ _ _ _ _
      | exact ih5 _ _ _ _
      | exact graph_nexts.mono _ _ _
      | exact LeO.none _
      | refine LeO.ite ?_ ?_
      | refine LeO.bind ?_ (fun _ => ?_)
    · intro y0 y1 y2 y3 y4 y5 y6 y7 y8
      unfold graph_Path.l1
      repeat' first
      | (with_reducible exact ih0 _ _ _ _ _)
      | (with_reducible exact ih1 _ _ _ _ _ _)
      | (with_reducible exact ih2 _ _ _ _ _ _ _)
      | (with_reducible exact ih3 _ _ _ _ _ _ _ _ _)
      | (with_reducible exact ih4 _ _ _ _ _ _ _ _ _ _ _ _ _)
      | (with_reducible exact ih5 _ _ _ _)
      | (with_reducible exact graph_nexts.mono _ _ _)
      | (with_reducible exact LeO.refl _)
      | (with_reducible exact LeO.none _)
      | (with_reducible refine LeO.ite ?_ ?_)
      | (with_reducible refine LeO.bind ?_ (fun _ => ?_))
      | exact ih0 _ _ _ _ _
      | exact ih1 _ _ _ _ _ _
      | exact ih2 _ _ _ _ _ _ _
      | exact ih3 _ _ _ _ _ _ _ _ _
      | exact ih4 _ _ _ _ _ _ _ _ _ _ _ _ _
      | exact ih5 _ _ _ _
      | exact graph_nexts.mono _ _ _
      | exact LeO.none _
      | refine LeO.ite ?_ ?_
      | refine LeO.bind ?_ (fun _ => ?_)
    · intro y0 y1 y2 y3 y4 y5 y6 y7 y8 y9 y10 y11 y12
      unfold graph_Path.l2
      repeat' first
      | (with_reducible exact ih0 _ _ _ _ _)
      | (with_reducible exact ih1 _ _ _ _ _ _)
      | (with_reducible exact ih2 _ _ _ _ _ _ _)
      | (with_reducible exact ih3 _ _ _ _ _ _ _ _ _)
      | (with_reducible exact ih4 _ _ _ _ _ _ _ _ _ _ _ _ _)
      | (with_reducible exact ih5 _ _ _ _)
      | (with_reducible exact graph_nexts.mono _ _ _)
      | (with_reducible exact LeO.refl _)
      | (with_reducible exact LeO.none _)
      | (with_reducible refine LeO.ite ?_ ?_)
      | (with_reducible refine LeO.bind ?_ (fun _ => ?_))
      | exact ih0 _ _ _ _ _
      | exact ih1 _ _ _ _ _ _
      | exact ih2 _ _ _ _ _ _ _
      | exact ih3 _ _ _ _ _ _ _ _ _
      | exact ih4 _ _ _ _ _ _ _ _ _ _ _ _ _
      | exact ih5 _ _ _ _
      | exact graph_nexts.mono _ _ _
      | exact LeO.none _
      | refine LeO.ite ?_ ?_
      | refine LeO.bind ?_ (fun _ => ?_)
    · intro y0 y1 y2 y3
      unfold graph_Path.l3
      repeat' first
      | (with_reducible exact ih0 _ _ _ _ _)
      | (with_reducible exact ih1 _ _ _ _ _ _)
      | (with_reducible exact ih2 _ _ _ _ _ _ _)
      | (with_reducible exact ih3 _ _ _ _ _ _ _ _ _)
      | (with_reducible exact ih4 _ _ _ _ _ _ _ _ _ _ _ _ _)
      | (with_reducible exact ih5 _ _ _ _)
      | (with_reducible exact graph_nexts.mono _ _ _)
      | (with_reducible exact LeO.refl _)
      | (with_reducible exact LeO.none _)
      | (with_reducible refine LeO.ite ?_ ?_)
      | (with_reducible refine LeO.bind ?_ (fun _ => ?_))
      | exact ih0 _ _ _ _ _
      | exact ih1 _ _ _ _ _ _
      | exact ih2 _ _ _ _ _ _ _
      | exact ih3 _ _ _ _ _ _ _ _ _
      | exact ih4 _ _ _ _ _ _ _ _ _ _ _ _ _
      | exact ih5 _ _ _ _
      | exact graph_nexts.mono _ _ _
      | exact LeO.none _
      | refine LeO.ite ?_ ?_
      | refine LeO.bind ?_ (fun _ => ?_)
theorem graph_Path.mono : ∀ a0 a1 a2 a3 k, LeO (graph_Path.f k a0 a1 a2 a3) (graph_Path.f (k + 1) a0 a1 a2 a3) := by
  intro a0 a1 a2 a3 k
  obtain ⟨ih0, ih1, ih2, ih3, ih4, ih5⟩ := graph_Path.mono_l k
  unfold graph_Path.f
  repeat' first
      | (with_reducible exact ih0 _ _ _ _ _)
      | (with_reducible exact ih1 _ _ _ _ _ _)
      | (with_reducible exact ih2 _ _ _ _ _ _ _)
      | (with_reducible exact ih3 _ _ _ _ _ _ _ _ _)
      | (with_reducible exact ih4 _ _ _ _ _ _ _ _ _ _ _ _ _)
      | (with_reducible exact ih5 _ _ _ _)
      | (with_reducible exact graph_nexts.mono _ _ _)
      | (with_reducible exact LeO.refl _)
      | (with_reducible exact LeO.none _)
      | (with_reducible refine LeO.ite ?_ ?_)
      | (with_reducible refine LeO.bind ?_ (fun _ => ?_))
      | exact ih0 _ _ _ _ _
      | exact ih1 _ _ _ _ _ _
      | exact ih2 _ _ _ _ _ _ _
      | exact ih3 _ _ _ _ _ _ _ _ _
      | exact ih4 _ _ _ _ _ _ _ _ _ _ _ _ _
      | exact ih5 _ _ _ _
      | exact graph_nexts.mono _ _ _
      | exact LeO.none _
      | refine LeO.ite ?_ ?_
      | refine LeO.bind ?_ (fun _ => ?_)
set_option maxHeartbeats 8000000 in
set_option maxRecDepth 100000 in
theorem graph_Path.calls (k : Nat) (a0 : Int) (A1 : Option Addr) (c1 : Nat) (l1 : List (S27)) (a2 : Int) (a3 : Int) (r : List Int) (w : World) (hr1 : Kd.C k27 w A1 l1.length l1) (hc1 : l1.length ≤ c1) (h : graph_Path.f k a0 l1 a2 a3 = some r) :
    Calls Try.prog 20 #[.int .i64 a0, .slice A1 l1.length c1, .int .i64 a2, .int .i64 a3] w fun e w' => ∃ v0_ : Value, e = .returned (v0_) ∧ Kd.R (Kd.int .i64) 3 w' w.heap.size (fun _ => True) v0_ r ∧ Below w.heap.size w w' := by
  have HR1 := Aside0.mk hr1
  have HC1 := Aside0.mk hc1
  clear hr1 hc1
  have HB := Aside0.mk (Below.refl w.heap.size w)
  have H : ((graph_nexts.f k a0 l1).bind fun bt136 => (if bt136.2 = true then (if a2 < 0 then (graph_Path.j0 k a0 a2 a3 bt136.1 true) else (if a2 ≥ a0 then (graph_Path.j0 k a0 a2 a3 bt136.1 true) else (if a3 < 0 then (graph_Path.j0 k a0 a2 a3 bt136.1 true) else (graph_Path.j0 k a0 a2 a3 bt136.1 (decide (a3 ≥ a0)))))) else (graph_Path.j0 k a0 a2 a3 bt136.1 true))) = some r := h
  clear h
  replace H := Option.bind_eq_some_iff.mp H
  obtain ⟨⟨t136, t137⟩, A50, H⟩ := H
  replace H : (if t137 = true then (if a2 < 0 then (graph_Path.j0 k a0 a2 a3 t136 true) else (if a2 ≥ a0 then (graph_Path.j0 k a0 a2 a3 t136 true) else (if a3 < 0 then (graph_Path.j0 k a0 a2 a3 t136 true) else (graph_Path.j0 k a0 a2 a3 t136 (decide (a3 ≥ a0)))))) else (graph_Path.j0 k a0 a2 a3 t136 true)) = some r := H
  have A5 := Aside0.mk A50
  clear A50
  have HC6 := Aside0.mk H
  clear H
  go_enter Try.func20, Try.ntmps20
  go_upto_region 2 with (first | ((with_reducible refine gate_callee (f := 45) rfl ?_); refine goesL_ (some 24) rfl rfl Try.func45 (by kernel_rfl) rfl #[.int .i64 a0, .slice A1 l1.length c1] rfl (by (try simp only [List.map_toArray, List.map_cons, List.map_nil]); first | done | rfl | (simp only [List.length_drop, List.length_take]; rfl)) ?_; (with_reducible refine (graph_nexts.calls k a0 _ _ l1 t136 t137 _ ?side1 ?side2 A5.out).mono ?_); (case side1 => repeat (first | exact HR1.out | (with_reducible refine Kd.C_alloc ?_ _) | (with_reducible refine Kd.C_drewN ?_ _) | (with_reducible refine Kd.C_drew ?_))); (case side2 => exact HC1.out); rintro e w7 ⟨v138, rfl, ho0, hb⟩; refine ⟨_, rfl, ?_⟩; have n0_ := Aside0.mk (Kd.S_lower ho0 (below_size (by repeat (first | (with_reducible first | exact HB.out | apply below_alloc | apply pw_below_drewN | apply below_drew1) | exact HB.out)))); have n1_ := Aside0.mk (below_step (by repeat (first | (with_reducible first | exact HB.out | apply below_alloc | apply pw_below_drewN | apply below_drew1) | exact HB.out)) hb); clear HB; have HO139 := n0_; have HB := n1_; clear n0_ n1_; (try clear hb); (try clear hb2); (try clear hk); (try clear hi); (try clear ho0)))
  (try simp only [Act.put, List.setIfInBounds_toArray, List.set_cons_zero, List.set_cons_succ])
  go_cut [46] (fun v46 wc => ∃ (kq : Nat) (x46_5 : Bool), v46 = .bool x46_5 ∧ Aside0 (graph_Path.j0 kq a0 a2 a3 t136 x46_5 = some r) ∧ Aside0 (kq ≤ k) ∧ Aside0 (Kd.S (Kd.slice 3 (Kd.int .i64)) 35 wc w.heap.size (fun _ => True) v138 t136) ∧ Aside0 (Below w.heap.size w wc))
  case first =>
    have H := HC6.out
    clear HC6
    by_cases c8 : t137 = true
    · subst c8
      have H1 : (if a2 < 0 then (graph_Path.j0 k a0 a2 a3 t136 true) else (if a2 ≥ a0 then (graph_Path.j0 k a0 a2 a3 t136 true) else (if a3 < 0 then (graph_Path.j0 k a0 a2 a3 t136 true) else (graph_Path.j0 k a0 a2 a3 t136 (decide (a3 ≥ a0)))))) = some r := by rw [if_pos rfl] at H; exact H
      clear H
      have H := H1
      clear H1
      by_cases c9 : a2 < 0
      · rw [if_pos c9] at H
        have c9b0 : decide (a2 < 0) = true := decide_eq_true c9
        clear c9
        (first | rw [c9b0] | (simp only [i64_w, i32_w]; rw [c9b0]) | skip)
        have H' := Aside0.mk H
        clear H
        go_wp2
        go_meet
        case rel => exact ⟨_, (true), (by first | rfl | (simp; done) | (simp [*]; done)), H', ⟨by first | omega | exact Nat.le_refl _⟩, ⟨by (with_reducible repeat (first | apply Kd.S_alloc | apply Kd.S_drewN | apply Kd.S_drew)); exact HO139.out⟩, ⟨by repeat (first | (with_reducible first | exact HB.out | apply below_alloc | apply pw_below_drewN | apply below_drew1) | exact HB.out)⟩⟩
      · rw [if_neg c9] at H
        have c9b0 : decide (a2 < 0) = false := decide_eq_false c9
        clear c9
        (first | rw [c9b0] | (simp only [i64_w, i32_w]; rw [c9b0]) | skip)
        by_cases c10 : a2 ≥ a0
        · rw [if_pos c10] at H
          have c10b0 : decide (a0 ≤ a2) = true := decide_eq_true c10
          clear c10
          have H' := Aside0.mk H
          clear H
          go_wp2
          go_meet
          case rel => exact ⟨_, (true), (by first | rfl | (simp; done) | (simp [*]; done)), H', ⟨by first | omega | exact Nat.le_refl _⟩, ⟨by (with_reducible repeat (first | apply Kd.S_alloc | apply Kd.S_drewN | apply Kd.S_drew)); exact HO139.out⟩, ⟨by repeat (first | (with_reducible first | exact HB.out | apply below_alloc | apply pw_below_drewN | apply below_drew1) | exact HB.out)⟩⟩
        · rw [if_neg c10] at H
          have c10b0 : decide (a0 ≤ a2) = false := decide_eq_false c10
          clear c10
          by_cases c11 : a3 < 0
          · rw [if_pos c11] at H
            have c11b0 : decide (a3 < 0) = true := decide_eq_true c11
            clear c11
            have H' := Aside0.mk H
            clear H
            go_wp2
            go_meet
            case rel => exact ⟨_, (true), (by first | rfl | (simp; done) | (simp [*]; done)), H', ⟨by first | omega | exact Nat.le_refl _⟩, ⟨by (with_reducible repeat (first | apply Kd.S_alloc | apply Kd.S_drewN | apply Kd.S_drew)); exact HO139.out⟩, ⟨by repeat (first | (with_reducible first | exact HB.out | apply below_alloc | apply pw_below_drewN | apply below_drew1) | exact HB.out)⟩⟩
          · rw [if_neg c11] at H
            have c11b0 : decide (a3 < 0) = false := decide_eq_false c11
            clear c11
            have H' := Aside0.mk H
            clear H
            go_wp2
            go_meet
            case rel => exact ⟨_, (decide (a3 ≥ a0)), (by first | rfl | (simp; done) | (simp [*]; done)), H', ⟨by first | omega | exact Nat.le_refl _⟩, ⟨by (with_reducible repeat (first | apply Kd.S_alloc | apply Kd.S_drewN | apply Kd.S_drew)); exact HO139.out⟩, ⟨by repeat (first | (with_reducible first | exact HB.out | apply below_alloc | apply pw_below_drewN | apply below_drew1) | exact HB.out)⟩⟩
    · replace c8 := Bool.eq_false_iff.mpr c8
      subst c8
      have H1 : (graph_Path.j0 k a0 a2 a3 t136 true) = some r := by rw [if_neg (show ¬ (false = true) by decide)] at H; exact H
      clear H
      have H := H1
      clear H1
      have H' := Aside0.mk H
      clear H
      go_wp2
      go_meet
      case rel => exact ⟨_, (true), (by first | rfl | (simp; done) | (simp [*]; done)), H', ⟨by first | omega | exact Nat.le_refl _⟩, ⟨by (with_reducible repeat (first | apply Kd.S_alloc | apply Kd.S_drewN | apply Kd.S_drew)); exact HO139.out⟩, ⟨by repeat (first | (with_reducible first | exact HB.out | apply below_alloc | apply pw_below_drewN | apply below_drew1) | exact HB.out)⟩⟩
  case rest =>
    clear HC6
    try clear c1
    try clear c2
    try clear p2
    try clear c4
    try clear c8
    try clear c9
    try clear c9b0
    try clear c10
    try clear c10b0
    try clear c11
    try clear c11b0
    obtain ⟨kq, x46_5, rfl, HA, HJ5, HO_9, HB⟩ := hcut
    cases kq with
    | zero => exact absurd HA.out (by simp [graph_Path.j0])
    | succ kj5 =>
      have H := HA.out
      clear HA
      simp only [graph_Path.j0] at H
      by_cases c12 : x46_5 = true
      · subst c12
        have H1 : (some ([] : List Int)) = some r := by rw [if_pos rfl] at H; exact H
        clear H
        have H := H1
        clear H1
        obtain rfl := Option.some.inj H
        go_wp2
        go_ret
        exact ⟨_, by first | rfl | (simp [errW_none, errW_some] <;> rfl) | (simp [*, errW_none, errW_some] <;> rfl), by first | exact Kd.R_nil _ _ _ _ _ | exact Kd.N_nil _ _ _ _ _ | exact Kd.V_nil _ _ _ _ _ | exact Kd.Q_nil _ _ _ _ _ | exact Kd.S_nil _ _ _ _ _, by repeat (first | (with_reducible first | exact HB.out | apply below_alloc | apply pw_below_drewN | apply below_drew1) | exact HB.out)⟩
      · replace c12 := Bool.eq_false_iff.mpr c12
        subst c12
        have H1 : (if 0 ≤ a0 then (if (a0 : Int).toNat ≤ 35184372088832 then (if (a0 : Int).toNat ≤ 281474976710656 then ((some (List.replicate (a0 : Int).toNat false : List Bool)).bind fun y143 => (if 0 ≤ a2 then (if a2 < (y143.length : Int) then (graph_Path.l0 kj5 a2 a3 t136 (List.replicate (a0 : Int).toNat 0) (y143.set (a2 : Int).toNat true) (([a2] : List Int))) else (none)) else (none))) else (none)) else (none)) else (none)) = some r := by rw [if_neg (show ¬ (false = true) by decide)] at H; exact H
        clear H
        have H := H1
        clear H1
        by_cases c13 : 0 ≤ a0
        · rw [if_pos c13] at H
          have c13b0 := eq_true c13
          have c13b1 : decide (0 ≤ a0) = true := decide_eq_true c13
          clear c13
          by_cases c14 : (a0 : Int).toNat ≤ 35184372088832
          · rw [if_pos c14] at H
            have c14b0 := eq_true c14
            have c14b1 : decide ((a0 : Int).toNat ≤ 35184372088832) = true := decide_eq_true c14
            clear c14
            obtain ⟨y140, hy140⟩ : ∃ y_ : List Int, y_ = (List.replicate (a0 : Int).toNat 0) := ⟨_, rfl⟩
            replace H : (if (a0 : Int).toNat ≤ 281474976710656 then ((some (List.replicate (a0 : Int).toNat false : List Bool)).bind fun y143 => (if 0 ≤ a2 then (if a2 < (y143.length : Int) then (graph_Path.l0 kj5 a2 a3 t136 y140 (y143.set (a2 : Int).toNat true) (([a2] : List Int))) else (none)) else (none))) else (none)) = some r := by first | (rw [hy140]; with_reducible exact H) | (have H2_ := (Option.bind_some _ _).symm.trans H; rw [hy140]; with_reducible exact H2_) | (have H2_ := (Option.bind_some _ _).symm.trans H; with_reducible exact H2_) | with_reducible exact H | (rw [hy140]; exact H) | exact H
            have Ny140 := Aside0.mk hy140
            clear hy140
            by_cases c15 : (a0 : Int).toNat ≤ 281474976710656
            · rw [if_pos c15] at H
              have c15b0 := eq_true c15
              have c15b1 : decide ((a0 : Int).toNat ≤ 281474976710656) = true := decide_eq_true c15
              clear c15
              obtain ⟨y143, hy143⟩ : ∃ y_ : List Bool, y_ = (List.replicate (a0 : Int).toNat false) := ⟨_, rfl⟩
              replace H : (if 0 ≤ a2 then (if a2 < (y143.length : Int) then (graph_Path.l0 kj5 a2 a3 t136 y140 (y143.set (a2 : Int).toNat true) (([a2] : List Int))) else (none)) else (none)) = some r := by first | (rw [hy143]; with_reducible exact H) | (have H2_ := (Option.bind_some _ _).symm.trans H; rw [hy143]; with_reducible exact H2_) | (have H2_ := (Option.bind_some _ _).symm.trans H; with_reducible exact H2_) | with_reducible exact H | (rw [hy143]; exact H) | exact H
              have Ny143 := Aside0.mk hy143
              clear hy143
              by_cases c16 : 0 ≤ a2
              · rw [if_pos c16] at H
                have c16b0 : decide (0 ≤ a2) = true := decide_eq_true c16
                clear c16
                by_cases c17 : a2 < (y143.length : Int)
                · rw [if_pos c17] at H
                  have c17b0 : decide (a2 < (y143.length : Int)) = true := decide_eq_true c17
                  clear c17
                  obtain ⟨y146, hy146⟩ : ∃ y_ : List Bool, y_ = (y143.set (a2 : Int).toNat true) := ⟨_, rfl⟩
                  replace H : (graph_Path.l0 kj5 a2 a3 t136 y140 y146 (([a2] : List Int))) = some r := by first | (rw [hy146]; with_reducible exact H) | (have H2_ := (Option.bind_some _ _).symm.trans H; rw [hy146]; with_reducible exact H2_) | (have H2_ := (Option.bind_some _ _).symm.trans H; with_reducible exact H2_) | with_reducible exact H | (rw [hy146]; exact H) | exact H
                  have Ny146 := Aside0.mk hy146
                  clear hy146
                  obtain ⟨y147, hy147⟩ : ∃ y_ : List Int, y_ = (([a2] : List Int)) := ⟨_, rfl⟩
                  replace H : (graph_Path.l0 kj5 a2 a3 t136 y140 y146 y147) = some r := by first | (rw [hy147]; with_reducible exact H) | (have H2_ := (Option.bind_some _ _).symm.trans H; rw [hy147]; with_reducible exact H2_) | (have H2_ := (Option.bind_some _ _).symm.trans H; with_reducible exact H2_) | with_reducible exact H | (rw [hy147]; exact H) | exact H
                  have Ny147 := Aside0.mk hy147
                  clear hy147
                  have H' := Aside0.mk H
                  clear H
                  go_wp2_with (first | ((with_reducible refine gate_dst (N := 48) rfl ?_); refine Kd.R_make (Kd.int .i64) _ 3 rfl (N := 48) rfl 35 _ _ rfl a0 rfl rfl Try.underlying35 (.int .i64 0) 8 info3 rfl (by decide) (by omega) 0 (ok := fun _ => True) (okp := fun _ => True) rfl (fun _ hk => hk) trivial (of_decide_eq_true (by first | (with_reducible assumption) | assumption)) (Nat.le_trans (Nat.mul_le_mul_right _ (of_decide_eq_true (by first | (with_reducible assumption) | assumption) : a0.toNat ≤ 35184372088832)) (by omega)) (Below.refl _ _) (Nat.le_refl _) ?_; intro v141 w19 ho20 hb hg_ hnew_; clear hg_ hnew_; (first | rw [← Ny140.out] at ho20 | (simp only [Int.reduceToNat] at ho20; rw [← Ny140.out] at ho20)); have n0_ := Aside0.mk (Kd.S_elder' (by (with_reducible repeat (first | apply Kd.S_alloc | apply Kd.S_drewN | apply Kd.S_drew)); exact HO_9.out) (Kd.R_base ho20) hb); have n1_ := Aside0.mk (Kd.R_lower ho20 (below_size (by repeat (first | (with_reducible first | exact HB.out | apply below_alloc | apply pw_below_drewN | apply below_drew1) | exact HB.out)))); have n2_ := Aside0.mk (below_step (by repeat (first | (with_reducible first | exact HB.out | apply below_alloc | apply pw_below_drewN | apply below_drew1) | exact HB.out)) hb); clear HO_9; clear HB; have HO_9 := n0_; have HO142 := n1_; have HB := n2_; clear n0_ n1_ n2_; clear hb ho20) | ((with_reducible refine gate_dst (N := 50) rfl ?_); refine Kd.R_make Kd.bool _ 4 rfl (N := 50) rfl 40 _ _ rfl a0 rfl rfl Try.underlying40 (.bool false) 1 info4 rfl (by decide) (by omega) false (ok := fun _ => True) (okp := fun _ => True) rfl (fun _ hk => hk) trivial (of_decide_eq_true (by first | (with_reducible assumption) | assumption)) (Nat.le_trans (Nat.mul_le_mul_right _ (of_decide_eq_true (by first | (with_reducible assumption) | assumption) : a0.toNat ≤ 281474976710656)) (by omega)) (Below.refl _ _) (Nat.le_refl _) ?_; intro v144 w21 ho22 hb hg_ hnew_; clear hg_ hnew_; (first | rw [← Ny143.out] at ho22 | (simp only [Int.reduceToNat] at ho22; rw [← Ny143.out] at ho22)); have n0_ := Aside0.mk (Kd.S_below (by (with_reducible repeat (first | apply Kd.S_alloc | apply Kd.S_drewN | apply Kd.S_drew)); exact HO_9.out) hb); have n1_ := Aside0.mk (Kd.R_below (by (with_reducible repeat (first | apply Kd.R_alloc | apply Kd.R_drewN | apply Kd.R_drew)); exact HO142.out) hb); have n2_ := Aside0.mk (Kd.R_lower ho22 (below_size (by repeat (first | (with_reducible first | exact HB.out | apply below_alloc | apply pw_below_drewN | apply below_drew1) | exact HB.out)))); have n3_ := Aside0.mk (below_step (by repeat (first | (with_reducible first | exact HB.out | apply below_alloc | apply pw_below_drewN | apply below_drew1) | exact HB.out)) hb); clear HO_9; clear HO142; clear HB; have HO_9 := n0_; have HO142 := n1_; have HO145 := n2_; have HB := n3_; clear n0_ n1_ n2_ n3_; clear hb ho22; have p18 : 0 ≤ (a2 : Int) := of_decide_eq_true (by first | (with_reducible assumption) | assumption); have q18 : (a2 : Int) < ((y143.length : Int) : Int) := of_decide_eq_true (by first | (with_reducible assumption) | assumption); obtain ⟨go18, co18, eo18, gb18, gl18, cl18, HG18⟩ := Kd.R_form HO145.out (by omega); (first | cases eo18 | (injection eo18 with ea_ en_ ec_; (first | subst ea_ | (injection ea_ with ea_; subst ea_)); subst ec_; clear en_)); have GB18 := Aside0.mk gb18; have GG18 := Aside0.mk HG18; clear gb18 gl18 HG18; obtain ⟨hx18_0, hf18_0⟩ := Kd.R_celln false HO145.out (a2 : Int) p18 q18; replace p18 := eq_true p18; replace q18 := eq_true q18; obtain ⟨hy23_, hz23_⟩ := Kd.R_celln false HO145.out (a2 : Int) (of_decide_eq_true (by first | (with_reducible assumption) | assumption)) (of_decide_eq_true (by first | (with_reducible assumption) | assumption)); have HP23 := Kd.R_putg HO145.out (a2 : Int) true) | ((with_reducible refine gate_store (t := 4) (p := 53) rfl ?_); refine store_event (t := 4) (p := 53) (v := ?vo_w24) (w1 := (w21.setCell ⟨go18, (a2 : Int).toNat, none⟩ (.bool true))) ?hg ?ho ?hn ?hr ?_; (case ho => rfl); (case hg => rfl); (case hn => rfl); (case hr => first | (go_simp; done) | (go_simp; rfl)); intro w24 hw; have hg : w21.grownBy w24 (some go18) := (by rw [hw]; exact HP23.2); have hp_ : Kd.R Kd.bool 4 w24 w.heap.size (fun _ => True) (.slice (some ⟨go18, 0, none⟩) y143.length co18) y146 := (by rw [hw, Ny146.out]; exact HP23.1); clear HP23; have n0_ := Aside0.mk (Kd.S_over' (v := (.slice (some ⟨go18, 0, none⟩) y143.length co18)) (by (with_reducible repeat (first | apply Kd.S_alloc | apply Kd.S_drewN | apply Kd.S_drew)); exact HO_9.out) (Kd.R_typed HO145.out) (by decide) hg); have n1_ := Aside0.mk (Kd.R_over' (v := (.slice (some ⟨go18, 0, none⟩) y143.length co18)) (by (with_reducible repeat (first | apply Kd.R_alloc | apply Kd.R_drewN | apply Kd.R_drew)); exact HO142.out) (Kd.R_typed HO145.out) (by decide) hg); have n2_ := Aside0.mk (hp_); have n3_ := Aside0.mk ((by rw [hw]; exact below_set (HB.out) GB18.out : Below w.heap.size w w24)); clear HO_9; clear HO142; clear HO145; clear HB; have HO_9 := n0_; have HO142 := n1_; have HO145 := n2_; have HB := n3_; clear n0_ n1_ n2_ n3_; clear hg hw hp_) | ((with_reducible refine gate_dst (N := 55) rfl ?_); refine Kd.R_lit (Kd.int .i64) _ 3 ?hg (N := 55) ?hd (xs := ([a2] : List Int)) (inner := [.int .i64 a2]) (ok := fun _ => True) (okp := fun _ => True) ?hr ?hp (fun _ hk => hk) trivial (Below.refl _ _) (Nat.le_refl _) (by simp) ?_; (case hd => rfl); (case hg => rfl); (case hr => first | (go_simp; done) | (go_simp; rfl)); (case hp => exact (Reps.one (show Kd.M (Kd.int .i64) _ _ _ a2 [.int .i64 a2] from rfl) (Reps.none _ _))); intro v148 w25 ho26 hb hg_ hnew_; clear hg_ hnew_; (first | rw [← Ny147.out] at ho26 | (simp only [Int.reduceToNat] at ho26; rw [← Ny147.out] at ho26)); have n0_ := Aside0.mk (Kd.S_elder' (by (with_reducible repeat (first | apply Kd.S_alloc | apply Kd.S_drewN | apply Kd.S_drew)); exact HO_9.out) (Kd.R_base ho26) hb); have n1_ := Aside0.mk (Kd.R_elder' (by (with_reducible repeat (first | apply Kd.R_alloc | apply Kd.R_drewN | apply Kd.R_drew)); exact HO142.out) (Kd.R_base ho26) hb); have n2_ := Aside0.mk (Kd.R_below (by (with_reducible repeat (first | apply Kd.R_alloc | apply Kd.R_drewN | apply Kd.R_drew)); exact HO145.out) hb); have n3_ := Aside0.mk (Kd.R_lower (Kd.R_new' ho26 (Kd.R_lt (by (with_reducible repeat (first | apply Kd.R_alloc | apply Kd.R_drewN | apply Kd.R_drew)); exact HO142.out))) (below_size (by repeat (first | (with_reducible first | exact HB.out | apply below_alloc | apply pw_below_drewN | apply below_drew1) | exact HB.out)))); have n4_ := Aside0.mk (below_step (by repeat (first | (with_reducible first | exact HB.out | apply below_alloc | apply pw_below_drewN | apply below_drew1) | exact HB.out)) hb); clear HO_9; clear HO142; clear HO145; clear HB; have HO_9 := n0_; have HO142 := n1_; have HO145 := n2_; have HO149 := n3_; have HB := n4_; clear n0_ n1_ n2_ n3_ n4_; clear hb ho26))
                  go_loopg [13] kj5 (fun kq v13 w' => ∃ (x11_2 : List Int) (x12_2 : List Bool) (x13_2 : List Int), Aside0 (graph_Path.l0 kq a2 a3 t136 x11_2 x12_2 x13_2 = some r) ∧ Aside0 (kq ≤ kj5) ∧ Aside0 (Kd.S (Kd.slice 3 (Kd.int .i64)) 35 w' w.heap.size (fun k_ => some k_ ≠ (v141 : Value).ownBlock ∧ some k_ ≠ (v13 : Value).ownBlock) v138 t136) ∧ Aside0 (Kd.R (Kd.int .i64) 3 w' w.heap.size (fun k_ => some k_ ≠ (v13 : Value).ownBlock) v141 x11_2) ∧ Aside0 (Kd.R Kd.bool 4 w' w.heap.size (fun _ => True) (.slice (some ⟨go18, 0, none⟩) y143.length co18) x12_2) ∧ Aside0 (Kd.R (Kd.int .i64) 3 w' w.heap.size (fun k_ => some k_ ≠ (v141 : Value).ownBlock) v13 x13_2) ∧ Aside0 (Below w.heap.size w w'))
                  case atStart => exact ⟨(y140), (y146), (y147), H', ⟨Nat.le_refl _⟩, ⟨by (with_reducible repeat (first | apply Kd.S_alloc | apply Kd.S_drewN | apply Kd.S_drew)); exact Kd.S_mono HO_9.out (fun _ hk => ⟨hk.1.2, hk.2⟩)⟩, ⟨by (with_reducible repeat (first | apply Kd.R_alloc | apply Kd.R_drewN | apply Kd.R_drew)); exact Kd.R_mono HO142.out (fun _ hk => hk.2)⟩, ⟨by (with_reducible repeat (first | apply Kd.R_alloc | apply Kd.R_drewN | apply Kd.R_drew)); exact HO145.out⟩, ⟨by (with_reducible repeat (first | apply Kd.R_alloc | apply Kd.R_drewN | apply Kd.R_drew)); exact Kd.R_mono HO149.out (fun _ hk => hk.2)⟩, ⟨by repeat (first | (with_reducible first | exact HB.out | apply below_alloc | apply pw_below_drewN | apply below_drew1) | exact HB.out)⟩⟩
                  case round =>
                    clear H'
                    try clear c1
                    try clear p1
                    try clear q1
                    try clear hx1
                    try clear c2
                    try clear p2
                    try clear c4
                    try clear c8
                    try clear c9
                    try clear c9b0
                    try clear c10
                    try clear c10b0
                    try clear c11
                    try clear c11b0
                    try clear c12
                    try clear c13
                    try clear c13b0
                    try clear c13b1
                    try clear c14
                    try clear c14b0
                    try clear c14b1
                    try clear c15
                    try clear c15b0
                    try clear c15b1
                    try clear c16
                    try clear c16b0
                    try clear c17
                    try clear c17b0
                    try clear p18
                    try clear q18
                    try clear hx18
                    try clear hf18
                    try clear c20
                    try clear hx18_0
                    try clear p18
                    try clear p2
                    try clear q18
                    obtain ⟨x11_2, x12_2, x13_2, HA, HK2, HO_9, HO_11, HO_12, HO_13, HB⟩ := hrel
                    have hl12_2 := (Kd.R_reads' HO_12.out).1
                    rw [hl12_2] at HO_12
                    (try simp only [hl12_2])
                    (try simp only [hl12_2] at HO_9)
                    (try simp only [hl12_2] at HO_11)
                    (try simp only [hl12_2] at HO_13)
                    cases gk with
                    | zero => exact absurd HA.out (by simp [graph_Path.l0])
                    | succ k2 =>
                      have H := HA.out
                      clear HA
                      simp only [graph_Path.l0] at H
                      have HC27 := Aside0.mk H
                      clear H
                      go_upto_region 8 with (fail)
                      go_cut [65] (fun v65 wc => ∃ (kq : Nat) (x65_26 : Bool), v65 = .bool x65_26 ∧ Aside0 (graph_Path.j2 kq a2 a3 t136 x11_2 x12_2 x13_2 x65_26 = some r) ∧ Aside0 (kq ≤ k2) ∧ Aside0 (Kd.S (Kd.slice 3 (Kd.int .i64)) 35 wc w.heap.size (fun k_ => some k_ ≠ (v141 : Value).ownBlock ∧ some k_ ≠ (u13 : Value).ownBlock) v138 t136) ∧ Aside0 (Kd.R (Kd.int .i64) 3 wc w.heap.size (fun k_ => some k_ ≠ (u13 : Value).ownBlock) v141 x11_2) ∧ Aside0 (Kd.R Kd.bool 4 wc w.heap.size (fun _ => True) (.slice (some ⟨go18, 0, none⟩) x12_2.length co18) x12_2) ∧ Aside0 (Kd.R (Kd.int .i64) 3 wc w.heap.size (fun k_ => some k_ ≠ (v141 : Value).ownBlock) u13 x13_2) ∧ Aside0 (Below w.heap.size w wc))
                      case first =>
                        have H := HC27.out
                        clear HC27
                        by_cases c28 : (x13_2.length : Int) > 0
                        · rw [if_pos c28] at H
                          have c28b0 : decide (0 < (x13_2.length : Int)) = true := decide_eq_true c28
                          have c28b1 : decide (0 < x13_2.length) = true := decide_eq_true (by omega)
                          clear c28
                          (first | rw [c28b0] | (simp only [i64_w, i32_w]; rw [c28b0]) | skip)
                          by_cases c29 : 0 ≤ a3
                          · rw [if_pos c29] at H
                            have c29b0 : decide (0 ≤ a3) = true := decide_eq_true c29
                            clear c29
                            by_cases c30 : a3 < (x12_2.length : Int)
                            · rw [if_pos c30] at H
                              have c30b0 : decide (a3 < (x12_2.length : Int)) = true := decide_eq_true c30
                              clear c30
                              have H' := Aside0.mk H
                              clear H
                              obtain ⟨Ao31, co31, eo31⟩ := Kd.R_slice HO_13.out
                              subst eo31
                              have p150 : 0 ≤ (a3 : Int) := of_decide_eq_true (by first | (with_reducible assumption) | assumption)
                              have q150 : a3 < (x12_2.length : Int) := of_decide_eq_true (by first | (with_reducible assumption) | assumption)
                              obtain ⟨ad150, e150, hx150_0⟩ := Kd.at_bool (Kd.R_reads' HO_12.out).2.2 a3 p150 q150
                              obtain rfl : (⟨go18, 0, none⟩ : Addr) = ad150 := (by injection e150)
                              (first | simp only [add_plain] at hx150_0 | simp only [add_at] at hx150_0 | simp only [Addr.add, Nat.zero_add] at hx150_0 | skip)
                              replace p150 := eq_true p150
                              replace q150 := eq_true q150
                              go_wp2
                              go_meet
                              case rel => exact ⟨_, (!(rdOf false x12_2 a3)), (by first | rfl | (simp; done) | (simp [*]; done)), H', ⟨by have := HJ5.out; have := HK2.out; first | omega | exact Nat.le_refl _⟩, ⟨by (try simp only [hl12_2]); (with_reducible repeat (first | apply Kd.S_alloc | apply Kd.S_drewN | apply Kd.S_drew)); exact HO_9.out⟩, ⟨by (try simp only [hl12_2]); (with_reducible repeat (first | apply Kd.R_alloc | apply Kd.R_drewN | apply Kd.R_drew)); exact HO_11.out⟩, ⟨by (try simp only [hl12_2]); (with_reducible repeat (first | apply Kd.R_alloc | apply Kd.R_drewN | apply Kd.R_drew)); exact HO_12.out⟩, ⟨by (try simp only [hl12_2]); (with_reducible repeat (first | apply Kd.R_alloc | apply Kd.R_drewN | apply Kd.R_drew)); exact HO_13.out⟩, ⟨by repeat (first | (with_reducible first | exact HB.out | apply below_alloc | apply pw_below_drewN | apply below_drew1) | exact HB.out)⟩⟩
                            · rw [if_neg c30] at H
                              exact absurd H (by simp)
                          · rw [if_neg c29] at H
                            exact absurd H (by simp)
                        · rw [if_neg c28] at H
                          have c28b0 : decide (0 < (x13_2.length : Int)) = false := decide_eq_false c28
                          have c28b1 : decide (0 < x13_2.length) = false := decide_eq_false (by omega)
                          clear c28
                          (first | rw [c28b0] | (simp only [i64_w, i32_w]; rw [c28b0]) | skip)
                          have H' := Aside0.mk H
                          clear H
                          obtain ⟨Ao32, co32, eo32⟩ := Kd.R_slice HO_13.out
                          subst eo32
                          go_wp2
                          go_meet
                          case rel => exact ⟨_, (false), (by first | rfl | (simp; done) | (simp [*]; done)), H', ⟨by have := HJ5.out; have := HK2.out; first | omega | exact Nat.le_refl _⟩, ⟨by (try simp only [hl12_2]); (with_reducible repeat (first | apply Kd.S_alloc | apply Kd.S_drewN | apply Kd.S_drew)); exact HO_9.out⟩, ⟨by (try simp only [hl12_2]); (with_reducible repeat (first | apply Kd.R_alloc | apply Kd.R_drewN | apply Kd.R_drew)); exact HO_11.out⟩, ⟨by (try simp only [hl12_2]); (with_reducible repeat (first | apply Kd.R_alloc | apply Kd.R_drewN | apply Kd.R_drew)); exact HO_12.out⟩, ⟨by (try simp only [hl12_2]); (with_reducible repeat (first | apply Kd.R_alloc | apply Kd.R_drewN | apply Kd.R_drew)); exact HO_13.out⟩, ⟨by repeat (first | (with_reducible first | exact HB.out | apply below_alloc | apply pw_below_drewN | apply below_drew1) | exact HB.out)⟩⟩
                      case rest =>
                        clear HC27
                        try clear c1
                        try clear p1
                        try clear q1
                        try clear hx1
                        try clear c2
                        try clear p2
                        try clear c3
                        try clear c4
                        try clear c8
                        try clear c9
                        try clear c9b0
                        try clear c10
                        try clear c10b0
                        try clear c11
                        try clear c11b0
                        try clear c12
                        try clear c13
                        try clear c13b0
                        try clear c13b1
                        try clear c14
                        try clear c14b0
                        try clear c14b1
                        try clear c15
                        try clear c15b0
                        try clear c15b1
                        try clear p15
                        try clear q15
                        try clear hx15
                        try clear c16
                        try clear c16b0
                        try clear c17
                        try clear c17b0
                        try clear p18
                        try clear q18
                        try clear hx18
                        try clear hf18
                        try clear c20
                        try clear c28
                        try clear c28b0
                        try clear c28b1
                        try clear c29
                        try clear c29b0
                        try clear c30
                        try clear c30b0
                        try clear hx150_0
                        try clear hx18_0
                        try clear p1
                        try clear p150
                        try clear p18
                        try clear p2
                        try clear q1
                        try clear q150
                        try clear q18
                        obtain ⟨kq, x65_26, rfl, HA, HJ26, HO_9, HO_11, HO_12, HO_13, HB⟩ := hcut
                        cases kq with
                        | zero => exact absurd HA.out (by simp [graph_Path.j2])
                        | succ kj26 =>
                          have H := HA.out
                          clear HA
                          simp only [graph_Path.j2] at H
                          by_cases c33 : x65_26 = true
                          · subst c33
                            have H1 : (graph_Path.l1 kj26 a2 a3 t136 x11_2 x12_2 ([] : List Int) x13_2 (x13_2.length : Int) 0) = some r := by rw [if_pos rfl] at H; exact H
                            clear H
                            have H := H1
                            clear H1
                            have H' := Aside0.mk H
                            clear H
                            obtain ⟨Ao34, co34, eo34⟩ := Kd.R_slice HO_13.out
                            subst eo34
                            go_wp2
                            go_loopg [14, 68] kj26 (fun kq v14 v68 w' => ∃ (x11_4 : List Int) (x12_4 : List Bool) (x14_4 : List Int) (x68_4 : Int), v68 = .int .i64 x68_4 ∧ Aside0 (graph_Path.l1 kq a2 a3 t136 x11_4 x12_4 x14_4 x13_2 (x13_2.length : Int) x68_4 = some r) ∧ Aside0 (kq ≤ kj26) ∧ Aside0 (Kd.S (Kd.slice 3 (Kd.int .i64)) 35 w' w.heap.size (fun k_ => some k_ ≠ (v141 : Value).ownBlock ∧ some k_ ≠ (v14 : Value).ownBlock ∧ some k_ ≠ ((.slice Ao34 x13_2.length co34) : Value).ownBlock) v138 t136) ∧ Aside0 (Kd.R (Kd.int .i64) 3 w' w.heap.size (fun k_ => some k_ ≠ (v14 : Value).ownBlock ∧ some k_ ≠ ((.slice Ao34 x13_2.length co34) : Value).ownBlock) v141 x11_4) ∧ Aside0 (Kd.R Kd.bool 4 w' w.heap.size (fun _ => True) (.slice (some ⟨go18, 0, none⟩) x12_2.length co18) x12_4) ∧ Aside0 (Kd.R (Kd.int .i64) 3 w' w.heap.size (fun k_ => some k_ ≠ (v141 : Value).ownBlock ∧ some k_ ≠ ((.slice Ao34 x13_2.length co34) : Value).ownBlock) v14 x14_4) ∧ Aside0 (Kd.R (Kd.int .i64) 3 w' w.heap.size (fun k_ => some k_ ≠ (v141 : Value).ownBlock ∧ some k_ ≠ (v14 : Value).ownBlock) (.slice Ao34 x13_2.length co34) x13_2) ∧ Aside0 (Below w.heap.size w w'))
                            case atStart => exact ⟨(x11_2), (x12_2), (([] : List Int)), (0), (by first | rfl | (simp; done) | (simp [*]; done)), H', ⟨Nat.le_refl _⟩, ⟨by (try simp only [hl12_2]); (with_reducible repeat (first | apply Kd.S_alloc | apply Kd.S_drewN | apply Kd.S_drew)); exact Kd.S_mono HO_9.out (fun _ hk => ⟨hk.1, ⟨(by simp [Value.ownBlock]), hk.2⟩⟩)⟩, ⟨by (try simp only [hl12_2]); (with_reducible repeat (first | apply Kd.R_alloc | apply Kd.R_drewN | apply Kd.R_drew)); exact Kd.R_mono HO_11.out (fun _ hk => ⟨(by simp [Value.ownBlock]), hk⟩)⟩, ⟨by (try simp only [hl12_2]); (with_reducible repeat (first | apply Kd.R_alloc | apply Kd.R_drewN | apply Kd.R_drew)); exact HO_12.out⟩, ⟨by (try simp only [hl12_2]); first | exact Kd.R_nil _ _ _ _ _ | exact Kd.N_nil _ _ _ _ _ | exact Kd.V_nil _ _ _ _ _ | exact Kd.Q_nil _ _ _ _ _ | exact Kd.S_nil _ _ _ _ _⟩, ⟨by (try simp only [hl12_2]); (with_reducible repeat (first | apply Kd.R_alloc | apply Kd.R_drewN | apply Kd.R_drew)); exact Kd.R_mono HO_13.out (fun _ hk => ⟨hk, (by simp [Value.ownBlock])⟩)⟩, ⟨by repeat (first | (with_reducible first | exact HB.out | apply below_alloc | apply pw_below_drewN | apply below_drew1) | exact HB.out)⟩⟩
                            case round =>
                              clear H'
                              try clear c1
                              try clear p1
                              try clear q1
                              try clear hx1
                              try clear c2
                              try clear p2
                              try clear c3
                              try clear c4
                              try clear c8
                              try clear c9
                              try clear c9b0
                              try clear c10
                              try clear c10b0
                              try clear c11
                              try clear c11b0
                              try clear c12
                              try clear c13
                              try clear c13b0
                              try clear c13b1
                              try clear c14
                              try clear c14b0
                              try clear c14b1
                              try clear c15
                              try clear c15b0
                              try clear c15b1
                              try clear p15
                              try clear q15
                              try clear hx15
                              try clear c16
                              try clear c16b0
                              try clear c17
                              try clear c17b0
                              try clear p18
                              try clear q18
                              try clear hx18
                              try clear hf18
                              try clear c20
                              try clear c28
                              try clear c28b0
                              try clear c28b1
                              try clear c29
                              try clear c29b0
                              try clear c30
                              try clear c30b0
                              try clear c33
                              try clear hx150_0
                              try clear hx18_0
                              try clear p1
                              try clear p15
                              try clear p150
                              try clear p18
                              try clear p2
                              try clear q1
                              try clear q15
                              try clear q150
                              try clear q18
                              obtain ⟨x11_4, x12_4, x14_4, x68_4, rfl, HA, HK4, HO_9, HO_11, HO_12, HO_14, HO_66, HB⟩ := hrel
                              have hl12_4 := (Kd.R_reads' HO_12.out).1
                              rw [hl12_4] at HO_12
                              (try simp only [hl12_4])
                              (try simp only [hl12_4] at HO_9)
                              (try simp only [hl12_4] at HO_11)
                              (try simp only [hl12_4] at HO_14)
                              (try simp only [hl12_4] at HO_66)
                              cases gk with
                              | zero => exact absurd HA.out (by simp [graph_Path.l1])
                              | succ k4 =>
                                have H := HA.out
                                clear HA
                                simp only [graph_Path.l1] at H
                                by_cases c35 : x68_4 < (x13_2.length : Int)
                                · rw [if_pos c35] at H
                                  have c35b0 : decide (x68_4 < (x13_2.length : Int)) = true := decide_eq_true c35
                                  clear c35
                                  by_cases c36 : 0 ≤ x68_4
                                  · rw [if_pos c36] at H
                                    have c36b0 : decide (0 ≤ x68_4) = true := decide_eq_true c36
                                    clear c36
                                    by_cases c37 : x68_4 < (x13_2.length : Int)
                                    · rw [if_pos c37] at H
                                      have c37b0 : decide (x68_4 < (x13_2.length : Int)) = true := decide_eq_true c37
                                      clear c37
                                      by_cases c38 : 0 ≤ (rd x13_2 x68_4)
                                      · rw [if_pos c38] at H
                                        have c38b0 : decide (0 ≤ (rd x13_2 x68_4)) = true := decide_eq_true c38
                                        clear c38
                                        by_cases c39 : (rd x13_2 x68_4) < (t136.length : Int)
                                        · rw [if_pos c39] at H
                                          have c39b0 : decide ((rd x13_2 x68_4) < (t136.length : Int)) = true := decide_eq_true c39
                                          clear c39
                                          have H' := Aside0.mk H
                                          clear H
                                          have p151 : 0 ≤ (x68_4 : Int) := of_decide_eq_true (by first | (with_reducible assumption) | assumption)
                                          have q151 : x68_4 < (x13_2.length : Int) := of_decide_eq_true (by first | (with_reducible assumption) | assumption)
                                          obtain ⟨ad151, e151, hx151_0⟩ := Kd.at_int (Kd.R_reads' HO_66.out).2.2 x68_4 p151 q151
                                          cases e151
                                          replace p151 := eq_true p151
                                          replace q151 := eq_true q151
                                          obtain ⟨Ao40, co40, eo40⟩ := Kd.S_slice HO_9.out
                                          subst eo40
                                          have p152 : 0 ≤ ((rd x13_2 x68_4) : Int) := of_decide_eq_true (by first | (with_reducible assumption) | assumption)
                                          have q152 : (rd x13_2 x68_4) < (t136.length : Int) := of_decide_eq_true (by first | (with_reducible assumption) | assumption)
                                          obtain ⟨ad152, A152_0, c152_0, e152, hx152_0, hl152_0, hi152_0⟩ := at_L1 (Kd.S_reads' HO_9.out).2.2 (rd x13_2 x68_4) p152 q152
                                          cases e152
                                          obtain ⟨ce152, hce152, hMe152, hcc152⟩ := Kd.S_get HO_9.out [] (rd x13_2 x68_4) p152 (by first | exact q152 | exact of_decide_eq_true (by first | (with_reducible assumption) | assumption) | (have e_ := (Kd.S_reads' HO_9.out).1; omega))
                                          obtain ⟨ve152_0, rfl, ge152_0⟩ := hMe152
                                          have hv152_0 := hcc152 0 _ rfl
                                          rw [Nat.add_zero, show ((Kd.slice 3 (Kd.int .i64))).sz = 1 from rfl, Nat.mul_one] at hv152_0
                                          replace hv152_0 := Option.some.inj (hv152_0.symm.trans hx152_0)
                                          rw [hv152_0] at ge152_0
                                          have HL152_0 := Aside0.mk (show Kd.R (Kd.int .i64) 3 _ _ _ _ (rd_L1 t136 (rd x13_2 x68_4)) from ge152_0)
                                          clear hv152_0 ge152_0
                                          clear hcc152 hce152
                                          have HR152_0 := Aside0.mk hi152_0
                                          have HC152_0 := Aside0.mk hl152_0
                                          clear hi152_0 hl152_0
                                          replace p152 := eq_true p152
                                          replace q152 := eq_true q152
                                          go_wp2
                                          go_loopg [14, 77] k4 (fun kq v14 v77 w' => ∃ (x11_5 : List Int) (x12_5 : List Bool) (x14_5 : List Int) (x77_5 : Int), v77 = .int .i64 x77_5 ∧ Aside0 (graph_Path.l2 kq a2 a3 t136 x11_5 x12_5 x14_5 (rd x13_2 x68_4) x13_2 (x13_2.length : Int) x68_4 (rd_L1 t136 (rd x13_2 x68_4)) ((rd_L1 t136 (rd x13_2 x68_4)).length : Int) x77_5 = some r) ∧ Aside0 (kq ≤ k4) ∧ Aside0 (Kd.S (Kd.slice 3 (Kd.int .i64)) 35 w' w.heap.size (fun k_ => some k_ ≠ (v141 : Value).ownBlock ∧ some k_ ≠ (v14 : Value).ownBlock ∧ some k_ ≠ ((.slice (some ad151) x13_2.length co34) : Value).ownBlock) (.slice (some ad152) t136.length co40) t136) ∧ Aside0 (Kd.R (Kd.int .i64) 3 w' w.heap.size (fun k_ => some k_ ≠ (v14 : Value).ownBlock ∧ some k_ ≠ ((.slice (some ad151) x13_2.length co34) : Value).ownBlock) v141 x11_5) ∧ Aside0 (Kd.R Kd.bool 4 w' w.heap.size (fun _ => True) (.slice (some ⟨go18, 0, none⟩) x12_4.length co18) x12_5) ∧ Aside0 (Kd.R (Kd.int .i64) 3 w' w.heap.size (fun k_ => some k_ ≠ (v141 : Value).ownBlock ∧ some k_ ≠ ((.slice (some ad151) x13_2.length co34) : Value).ownBlock) v14 x14_5) ∧ Aside0 (Kd.R (Kd.int .i64) 3 w' w.heap.size (fun k_ => some k_ ≠ (v141 : Value).ownBlock ∧ some k_ ≠ (v14 : Value).ownBlock) (.slice (some ad151) x13_2.length co34) x13_2) ∧ Aside0 (Below w.heap.size w w') ∧ Aside0 (Kd.R (Kd.int .i64) 3 w' w.heap.size (fun k_ => some k_ ≠ (v141 : Value).ownBlock ∧ some k_ ≠ (v14 : Value).ownBlock ∧ some k_ ≠ ((.slice (some ad151) x13_2.length co34) : Value).ownBlock) (.slice A152_0 (rd_L1 t136 (rd x13_2 x68_4)).length c152_0) (rd_L1 t136 (rd x13_2 x68_4))))
                                          case atStart => exact ⟨(x11_4), (x12_4), (x14_4), (0), (by first | rfl | (simp; done) | (simp [*]; done)), H', ⟨Nat.le_refl _⟩, ⟨by (try simp only [hl12_2]); (try simp only [hl12_4]); (with_reducible repeat (first | apply Kd.S_alloc | apply Kd.S_drewN | apply Kd.S_drew)); exact HO_9.out⟩, ⟨by (try simp only [hl12_2]); (try simp only [hl12_4]); (with_reducible repeat (first | apply Kd.R_alloc | apply Kd.R_drewN | apply Kd.R_drew)); exact HO_11.out⟩, ⟨by (try simp only [hl12_2]); (try simp only [hl12_4]); (with_reducible repeat (first | apply Kd.R_alloc | apply Kd.R_drewN | apply Kd.R_drew)); exact HO_12.out⟩, ⟨by (try simp only [hl12_2]); (try simp only [hl12_4]); (with_reducible repeat (first | apply Kd.R_alloc | apply Kd.R_drewN | apply Kd.R_drew)); exact HO_14.out⟩, ⟨by (try simp only [hl12_2]); (try simp only [hl12_4]); (with_reducible repeat (first | apply Kd.R_alloc | apply Kd.R_drewN | apply Kd.R_drew)); exact HO_66.out⟩, ⟨by repeat (first | (with_reducible first | exact HB.out | apply below_alloc | apply pw_below_drewN | apply below_drew1) | exact HB.out)⟩, ⟨by (with_reducible repeat (first | apply Kd.R_alloc | apply Kd.R_drewN | apply Kd.R_drew)); exact Kd.R_mono HL152_0.out (fun _ hk => hk.1)⟩⟩
                                          case round =>
                                            clear H'
                                            try clear c1
                                            try clear p1
                                            try clear q1
                                            try clear hx1
                                            try clear c2
                                            try clear p2
                                            try clear c3
                                            try clear c4
                                            try clear c8
                                            try clear c9
                                            try clear c9b0
                                            try clear c10
                                            try clear c10b0
                                            try clear c11
                                            try clear c11b0
                                            try clear c12
                                            try clear c13
                                            try clear c13b0
                                            try clear c13b1
                                            try clear c14
                                            try clear c14b0
                                            try clear c14b1
                                            try clear c15
                                            try clear c15b0
                                            try clear c15b1
                                            try clear p15
                                            try clear q15
                                            try clear hx15
                                            try clear c16
                                            try clear c16b0
                                            try clear c17
                                            try clear c17b0
                                            try clear p18
                                            try clear q18
                                            try clear hx18
                                            try clear hf18
                                            try clear c20
                                            try clear c28
                                            try clear c28b0
                                            try clear c28b1
                                            try clear c29
                                            try clear c29b0
                                            try clear c30
                                            try clear c30b0
                                            try clear c33
                                            try clear c35
                                            try clear c35b0
                                            try clear c36
                                            try clear c36b0
                                            try clear c37
                                            try clear c37b0
                                            try clear c38
                                            try clear c38b0
                                            try clear c39
                                            try clear c39b0
                                            try clear hx150_0
                                            try clear hx151_0
                                            try clear hx152_0
                                            try clear hx18_0
                                            try clear p1
                                            try clear p15
                                            try clear p150
                                            try clear p151
                                            try clear p152
                                            try clear p18
                                            try clear p2
                                            try clear q1
                                            try clear q15
                                            try clear q150
                                            try clear q151
                                            try clear q152
                                            try clear q18
                                            obtain ⟨x11_5, x12_5, x14_5, x77_5, rfl, HA, HK5, HO_9, HO_11, HO_12, HO_14, HO_66, HB, HSEEN⟩ := hrel
                                            have hl12_5 := (Kd.R_reads' HO_12.out).1
                                            rw [hl12_5] at HO_12
                                            (try simp only [hl12_5])
                                            (try simp only [hl12_5] at HO_9)
                                            (try simp only [hl12_5] at HO_11)
                                            (try simp only [hl12_5] at HO_14)
                                            (try simp only [hl12_5] at HO_66)
                                            cases gk with
                                            | zero => exact absurd HA.out (by simp [graph_Path.l2])
                                            | succ k5 =>
                                              have H := HA.out
                                              clear HA
                                              simp only [graph_Path.l2] at H
                                              by_cases c41 : x77_5 < ((rd_L1 t136 (rd x13_2 x68_4)).length : Int)
                                              · rw [if_pos c41] at H
                                                have c41b0 : decide (x77_5 < ((rd_L1 t136 (rd x13_2 x68_4)).length : Int)) = true := decide_eq_true c41
                                                clear c41
                                                by_cases c42 : 0 ≤ x77_5
                                                · rw [if_pos c42] at H
                                                  have c42b0 : decide (0 ≤ x77_5) = true := decide_eq_true c42
                                                  clear c42
                                                  by_cases c43 : x77_5 < ((rd_L1 t136 (rd x13_2 x68_4)).length : Int)
                                                  · rw [if_pos c43] at H
                                                    have c43b0 : decide (x77_5 < ((rd_L1 t136 (rd x13_2 x68_4)).length : Int)) = true := decide_eq_true c43
                                                    clear c43
                                                    by_cases c44 : 0 ≤ (rd (rd_L1 t136 (rd x13_2 x68_4)) x77_5)
                                                    · rw [if_pos c44] at H
                                                      have c44b0 : decide (0 ≤ (rd (rd_L1 t136 (rd x13_2 x68_4)) x77_5)) = true := decide_eq_true c44
                                                      clear c44
                                                      by_cases c45 : (rd (rd_L1 t136 (rd x13_2 x68_4)) x77_5) < (x12_5.length : Int)
                                                      · rw [if_pos c45] at H
                                                        have c45b0 : decide ((rd (rd_L1 t136 (rd x13_2 x68_4)) x77_5) < (x12_5.length : Int)) = true := decide_eq_true c45
                                                        clear c45
                                                        obtain ⟨bq46, hbq46⟩ : ∃ b_ : Bool, b_ = (rdOf false x12_5 (rd (rd_L1 t136 (rd x13_2 x68_4)) x77_5)) := ⟨_, rfl⟩
                                                        replace H : (if (bq46 = true) then (graph_Path.l2 k5 a2 a3 t136 x11_5 x12_5 x14_5 (rd x13_2 x68_4) x13_2 (x13_2.length : Int) x68_4 (rd_L1 t136 (rd x13_2 x68_4)) ((rd_L1 t136 (rd x13_2 x68_4)).length : Int) (wrap64 (x77_5 + 1))) else (if (rd (rd_L1 t136 (rd x13_2 x68_4)) x77_5) < (x11_5.length : Int) then (if x14_5.length < 17592186044416 then (graph_Path.l2 k5 a2 a3 t136 (x11_5.set ((rd (rd_L1 t136 (rd x13_2 x68_4)) x77_5) : Int).toNat (rd x13_2 x68_4)) (x12_5.set ((rd (rd_L1 t136 (rd x13_2 x68_4)) x77_5) : Int).toNat true) (x14_5 ++ [rd (rd_L1 t136 (rd x13_2 x68_4)) x77_5]) (rd x13_2 x68_4) x13_2 (x13_2.length : Int) x68_4 (rd_L1 t136 (rd x13_2 x68_4)) ((rd_L1 t136 (rd x13_2 x68_4)).length : Int) (wrap64 (x77_5 + 1))) else (none)) else (none))) = some r := by rw [← hbq46] at H; exact H
                                                        have Nbq46 := Aside0.mk hbq46
                                                        clear hbq46
                                                        by_cases c47 : (bq46 = true)
                                                        · subst c47
                                                          have H1 : (graph_Path.l2 k5 a2 a3 t136 x11_5 x12_5 x14_5 (rd x13_2 x68_4) x13_2 (x13_2.length : Int) x68_4 (rd_L1 t136 (rd x13_2 x68_4)) ((rd_L1 t136 (rd x13_2 x68_4)).length : Int) (wrap64 (x77_5 + 1))) = some r := by rw [if_pos rfl] at H; exact H
                                                          clear H
                                                          have H := H1
                                                          clear H1
                                                          have H' := Aside0.mk H
                                                          clear H
                                                          have p153 : 0 ≤ (x77_5 : Int) := of_decide_eq_true (by first | (with_reducible assumption) | assumption)
                                                          have q153 : x77_5 < ((rd_L1 t136 (rd x13_2 x68_4)).length : Int) := of_decide_eq_true (by first | (with_reducible assumption) | assumption)
                                                          obtain ⟨ad153, e153, hx153_0⟩ := Kd.at_int (Kd.R_reads' HSEEN.out).2.2 x77_5 p153 q153
                                                          cases e153

                                                          replace p153 := eq_true p153
                                                          replace q153 := eq_true q153
                                                          have p154 : 0 ≤ ((rd (rd_L1 t136 (rd x13_2 x68_4)) x77_5) : Int) := of_decide_eq_true (by first | (with_reducible assumption) | assumption)
                                                          have q154 : (rd (rd_L1 t136 (rd x13_2 x68_4)) x77_5) < (x12_5.length : Int) := of_decide_eq_true (by first | (with_reducible assumption) | assumption)
                                                          obtain ⟨ad154, e154, hx154_0⟩ := Kd.at_bool (Kd.R_reads' HO_12.out).2.2 (rd (rd_L1 t136 (rd x13_2 x68_4)) x77_5) p154 q154
                                                          (try rw [← Nbq46.out] at hx154_0)
                                                          obtain rfl : (⟨go18, 0, none⟩ : Addr) = ad154 := (by injection e154)
                                                          (first | simp only [add_plain] at hx154_0 | simp only [add_at] at hx154_0 | simp only [Addr.add, Nat.zero_add] at hx154_0 | skip)
                                                          replace p154 := eq_true p154
                                                          replace q154 := eq_true q154
                                                          go_wp2
                                                          (try simp only [← hl12_5])
                                                          go_roundg k5
                                                          case measure => have := HJ5.out; have := HK2.out; have := HJ26.out; have := HK4.out; have := HK5.out; omega
                                                          case rel => exact ⟨(x11_5), (x12_5), (x14_5), (wrap64 (x77_5 + 1)), (by first | rfl | (simp; done) | (simp [*]; done)), H', ⟨by have := HJ5.out; have := HK2.out; have := HJ26.out; have := HK4.out; have := HK5.out; omega⟩, ⟨by (try simp only [hl12_2]); (try simp only [hl12_4]); (try simp only [hl12_5]); (with_reducible repeat (first | apply Kd.S_alloc | apply Kd.S_drewN | apply Kd.S_drew)); exact HO_9.out⟩, ⟨by (try simp only [hl12_2]); (try simp only [hl12_4]); (try simp only [hl12_5]); (with_reducible repeat (first | apply Kd.R_alloc | apply Kd.R_drewN | apply Kd.R_drew)); exact HO_11.out⟩, ⟨by (try simp only [hl12_2]); (try simp only [hl12_4]); (try simp only [hl12_5]); (with_reducible repeat (first | apply Kd.R_alloc | apply Kd.R_drewN | apply Kd.R_drew)); exact HO_12.out⟩, ⟨by (try simp only [hl12_2]); (try simp only [hl12_4]); (try simp only [hl12_5]); (with_reducible repeat (first | apply Kd.R_alloc | apply Kd.R_drewN | apply Kd.R_drew)); exact HO_14.out⟩, ⟨by (try simp only [hl12_2]); (try simp only [hl12_4]); (try simp only [hl12_5]); (with_reducible repeat (first | apply Kd.R_alloc | apply Kd.R_drewN | apply Kd.R_drew)); exact HO_66.out⟩, ⟨by repeat (first | (with_reducible first | exact HB.out | apply below_alloc | apply pw_below_drewN | apply below_drew1) | exact HB.out)⟩, ⟨by (try simp only [hl12_2]); (try simp only [hl12_4]); (try simp only [hl12_5]); (with_reducible repeat (first | apply Kd.R_alloc | apply Kd.R_drewN | apply Kd.R_drew)); exact HSEEN.out⟩⟩
                                                        · replace c47 := Bool.eq_false_iff.mpr c47
                                                          subst c47
                                                          have H1 : (if (rd (rd_L1 t136 (rd x13_2 x68_4)) x77_5) < (x11_5.length : Int) then (if x14_5.length < 17592186044416 then (graph_Path.l2 k5 a2 a3 t136 (x11_5.set ((rd (rd_L1 t136 (rd x13_2 x68_4)) x77_5) : Int).toNat (rd x13_2 x68_4)) (x12_5.set ((rd (rd_L1 t136 (rd x13_2 x68_4)) x77_5) : Int).toNat true) (x14_5 ++ [rd (rd_L1 t136 (rd x13_2 x68_4)) x77_5]) (rd x13_2 x68_4) x13_2 (x13_2.length : Int) x68_4 (rd_L1 t136 (rd x13_2 x68_4)) ((rd_L1 t136 (rd x13_2 x68_4)).length : Int) (wrap64 (x77_5 + 1))) else (none)) else (none)) = some r := by rw [if_neg (show ¬ (false = true) by decide)] at H; exact H
                                                          clear H
                                                          have H := H1
                                                          clear H1
                                                          obtain ⟨y155, hy155⟩ : ∃ y_ : List Bool, y_ = (x12_5.set ((rd (rd_L1 t136 (rd x13_2 x68_4)) x77_5) : Int).toNat true) := ⟨_, rfl⟩
                                                          replace H : (if (rd (rd_L1 t136 (rd x13_2 x68_4)) x77_5) < (x11_5.length : Int) then (if x14_5.length < 17592186044416 then (graph_Path.l2 k5 a2 a3 t136 (x11_5.set ((rd (rd_L1 t136 (rd x13_2 x68_4)) x77_5) : Int).toNat (rd x13_2 x68_4)) y155 (x14_5 ++ [rd (rd_L1 t136 (rd x13_2 x68_4)) x77_5]) (rd x13_2 x68_4) x13_2 (x13_2.length : Int) x68_4 (rd_L1 t136 (rd x13_2 x68_4)) ((rd_L1 t136 (rd x13_2 x68_4)).length : Int) (wrap64 (x77_5 + 1))) else (none)) else (none)) = some r := by first | (rw [hy155]; with_reducible exact H) | (have H2_ := (Option.bind_some _ _).symm.trans H; rw [hy155]; with_reducible exact H2_) | (have H2_ := (Option.bind_some _ _).symm.trans H; with_reducible exact H2_) | with_reducible exact H | (rw [hy155]; exact H) | exact H
                                                          have Ny155 := Aside0.mk hy155
                                                          clear hy155
                                                          by_cases c49 : (rd (rd_L1 t136 (rd x13_2 x68_4)) x77_5) < (x11_5.length : Int)
                                                          · rw [if_pos c49] at H
                                                            have c49b0 : decide ((rd (rd_L1 t136 (rd x13_2 x68_4)) x77_5) < (x11_5.length : Int)) = true := decide_eq_true c49
                                                            clear c49
                                                            obtain ⟨y156, hy156⟩ : ∃ y_ : List Int, y_ = (x11_5.set ((rd (rd_L1 t136 (rd x13_2 x68_4)) x77_5) : Int).toNat (rd x13_2 x68_4)) := ⟨_, rfl⟩
                                                            replace H : (if x14_5.length < 17592186044416 then (graph_Path.l2 k5 a2 a3 t136 y156 y155 (x14_5 ++ [rd (rd_L1 t136 (rd x13_2 x68_4)) x77_5]) (rd x13_2 x68_4) x13_2 (x13_2.length : Int) x68_4 (rd_L1 t136 (rd x13_2 x68_4)) ((rd_L1 t136 (rd x13_2 x68_4)).length : Int) (wrap64 (x77_5 + 1))) else (none)) = some r := by first | (rw [hy156]; with_reducible exact H) | (have H2_ := (Option.bind_some _ _).symm.trans H; rw [hy156]; with_reducible exact H2_) | (have H2_ := (Option.bind_some _ _).symm.trans H; with_reducible exact H2_) | with_reducible exact H | (rw [hy156]; exact H) | exact H
                                                            have Ny156 := Aside0.mk hy156
                                                            clear hy156
                                                            by_cases c51 : x14_5.length < 17592186044416
                                                            · rw [if_pos c51] at H
                                                              have LMc51 := Aside0.mk c51
                                                              clear c51
                                                              obtain ⟨y157, hy157⟩ : ∃ y_ : List Int, y_ = (x14_5 ++ [rd (rd_L1 t136 (rd x13_2 x68_4)) x77_5]) := ⟨_, rfl⟩
                                                              replace H : (graph_Path.l2 k5 a2 a3 t136 y156 y155 y157 (rd x13_2 x68_4) x13_2 (x13_2.length : Int) x68_4 (rd_L1 t136 (rd x13_2 x68_4)) ((rd_L1 t136 (rd x13_2 x68_4)).length : Int) (wrap64 (x77_5 + 1))) = some r := by first | (rw [hy157]; with_reducible exact H) | (have H2_ := (Option.bind_some _ _).symm.trans H; rw [hy157]; with_reducible exact H2_) | (have H2_ := (Option.bind_some _ _).symm.trans H; with_reducible exact H2_) | with_reducible exact H | (rw [hy157]; exact H) | exact H
                                                              have Ny157 := Aside0.mk hy157
                                                              clear hy157
                                                              have H' := Aside0.mk H
                                                              clear H
                                                              have p153 : 0 ≤ (x77_5 : Int) := of_decide_eq_true (by first | (with_reducible assumption) | assumption)
                                                              have q153 : x77_5 < ((rd_L1 t136 (rd x13_2 x68_4)).length : Int) := of_decide_eq_true (by first | (with_reducible assumption) | assumption)
                                                              obtain ⟨ad153, e153, hx153_0⟩ := Kd.at_int (Kd.R_reads' HSEEN.out).2.2 x77_5 p153 q153
                                                              cases e153

                                                              replace p153 := eq_true p153
                                                              replace q153 := eq_true q153
                                                              have p154 : 0 ≤ ((rd (rd_L1 t136 (rd x13_2 x68_4)) x77_5) : Int) := of_decide_eq_true (by first | (with_reducible assumption) | assumption)
                                                              have q154 : (rd (rd_L1 t136 (rd x13_2 x68_4)) x77_5) < (x12_5.length : Int) := of_decide_eq_true (by first | (with_reducible assumption) | assumption)
                                                              obtain ⟨ad154, e154, hx154_0⟩ := Kd.at_bool (Kd.R_reads' HO_12.out).2.2 (rd (rd_L1 t136 (rd x13_2 x68_4)) x77_5) p154 q154
                                                              (try rw [← Nbq46.out] at hx154_0)
                                                              obtain rfl : (⟨go18, 0, none⟩ : Addr) = ad154 := (by injection e154)
                                                              (first | simp only [add_plain] at hx154_0 | simp only [add_at] at hx154_0 | simp only [Addr.add, Nat.zero_add] at hx154_0 | skip)
                                                              replace p154 := eq_true p154
                                                              replace q154 := eq_true q154
                                                              have p48 : 0 ≤ ((rd (rd_L1 t136 (rd x13_2 x68_4)) x77_5) : Int) := of_decide_eq_true (by first | (with_reducible assumption) | assumption)
                                                              have q48 : ((rd (rd_L1 t136 (rd x13_2 x68_4)) x77_5) : Int) < ((x12_5.length : Int) : Int) := of_decide_eq_true (by first | (with_reducible assumption) | assumption)
                                                              obtain ⟨hx48_0, hf48_0⟩ := Kd.R_celln false HO_12.out ((rd (rd_L1 t136 (rd x13_2 x68_4)) x77_5) : Int) p48 q48
                                                              replace p48 := eq_true p48
                                                              replace q48 := eq_true q48
                                                              have HP52 := Kd.R_putg HO_12.out ((rd (rd_L1 t136 (rd x13_2 x68_4)) x77_5) : Int) true
                                                              go_wp2_with (first | ((with_reducible refine gate_store (t := 4) (p := 91) rfl ?_); refine store_event (t := 4) (p := 91) (v := ?vo_w53) (w1 := (wr.setCell ⟨go18, ((rd (rd_L1 t136 (rd x13_2 x68_4)) x77_5) : Int).toNat, none⟩ (.bool true))) ?hg ?ho ?hn ?hr ?_; (case ho => rfl); (case hg => rfl); (case hn => rfl); (case hr => first | (go_simp; done) | (go_simp; rfl)); intro w53 hw; have hg : wr.grownBy w53 (some go18) := (by rw [hw]; exact HP52.2); have hp_ : Kd.R Kd.bool 4 w53 w.heap.size (fun _ => True) (.slice (some ⟨go18, 0, none⟩) x12_5.length co18) y155 := (by rw [hw, Ny155.out]; exact HP52.1); clear HP52; have n0_ := Aside0.mk (Kd.S_over' (v := (.slice (some ⟨go18, 0, none⟩) x12_5.length co18)) (by (with_reducible repeat (first | apply Kd.S_alloc | apply Kd.S_drewN | apply Kd.S_drew)); exact HO_9.out) (Kd.R_typed HO_12.out) (by decide) hg); have nS_ := Aside0.mk (Kd.R_over' (v := (.slice (some ⟨go18, 0, none⟩) x12_5.length co18)) (by (with_reducible repeat (first | apply Kd.R_alloc | apply Kd.R_drewN | apply Kd.R_drew)); exact HSEEN.out) (Kd.R_typed HO_12.out) (by decide) hg); have n1_ := Aside0.mk (Kd.R_over' (v := (.slice (some ⟨go18, 0, none⟩) x12_5.length co18)) (by (with_reducible repeat (first | apply Kd.R_alloc | apply Kd.R_drewN | apply Kd.R_drew)); exact HO_11.out) (Kd.R_typed HO_12.out) (by decide) hg); have n2_ := Aside0.mk (hp_); have n3_ := Aside0.mk (Kd.R_over' (v := (.slice (some ⟨go18, 0, none⟩) x12_5.length co18)) (by (with_reducible repeat (first | apply Kd.R_alloc | apply Kd.R_drewN | apply Kd.R_drew)); exact HO_14.out) (Kd.R_typed HO_12.out) (by decide) hg); have n4_ := Aside0.mk (Kd.R_over' (v := (.slice (some ⟨go18, 0, none⟩) x12_5.length co18)) (by (with_reducible repeat (first | apply Kd.R_alloc | apply Kd.R_drewN | apply Kd.R_drew)); exact HO_66.out) (Kd.R_typed HO_12.out) (by decide) hg); have n5_ := Aside0.mk ((by rw [hw]; exact below_set (HB.out) GB18.out : Below w.heap.size w w53)); clear HO_9; clear HO_11; clear HO_12; clear HO_14; clear HO_66; clear HB; have HO_9 := n0_; clear HSEEN; have HSEEN := nS_; clear nS_; have HO_11 := n1_; have HO_12 := n2_; have HO_14 := n3_; have HO_66 := n4_; have HB := n5_; clear n0_ n1_ n2_ n3_ n4_ n5_; clear hg hw hp_; have p50 : 0 ≤ ((rd (rd_L1 t136 (rd x13_2 x68_4)) x77_5) : Int) := of_decide_eq_true (by first | (with_reducible assumption) | assumption); have q50 : ((rd (rd_L1 t136 (rd x13_2 x68_4)) x77_5) : Int) < ((x11_5.length : Int) : Int) := of_decide_eq_true (by first | (with_reducible assumption) | assumption); obtain ⟨go50, co50, eo50, gb50, gl50, cl50, HG50⟩ := Kd.R_form HO_11.out (by omega); (first | cases eo50 | (injection eo50 with ea_ en_ ec_; (first | subst ea_ | (injection ea_ with ea_; subst ea_)); subst ec_; clear en_)); have GB50 := Aside0.mk gb50; have GG50 := Aside0.mk HG50; clear gb50 gl50 HG50; obtain ⟨hx50_0, hf50_0⟩ := Kd.R_celln 0 HO_11.out ((rd (rd_L1 t136 (rd x13_2 x68_4)) x77_5) : Int) p50 q50; replace p50 := eq_true p50; replace q50 := eq_true q50; obtain ⟨hy54_, hz54_⟩ := Kd.R_celln 0 HO_11.out ((rd (rd_L1 t136 (rd x13_2 x68_4)) x77_5) : Int) (of_decide_eq_true (by first | (with_reducible assumption) | assumption)) (of_decide_eq_true (by first | (with_reducible assumption) | assumption)); have HP54 := Kd.R_putg HO_11.out ((rd (rd_L1 t136 (rd x13_2 x68_4)) x77_5) : Int) (rd x13_2 x68_4)) | ((with_reducible refine gate_store (t := 3) (p := 92) rfl ?_); refine store_event (t := 3) (p := 92) (v := ?vo_w55) (w1 := (w53.setCell ⟨go50, ((rd (rd_L1 t136 (rd x13_2 x68_4)) x77_5) : Int).toNat, none⟩ (.int .i64 (rd x13_2 x68_4)))) ?hg ?ho ?hn ?hr ?_; (case ho => rfl); (case hg => rfl); (case hn => rfl); (case hr => first | (go_simp; done) | (go_simp; rfl)); intro w55 hw; have hg : w53.grownBy w55 (some go50) := (by rw [hw]; exact HP54.2); have hp_ : Kd.R (Kd.int .i64) 3 w55 w.heap.size (fun k_ => some k_ ≠ (u14 : Value).ownBlock ∧ some k_ ≠ (.slice (some ad151) x13_2.length co34 : Value).ownBlock) (.slice (some ⟨go50, 0, none⟩) x11_5.length co50) y156 := (by rw [hw, Ny156.out]; exact HP54.1); clear HP54; have n0_ := Aside0.mk (Kd.S_after (v := (.slice (some ⟨go50, 0, none⟩) x11_5.length co50)) (v1 := (.slice (some ⟨go50, 0, none⟩) x11_5.length co50)) (ok := (fun k_ => some k_ ≠ (u14 : Value).ownBlock ∧ some k_ ≠ (.slice (some ad151) x13_2.length co34 : Value).ownBlock)) (by (with_reducible repeat (first | apply Kd.S_alloc | apply Kd.S_drewN | apply Kd.S_drew)); exact Kd.S_mono HO_9.out (fun _ hk => ⟨⟨hk.2.1, hk.2.2⟩, hk.1⟩)) hg (.inl rfl)); have nS_ := Aside0.mk (Kd.R_after (v := (.slice (some ⟨go50, 0, none⟩) x11_5.length co50)) (v1 := (.slice (some ⟨go50, 0, none⟩) x11_5.length co50)) (ok := (fun k_ => some k_ ≠ (u14 : Value).ownBlock ∧ some k_ ≠ (.slice (some ad151) x13_2.length co34 : Value).ownBlock)) (by (with_reducible repeat (first | apply Kd.R_alloc | apply Kd.R_drewN | apply Kd.R_drew)); exact Kd.R_mono HSEEN.out (fun _ hk => ⟨⟨hk.2.1, hk.2.2⟩, hk.1⟩)) hg (.inl rfl)); have n1_ := Aside0.mk (hp_); have n2_ := Aside0.mk (Kd.R_over' (v := (.slice (some ⟨go50, 0, none⟩) x11_5.length co50)) (by (with_reducible repeat (first | apply Kd.R_alloc | apply Kd.R_drewN | apply Kd.R_drew)); exact HO_12.out) (Kd.R_typed HO_11.out) (by decide) hg); have n3_ := Aside0.mk (Kd.R_after (v := (.slice (some ⟨go50, 0, none⟩) x11_5.length co50)) (v1 := (.slice (some ⟨go50, 0, none⟩) x11_5.length co50)) (ok := (fun k_ => some k_ ≠ (.slice (some ad151) x13_2.length co34 : Value).ownBlock)) (by (with_reducible repeat (first | apply Kd.R_alloc | apply Kd.R_drewN | apply Kd.R_drew)); exact Kd.R_mono HO_14.out (fun _ hk => ⟨hk.2, hk.1⟩)) hg (.inl rfl)); have n4_ := Aside0.mk (Kd.R_after (v := (.slice (some ⟨go50, 0, none⟩) x11_5.length co50)) (v1 := (.slice (some ⟨go50, 0, none⟩) x11_5.length co50)) (ok := (fun k_ => some k_ ≠ (u14 : Value).ownBlock)) (by (with_reducible repeat (first | apply Kd.R_alloc | apply Kd.R_drewN | apply Kd.R_drew)); exact Kd.R_mono HO_66.out (fun _ hk => ⟨hk.2, hk.1⟩)) hg (.inl rfl)); have n5_ := Aside0.mk ((by rw [hw]; exact below_set (HB.out) GB50.out : Below w.heap.size w w55)); clear HO_9; clear HO_11; clear HO_12; clear HO_14; clear HO_66; clear HB; have HO_9 := n0_; clear HSEEN; have HSEEN := nS_; clear nS_; have HO_11 := n1_; have HO_12 := n2_; have HO_14 := n3_; have HO_66 := n4_; have HB := n5_; clear n0_ n1_ n2_ n3_ n4_ n5_; clear hg hw hp_) | ((with_reducible refine gate_builtin (b := .append) (xs := #[.tmp 93, .tmp 95]) rfl ?_); at_builtin; refine Kd.R_append (Kd.int .i64) (w0 := w) w.heap.size rfl (.tmp 93) (.tmp 95) 35 3 (.int .i64 0) 8 rfl Try.underlying35 info3 rfl (by decide) (by omega) u14 x14_5 (rd (rd_L1 t136 (rd x13_2 x68_4)) x77_5) [.int .i64 (rd (rd_L1 t136 (rd x13_2 x68_4)) x77_5)] (fun k_ => some k_ ≠ (.slice (some ⟨go50, 0, none⟩) x11_5.length co50 : Value).ownBlock ∧ some k_ ≠ (.slice (some ad151) x13_2.length co34 : Value).ownBlock) (fun _ => False) rfl rfl ?aP (fun _ hk => hk.elim) ?aF ?aO ?aB ?aS ?aL ?_; (case aP => exact rfl); (case aB => exact (by repeat (first | (with_reducible first | exact HB.out | apply below_alloc | apply pw_below_drewN | apply below_drew1) | exact HB.out))); (case aF => exact (fun k_ hk => ⟨Kd.fresh' (Kd.R_lt (by (with_reducible repeat (first | apply Kd.R_alloc | apply Kd.R_drewN | apply Kd.R_drew)); exact HO_11.out)) k_ hk, Kd.fresh' (Kd.R_lt (by (with_reducible repeat (first | apply Kd.R_alloc | apply Kd.R_drewN | apply Kd.R_drew)); exact HO_66.out)) k_ hk⟩)); (case aO => exact (by (with_reducible repeat (first | apply Kd.R_alloc | apply Kd.R_drewN | apply Kd.R_drew)); exact Kd.R_mono HO_14.out (fun _ hk => ⟨hk.2, hk.1⟩))); (case aS => exact (below_size (by repeat (first | (with_reducible first | exact HB.out | apply below_alloc | apply pw_below_drewN | apply below_drew1) | exact HB.out)))); (case aL => have := LMc51.out; omega); intro v158 w56 ho hb hg hat; rw [← Ny157.out] at ho; have n0_ := Aside0.mk (Kd.S_after (ok := (fun k_ => some k_ ≠ (.slice (some ⟨go50, 0, none⟩) x11_5.length co50 : Value).ownBlock ∧ some k_ ≠ (.slice (some ad151) x13_2.length co34 : Value).ownBlock)) (by (with_reducible repeat (first | apply Kd.S_alloc | apply Kd.S_drewN | apply Kd.S_drew)); exact Kd.S_mono HO_9.out (fun _ hk => ⟨⟨hk.2, hk.1.2⟩, hk.1.1⟩)) hg hat); have nS_ := Aside0.mk (Kd.R_after (ok := (fun k_ => some k_ ≠ (.slice (some ⟨go50, 0, none⟩) x11_5.length co50 : Value).ownBlock ∧ some k_ ≠ (.slice (some ad151) x13_2.length co34 : Value).ownBlock)) (by (with_reducible repeat (first | apply Kd.R_alloc | apply Kd.R_drewN | apply Kd.R_drew)); exact Kd.R_mono HSEEN.out (fun _ hk => ⟨⟨hk.2, hk.1.2⟩, hk.1.1⟩)) hg hat); have n1_ := Aside0.mk (Kd.R_after (ok := (fun k_ => some k_ ≠ (.slice (some ad151) x13_2.length co34 : Value).ownBlock)) (by (with_reducible repeat (first | apply Kd.R_alloc | apply Kd.R_drewN | apply Kd.R_drew)); exact Kd.R_mono HO_11.out (fun _ hk => ⟨hk.2, hk.1⟩)) hg hat); have n2_ := Aside0.mk (Kd.R_over' (by (with_reducible repeat (first | apply Kd.R_alloc | apply Kd.R_drewN | apply Kd.R_drew)); exact HO_12.out) (Kd.R_typed (by (with_reducible repeat (first | apply Kd.R_alloc | apply Kd.R_drewN | apply Kd.R_drew)); exact HO_14.out)) (by decide) hg); have n3_ := Aside0.mk (Kd.R_after (ok := (fun k_ => some k_ ≠ (.slice (some ⟨go50, 0, none⟩) x11_5.length co50 : Value).ownBlock)) (by (with_reducible repeat (first | apply Kd.R_alloc | apply Kd.R_drewN | apply Kd.R_drew)); exact Kd.R_mono HO_66.out (fun _ hk => ⟨hk.2, hk.1⟩)) hg hat); have n4_ := Aside0.mk (hb); have n5_ := Aside0.mk (ho); clear HO_9; clear HO_11; clear HO_12; clear HO_66; clear HB; clear HO_14; have HO_9 := n0_; clear HSEEN; have HSEEN := nS_; clear nS_; have HO_11 := n1_; have HO_12 := n2_; have HO_66 := n3_; have HB := n4_; have HO159 := n5_; clear n0_ n1_ n2_ n3_ n4_ n5_; clear ho hb hg hat))
                                                              (try simp only [← hl12_5])
                                                              go_roundg k5
                                                              case measure => have := HJ5.out; have := HK2.out; have := HJ26.out; have := HK4.out; have := HK5.out; omega
                                                              case rel => exact ⟨(y156), (y155), (y157), (wrap64 (x77_5 + 1)), (by first | rfl | (simp; done) | (simp [*]; done)), H', ⟨by have := HJ5.out; have := HK2.out; have := HJ26.out; have := HK4.out; have := HK5.out; omega⟩, ⟨by (try simp only [hl12_2]); (try simp only [hl12_4]); (try simp only [hl12_5]); (with_reducible repeat (first | apply Kd.S_alloc | apply Kd.S_drewN | apply Kd.S_drew)); exact Kd.S_mono HO_9.out (fun _ hk => ⟨hk.1.1, ⟨hk.2, hk.1.2⟩⟩)⟩, ⟨by (try simp only [hl12_2]); (try simp only [hl12_4]); (try simp only [hl12_5]); (with_reducible repeat (first | apply Kd.R_alloc | apply Kd.R_drewN | apply Kd.R_drew)); exact Kd.R_mono HO_11.out (fun _ hk => ⟨hk.2, hk.1⟩)⟩, ⟨by (try simp only [hl12_2]); (try simp only [hl12_4]); (try simp only [hl12_5]); (with_reducible repeat (first | apply Kd.R_alloc | apply Kd.R_drewN | apply Kd.R_drew)); exact HO_12.out⟩, ⟨by (try simp only [hl12_2]); (try simp only [hl12_4]); (try simp only [hl12_5]); (with_reducible repeat (first | apply Kd.R_alloc | apply Kd.R_drewN | apply Kd.R_drew)); exact HO159.out⟩, ⟨by (try simp only [hl12_2]); (try simp only [hl12_4]); (try simp only [hl12_5]); (with_reducible repeat (first | apply Kd.R_alloc | apply Kd.R_drewN | apply Kd.R_drew)); exact HO_66.out⟩, ⟨by repeat (first | (with_reducible first | exact HB.out | apply below_alloc | apply pw_below_drewN | apply below_drew1) | exact HB.out)⟩, ⟨by (try simp only [hl12_2]); (try simp only [hl12_4]); (try simp only [hl12_5]); (with_reducible repeat (first | apply Kd.R_alloc | apply Kd.R_drewN | apply Kd.R_drew)); exact Kd.R_mono HSEEN.out (fun _ hk => ⟨hk.1.1, ⟨hk.2, hk.1.2⟩⟩)⟩⟩
                                                            · rw [if_neg c51] at H
                                                              exact absurd H (by simp)
                                                          · rw [if_neg c49] at H
                                                            exact absurd H (by simp)
                                                      · rw [if_neg c45] at H
                                                        exact absurd H (by simp)
                                                    · rw [if_neg c44] at H
                                                      exact absurd H (by simp)
                                                  · rw [if_neg c43] at H
                                                    exact absurd H (by simp)
                                                · rw [if_neg c42] at H
                                                  exact absurd H (by simp)
                                              · rw [if_neg c41] at H
                                                have c41b0 : decide (x77_5 < ((rd_L1 t136 (rd x13_2 x68_4)).length : Int)) = false := decide_eq_false c41
                                                clear c41
                                                have H' := Aside0.mk H
                                                clear H
                                                go_wp2
                                                (try simp only [← hl12_4, ← hl12_5])
                                                go_roundg k5
                                                case measure => have := HJ5.out; have := HK2.out; have := HJ26.out; have := HK4.out; have := HK5.out; omega
                                                case rel => exact ⟨(x11_5), (x12_5), (x14_5), (wrap64 (x68_4 + 1)), (by first | rfl | (simp; done) | (simp [*]; done)), H', ⟨by have := HJ5.out; have := HK2.out; have := HJ26.out; have := HK4.out; have := HK5.out; omega⟩, ⟨by (try simp only [hl12_2]); (try simp only [hl12_4]); (try simp only [hl12_5]); (with_reducible repeat (first | apply Kd.S_alloc | apply Kd.S_drewN | apply Kd.S_drew)); exact HO_9.out⟩, ⟨by (try simp only [hl12_2]); (try simp only [hl12_4]); (try simp only [hl12_5]); (with_reducible repeat (first | apply Kd.R_alloc | apply Kd.R_drewN | apply Kd.R_drew)); exact HO_11.out⟩, ⟨by (try simp only [hl12_2]); (try simp only [hl12_4]); (try simp only [hl12_5]); (with_reducible repeat (first | apply Kd.R_alloc | apply Kd.R_drewN | apply Kd.R_drew)); exact HO_12.out⟩, ⟨by (try simp only [hl12_2]); (try simp only [hl12_4]); (try simp only [hl12_5]); (with_reducible repeat (first | apply Kd.R_alloc | apply Kd.R_drewN | apply Kd.R_drew)); exact HO_14.out⟩, ⟨by (try simp only [hl12_2]); (try simp only [hl12_4]); (try simp only [hl12_5]); (with_reducible repeat (first | apply Kd.R_alloc | apply Kd.R_drewN | apply Kd.R_drew)); exact HO_66.out⟩, ⟨by repeat (first | (with_reducible first | exact HB.out | apply below_alloc | apply pw_below_drewN | apply below_drew1) | exact HB.out)⟩⟩
                                        · rw [if_neg c39] at H
                                          exact absurd H (by simp)
                                      · rw [if_neg c38] at H
                                        exact absurd H (by simp)
                                    · rw [if_neg c37] at H
                                      exact absurd H (by simp)
                                  · rw [if_neg c36] at H
                                    exact absurd H (by simp)
                                · rw [if_neg c35] at H
                                  have c35b0 : decide (x68_4 < (x13_2.length : Int)) = false := decide_eq_false c35
                                  clear c35
                                  have H' := Aside0.mk H
                                  clear H
                                  go_wp2
                                  (try simp only [← hl12_2, ← hl12_4])
                                  go_roundg k4
                                  case measure => have := HJ5.out; have := HK2.out; have := HJ26.out; have := HK4.out; omega
                                  case rel => exact ⟨(x11_4), (x12_4), (x14_4), H', ⟨by have := HJ5.out; have := HK2.out; have := HJ26.out; have := HK4.out; omega⟩, ⟨by (try simp only [hl12_2]); (try simp only [hl12_4]); (with_reducible repeat (first | apply Kd.S_alloc | apply Kd.S_drewN | apply Kd.S_drew)); exact Kd.S_mono HO_9.out (fun _ hk => ⟨hk.1, hk.2.1⟩)⟩, ⟨by (try simp only [hl12_2]); (try simp only [hl12_4]); (with_reducible repeat (first | apply Kd.R_alloc | apply Kd.R_drewN | apply Kd.R_drew)); exact Kd.R_mono HO_11.out (fun _ hk => hk.1)⟩, ⟨by (try simp only [hl12_2]); (try simp only [hl12_4]); (with_reducible repeat (first | apply Kd.R_alloc | apply Kd.R_drewN | apply Kd.R_drew)); exact HO_12.out⟩, ⟨by (try simp only [hl12_2]); (try simp only [hl12_4]); (with_reducible repeat (first | apply Kd.R_alloc | apply Kd.R_drewN | apply Kd.R_drew)); exact Kd.R_mono HO_14.out (fun _ hk => hk.1)⟩, ⟨by repeat (first | (with_reducible first | exact HB.out | apply below_alloc | apply pw_below_drewN | apply below_drew1) | exact HB.out)⟩⟩
                          · replace c33 := Bool.eq_false_iff.mpr c33
                            subst c33
                            have H1 : (if 0 ≤ a3 then (if a3 < (x12_2.length : Int) then (if rdOf false x12_2 a3 = true then (graph_Path.l3 kj26 a2 x11_2 (([a3] : List Int)) a3) else (some ([] : List Int))) else (none)) else (none)) = some r := by rw [if_neg (show ¬ (false = true) by decide)] at H; exact H
                            clear H
                            have H := H1
                            clear H1
                            by_cases c57 : 0 ≤ a3
                            · rw [if_pos c57] at H
                              have c57b0 : decide (0 ≤ a3) = true := decide_eq_true c57
                              clear c57
                              by_cases c58 : a3 < (x12_2.length : Int)
                              · rw [if_pos c58] at H
                                have c58b0 : decide (a3 < (x12_2.length : Int)) = true := decide_eq_true c58
                                clear c58
                                obtain ⟨bq59, hbq59⟩ : ∃ b_ : Bool, b_ = (rdOf false x12_2 a3) := ⟨_, rfl⟩
                                replace H : (if bq59 = true then (graph_Path.l3 kj26 a2 x11_2 (([a3] : List Int)) a3) else (some ([] : List Int))) = some r := by rw [← hbq59] at H; exact H
                                have Nbq59 := Aside0.mk hbq59
                                clear hbq59
                                by_cases c60 : bq59 = true
                                · subst c60
                                  have H1 : (graph_Path.l3 kj26 a2 x11_2 (([a3] : List Int)) a3) = some r := by rw [if_pos rfl] at H; exact H
                                  clear H
                                  have H := H1
                                  clear H1
                                  obtain ⟨y161, hy161⟩ : ∃ y_ : List Int, y_ = (([a3] : List Int)) := ⟨_, rfl⟩
                                  replace H : (graph_Path.l3 kj26 a2 x11_2 y161 a3) = some r := by first | (rw [hy161]; with_reducible exact H) | (have H2_ := (Option.bind_some _ _).symm.trans H; rw [hy161]; with_reducible exact H2_) | (have H2_ := (Option.bind_some _ _).symm.trans H; with_reducible exact H2_) | with_reducible exact H | (rw [hy161]; exact H) | exact H
                                  have Ny161 := Aside0.mk hy161
                                  clear hy161
                                  have H' := Aside0.mk H
                                  clear H
                                  have p160 : 0 ≤ (a3 : Int) := of_decide_eq_true (by first | (with_reducible assumption) | assumption)
                                  have q160 : a3 < (x12_2.length : Int) := of_decide_eq_true (by first | (with_reducible assumption) | assumption)
                                  obtain ⟨ad160, e160, hx160_0⟩ := Kd.at_bool (Kd.R_reads' HO_12.out).2.2 a3 p160 q160
                                  (try rw [← Nbq59.out] at hx160_0)
                                  obtain rfl : (⟨go18, 0, none⟩ : Addr) = ad160 := (by injection e160)
                                  (first | simp only [add_plain] at hx160_0 | simp only [add_at] at hx160_0 | simp only [Addr.add, Nat.zero_add] at hx160_0 | skip)
                                  replace p160 := eq_true p160
                                  replace q160 := eq_true q160
                                  go_wp2_with (first | ((with_reducible refine gate_dst (N := 106) rfl ?_); refine Kd.R_lit (Kd.int .i64) _ 3 ?hg (N := 106) ?hd (xs := ([a3] : List Int)) (inner := [.int .i64 a3]) (ok := fun _ => True) (okp := fun _ => True) ?hr ?hp (fun _ hk => hk) trivial (Below.refl _ _) (Nat.le_refl _) (by simp) ?_; (case hd => rfl); (case hg => rfl); (case hr => first | (go_simp; done) | (go_simp; rfl)); (case hp => exact (Reps.one (show Kd.M (Kd.int .i64) _ _ _ a3 [.int .i64 a3] from rfl) (Reps.none _ _))); intro v162 w61 ho62 hb hg_ hnew_; clear hg_ hnew_; (first | rw [← Ny161.out] at ho62 | (simp only [Int.reduceToNat] at ho62; rw [← Ny161.out] at ho62)); have n0_ := Aside0.mk (Kd.S_elder' (by (with_reducible repeat (first | apply Kd.S_alloc | apply Kd.S_drewN | apply Kd.S_drew)); exact HO_9.out) (Kd.R_base ho62) hb); have n1_ := Aside0.mk (Kd.R_elder' (by (with_reducible repeat (first | apply Kd.R_alloc | apply Kd.R_drewN | apply Kd.R_drew)); exact HO_11.out) (Kd.R_base ho62) hb); have n2_ := Aside0.mk (Kd.R_below (by (with_reducible repeat (first | apply Kd.R_alloc | apply Kd.R_drewN | apply Kd.R_drew)); exact HO_12.out) hb); have n3_ := Aside0.mk (Kd.R_elder' (by (with_reducible repeat (first | apply Kd.R_alloc | apply Kd.R_drewN | apply Kd.R_drew)); exact HO_13.out) (Kd.R_base ho62) hb); have n4_ := Aside0.mk (Kd.R_lower (Kd.R_new' (Kd.R_new' ho62 (Kd.R_lt (by (with_reducible repeat (first | apply Kd.R_alloc | apply Kd.R_drewN | apply Kd.R_drew)); exact HO_11.out))) (Kd.R_lt (by (with_reducible repeat (first | apply Kd.R_alloc | apply Kd.R_drewN | apply Kd.R_drew)); exact HO_13.out))) (below_size (by repeat (first | (with_reducible first | exact HB.out | apply below_alloc | apply pw_below_drewN | apply below_drew1) | exact HB.out)))); have n5_ := Aside0.mk (below_step (by repeat (first | (with_reducible first | exact HB.out | apply below_alloc | apply pw_below_drewN | apply below_drew1) | exact HB.out)) hb); clear HO_9; clear HO_11; clear HO_12; clear HO_13; clear HB; have HO_9 := n0_; have HO_11 := n1_; have HO_12 := n2_; have HO_13 := n3_; have HO163 := n4_; have HB := n5_; clear n0_ n1_ n2_ n3_ n4_ n5_; clear hb ho62))
                                  go_loopg [19, 20] kj26 (fun kq v19 v20 w' => ∃ (x19_4 : List Int) (x20_4 : Int), v20 = .int .i64 x20_4 ∧ Aside0 (graph_Path.l3 kq a2 x11_2 x19_4 x20_4 = some r) ∧ Aside0 (kq ≤ kj26) ∧ Aside0 (Kd.R (Kd.int .i64) 3 w' w.heap.size (fun k_ => some k_ ≠ (v19 : Value).ownBlock) v141 x11_2) ∧ Aside0 (Kd.R (Kd.int .i64) 3 w' w.heap.size (fun k_ => some k_ ≠ (v141 : Value).ownBlock) v19 x19_4) ∧ Aside0 (Below w.heap.size w w'))
                                  case atStart => exact ⟨(y161), (a3), (by first | rfl | (simp; done) | (simp [*]; done)), H', ⟨Nat.le_refl _⟩, ⟨by (try simp only [hl12_2]); (with_reducible repeat (first | apply Kd.R_alloc | apply Kd.R_drewN | apply Kd.R_drew)); exact Kd.R_mono HO_11.out (fun _ hk => hk.2)⟩, ⟨by (try simp only [hl12_2]); (with_reducible repeat (first | apply Kd.R_alloc | apply Kd.R_drewN | apply Kd.R_drew)); exact Kd.R_mono HO163.out (fun _ hk => hk.1.2)⟩, ⟨by repeat (first | (with_reducible first | exact HB.out | apply below_alloc | apply pw_below_drewN | apply below_drew1) | exact HB.out)⟩⟩
                                  case round =>
                                    clear H'
                                    try clear c1
                                    try clear p1
                                    try clear q1
                                    try clear hx1
                                    try clear c2
                                    try clear p2
                                    try clear c3
                                    try clear c4
                                    try clear p4
                                    try clear q4
                                    try clear hx4
                                    try clear hf4
                                    try clear c5
                                    try clear p5
                                    try clear q5
                                    try clear hx5
                                    try clear hf5
                                    try clear c6
                                    try clear p6
                                    try clear c8
                                    try clear c9
                                    try clear c9b0
                                    try clear c10
                                    try clear c10b0
                                    try clear c11
                                    try clear c11b0
                                    try clear c12
                                    try clear c13
                                    try clear c13b0
                                    try clear c13b1
                                    try clear c14
                                    try clear c14b0
                                    try clear c14b1
                                    try clear c15
                                    try clear c15b0
                                    try clear c15b1
                                    try clear p15
                                    try clear q15
                                    try clear hx15
                                    try clear c16
                                    try clear c16b0
                                    try clear p16
                                    try clear q16
                                    try clear hx16
                                    try clear c17
                                    try clear c17b0
                                    try clear p18
                                    try clear q18
                                    try clear hx18
                                    try clear hf18
                                    try clear c20
                                    try clear c28
                                    try clear c28b0
                                    try clear c28b1
                                    try clear c29
                                    try clear c29b0
                                    try clear c30
                                    try clear c30b0
                                    try clear c33
                                    try clear c35
                                    try clear c35b0
                                    try clear c36
                                    try clear c36b0
                                    try clear c37
                                    try clear c37b0
                                    try clear c38
                                    try clear c38b0
                                    try clear c39
                                    try clear c39b0
                                    try clear c41
                                    try clear c41b0
                                    try clear c42
                                    try clear c42b0
                                    try clear c43
                                    try clear c43b0
                                    try clear c44
                                    try clear c44b0
                                    try clear c45
                                    try clear c45b0
                                    try clear q46
                                    try clear c47
                                    try clear p48
                                    try clear q48
                                    try clear hx48
                                    try clear hf48
                                    try clear c49
                                    try clear c49b0
                                    try clear p50
                                    try clear q50
                                    try clear hx50
                                    try clear hf50
                                    try clear c51
                                    try clear c57
                                    try clear c57b0
                                    try clear c58
                                    try clear c58b0
                                    try clear q59
                                    try clear c60
                                    try clear hx150_0
                                    try clear hx151_0
                                    try clear hx152_0
                                    try clear hx153_0
                                    try clear hx154_0
                                    try clear hx160_0
                                    try clear hx18_0
                                    try clear hx48_0
                                    try clear hx50_0
                                    try clear p1
                                    try clear p15
                                    try clear p150
                                    try clear p151
                                    try clear p152
                                    try clear p153
                                    try clear p154
                                    try clear p160
                                    try clear p18
                                    try clear p2
                                    try clear p48
                                    try clear p50
                                    try clear q1
                                    try clear q15
                                    try clear q150
                                    try clear q151
                                    try clear q152
                                    try clear q153
                                    try clear q154
                                    try clear q160
                                    try clear q18
                                    try clear q48
                                    try clear q50
                                    obtain ⟨x19_4, x20_4, rfl, HA, HK4, HO_11, HO_19, HB⟩ := hrel
                                    cases gk with
                                    | zero => exact absurd HA.out (by simp [graph_Path.l3])
                                    | succ k4 =>
                                      have H := HA.out
                                      clear HA
                                      simp only [graph_Path.l3] at H
                                      by_cases c63 : x20_4 = a2
                                      · rw [if_pos c63] at H
                                        have c63b0 : (x20_4 == a2) = true := beq_iff_eq.mpr c63
                                        have c63b1 : (x20_4 != a2) = false := bne_eq_false_iff_eq.mpr c63
                                        clear c63
                                        replace H := Option.bind_eq_some_iff.mp H
                                        obtain ⟨t164, A640, H⟩ := H
                                        replace H : (some t164) = some r := H
                                        have A64 := Aside0.mk A640
                                        clear A640
                                        obtain rfl := Option.some.inj H
                                        obtain ⟨Ao65, co65, eo65⟩ := Kd.R_slice HO_19.out
                                        subst eo65
                                        go_wp2_with (first | ((with_reducible refine gate_callee (f := 48) rfl ?_); refine goesL_ (some 123) rfl rfl Try.func48 (by kernel_rfl) rfl #[.slice Ao65 x19_4.length co65] rfl (by (try simp only [List.map_toArray, List.map_cons, List.map_nil]); first | done | rfl | (simp only [List.length_drop, List.length_take]; rfl)) ?_; (with_reducible refine (slices_Reverse_int_int.calls (fun k_ => some k_ = (.slice Ao65 x19_4.length co65 : Value).ownBlock) (.slice Ao65 x19_4.length co65) x19_4 t164 w _ ?side1 ?side2 A64.out).mono ?_); (case side1 => repeat (first | (with_reducible first | exact HB.out | apply below_alloc | apply pw_below_drewN | apply below_drew1) | exact HB.out)); (case side2 => exact Kd.R_tight rfl HO_19.out); rintro e w66 ⟨rfl, hy0, hb, hkp⟩; refine ⟨_, rfl, ?_⟩; have n0_ := Aside0.mk (Kd.R_mono (ok' := fun k_ => some k_ ≠ (.slice Ao65 x19_4.length co65 : Value).ownBlock) (Kd.R_keptB (HO_11.out) hkp (fun k_ hk_ hs_ => (hk_) hs_)) (fun k_ hk_ => hk_.1)); have n1_ := Aside0.mk (Kd.R_reok rfl hy0 (fun k_ e_ => HO_19.out.1 k_ e_)); have n2_ := Aside0.mk (hb); clear HO_11; clear HO_19; clear HB; have HO_11 := n0_; have HO_19 := n1_; have HB := n2_; clear n0_ n1_ n2_; (try clear hb); (try clear hkp); (try clear hy0)))
                                        go_ret
                                        exact ⟨_, by first | rfl | (simp [errW_none, errW_some] <;> rfl) | (simp [*, errW_none, errW_some] <;> rfl), by (with_reducible repeat (first | apply Kd.R_alloc | apply Kd.R_drewN | apply Kd.R_drew)); exact Kd.R_mono HO_19.out (fun _ hk => trivial), by repeat (first | (with_reducible first | exact HB.out | apply below_alloc | apply pw_below_drewN | apply below_drew1) | exact HB.out)⟩
                                      · rw [if_neg c63] at H
                                        have c63b0 : (x20_4 == a2) = false := beq_eq_false_iff_ne.mpr c63
                                        have c63b1 : (x20_4 != a2) = true := bne_iff_ne.mpr c63
                                        by_cases c67 : 0 ≤ x20_4
                                        · rw [if_pos c67] at H
                                          have c67b0 : decide (0 ≤ x20_4) = true := decide_eq_true c67
                                          clear c67
                                          by_cases c68 : x20_4 < (x11_2.length : Int)
                                          · rw [if_pos c68] at H
                                            have c68b0 : decide (x20_4 < (x11_2.length : Int)) = true := decide_eq_true c68
                                            clear c68
                                            by_cases c69 : x19_4.length < 17592186044416
                                            · rw [if_pos c69] at H
                                              have LMc69 := Aside0.mk c69
                                              clear c69
                                              obtain ⟨y166, hy166⟩ : ∃ y_ : List Int, y_ = (x19_4 ++ [rd x11_2 x20_4]) := ⟨_, rfl⟩
                                              replace H : (graph_Path.l3 k4 a2 x11_2 y166 (rd x11_2 x20_4)) = some r := by first | (rw [hy166]; with_reducible exact H) | (have H2_ := (Option.bind_some _ _).symm.trans H; rw [hy166]; with_reducible exact H2_) | (have H2_ := (Option.bind_some _ _).symm.trans H; with_reducible exact H2_) | with_reducible exact H | (rw [hy166]; exact H) | exact H
                                              have Ny166 := Aside0.mk hy166
                                              clear hy166
                                              have H' := Aside0.mk H
                                              clear H
                                              obtain ⟨Ao70, co70, eo70⟩ := Kd.R_slice HO_11.out
                                              subst eo70
                                              have p165 : 0 ≤ (x20_4 : Int) := of_decide_eq_true (by first | (with_reducible assumption) | assumption)
                                              have q165 : x20_4 < (x11_2.length : Int) := of_decide_eq_true (by first | (with_reducible assumption) | assumption)
                                              obtain ⟨ad165, e165, hx165_0⟩ := Kd.at_int (Kd.R_reads' HO_11.out).2.2 x20_4 p165 q165
                                              cases e165
                                              replace p165 := eq_true p165
                                              replace q165 := eq_true q165
                                              go_wp2_with (first | ((with_reducible refine gate_builtin (b := .append) (xs := #[.tmp 115, .tmp 120]) rfl ?_); at_builtin; refine Kd.R_append (Kd.int .i64) (w0 := w) w.heap.size rfl (.tmp 115) (.tmp 120) 35 3 (.int .i64 0) 8 rfl Try.underlying35 info3 rfl (by decide) (by omega) u19 x19_4 (rd x11_2 x20_4) [.int .i64 (rd x11_2 x20_4)] (fun k_ => some k_ ≠ (.slice (some ad165) x11_2.length co70 : Value).ownBlock) (fun _ => False) rfl rfl ?aP (fun _ hk => hk.elim) ?aF ?aO ?aB ?aS ?aL ?_; (case aP => exact rfl); (case aB => exact (by repeat (first | (with_reducible first | exact HB.out | apply below_alloc | apply pw_below_drewN | apply below_drew1) | exact HB.out))); (case aF => exact (fun k_ hk => Kd.fresh' (Kd.R_lt (by (with_reducible repeat (first | apply Kd.R_alloc | apply Kd.R_drewN | apply Kd.R_drew)); exact HO_11.out)) k_ hk)); (case aO => exact (by (with_reducible repeat (first | apply Kd.R_alloc | apply Kd.R_drewN | apply Kd.R_drew)); exact HO_19.out)); (case aS => exact (below_size (by repeat (first | (with_reducible first | exact HB.out | apply below_alloc | apply pw_below_drewN | apply below_drew1) | exact HB.out)))); (case aL => have := LMc69.out; omega); intro v167 w71 ho hb hg hat; rw [← Ny166.out] at ho; have n0_ := Aside0.mk (Kd.R_after (ok := (fun _ => True)) (by (with_reducible repeat (first | apply Kd.R_alloc | apply Kd.R_drewN | apply Kd.R_drew)); exact Kd.R_mono HO_11.out (fun _ hk => ⟨trivial, hk⟩)) hg hat); have n1_ := Aside0.mk (hb); have n2_ := Aside0.mk (ho); clear HO_11; clear HB; clear HO_19; have HO_11 := n0_; have HB := n1_; have HO168 := n2_; clear n0_ n1_ n2_; clear ho hb hg hat; have p169 : 0 ≤ (x20_4 : Int) := of_decide_eq_true (by first | (with_reducible assumption) | assumption); have q169 : x20_4 < (x11_2.length : Int) := of_decide_eq_true (by first | (with_reducible assumption) | assumption); obtain ⟨ad169, e169, hx169_0⟩ := Kd.at_int (Kd.R_reads' HO_11.out).2.2 x20_4 p169 q169; obtain rfl : ad165 = ad169 := (by injection e169); replace p169 := eq_true p169; replace q169 := eq_true q169))
                                              go_roundg k4
                                              case measure => have := HJ5.out; have := HK2.out; have := HJ26.out; have := HK4.out; omega
                                              case rel => exact ⟨(y166), (rd x11_2 x20_4), (by first | rfl | (simp; done) | (simp [*]; done)), H', ⟨by have := HJ5.out; have := HK2.out; have := HJ26.out; have := HK4.out; omega⟩, ⟨by (try simp only [hl12_2]); (with_reducible repeat (first | apply Kd.R_alloc | apply Kd.R_drewN | apply Kd.R_drew)); exact Kd.R_mono HO_11.out (fun _ hk => hk.2)⟩, ⟨by (try simp only [hl12_2]); (with_reducible repeat (first | apply Kd.R_alloc | apply Kd.R_drewN | apply Kd.R_drew)); exact HO168.out⟩, ⟨by repeat (first | (with_reducible first | exact HB.out | apply below_alloc | apply pw_below_drewN | apply below_drew1) | exact HB.out)⟩⟩
                                            · rw [if_neg c69] at H
                                              exact absurd H (by simp)
                                          · rw [if_neg c68] at H
                                            exact absurd H (by simp)
                                        · rw [if_neg c67] at H
                                          exact absurd H (by simp)
                                · replace c60 := Bool.eq_false_iff.mpr c60
                                  subst c60
                                  have H1 : (some ([] : List Int)) = some r := by rw [if_neg (show ¬ (false = true) by decide)] at H; exact H
                                  clear H
                                  have H := H1
                                  clear H1
                                  obtain rfl := Option.some.inj H
                                  have p160 : 0 ≤ (a3 : Int) := of_decide_eq_true (by first | (with_reducible assumption) | assumption)
                                  have q160 : a3 < (x12_2.length : Int) := of_decide_eq_true (by first | (with_reducible assumption) | assumption)
                                  obtain ⟨ad160, e160, hx160_0⟩ := Kd.at_bool (Kd.R_reads' HO_12.out).2.2 a3 p160 q160
                                  (try rw [← Nbq59.out] at hx160_0)
                                  obtain rfl : (⟨go18, 0, none⟩ : Addr) = ad160 := (by injection e160)
                                  (first | simp only [add_plain] at hx160_0 | simp only [add_at] at hx160_0 | simp only [Addr.add, Nat.zero_add] at hx160_0 | skip)
                                  replace p160 := eq_true p160
                                  replace q160 := eq_true q160
                                  go_wp2
                                  go_ret
                                  exact ⟨_, by first | rfl | (simp [errW_none, errW_some] <;> rfl) | (simp [*, errW_none, errW_some] <;> rfl), by first | exact Kd.R_nil _ _ _ _ _ | exact Kd.N_nil _ _ _ _ _ | exact Kd.V_nil _ _ _ _ _ | exact Kd.Q_nil _ _ _ _ _ | exact Kd.S_nil _ _ _ _ _, by repeat (first | (with_reducible first | exact HB.out | apply below_alloc | apply pw_below_drewN | apply below_drew1) | exact HB.out)⟩
                              · rw [if_neg c58] at H
                                exact absurd H (by simp)
                            · rw [if_neg c57] at H
                              exact absurd H (by simp)
                · rw [if_neg c17] at H
                  exact absurd H (by simp)
              · rw [if_neg c16] at H
                exact absurd H (by simp)
            · rw [if_neg c15] at H
              exact absurd H (by simp)
          · rw [if_neg c14] at H
            exact absurd H (by simp)
        · rw [if_neg c13] at H
          exact absurd H (by simp)

end Go.Proofs.Ytngmdccheaidkaa.Pr
