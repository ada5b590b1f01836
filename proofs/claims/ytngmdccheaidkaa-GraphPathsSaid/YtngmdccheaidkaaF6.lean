-- printed by this session's own turn of print (wip/tools/mkprint.py)
import Derived.Test.YtngmdccheaidkaaF
import Derived.Test.YtngmdccheaidkaaF14
import Derived.Test.YtngmdccheaidkaaF15
import Derived.Test.YtngmdccheaidkaaF20
import Derived.Test.YtngmdccheaidkaaF22
import Derived.Test.YtngmdccheaidkaaF26
namespace Go.Proofs.Ytngmdccheaidkaa.Pr
open Go.RowKit Go.Proofs.YtngmdccheaidkaaW.PrintWords Go.Proofs.YtngmdccheaidkaaW.PrintLast Go.Proofs.YtngmdccheaidkaaW.PrintMore
attribute [local go_sem] max2_int min2_int max_two min_two max_three min_three max_four min_four   -- for this text's walks alone
set_option linter.unusedVariables false
set_option linter.unusedSimpArgs false

/-! ### lambrequinlaw10_GraphPaths: function 6 -/
mutual
def lambrequinlaw10_GraphPaths.j0 : Nat → Bool → Int → List (S27) → Int → Int → List Int → Bool → Option (Bool)
  | 0, _, _, _, _, _, _, _ => none
  | k + 1, x9, x10, x11, x12, x13, x14, x57 => if x57 = true then (some false) else (if (x14.length : Int) = 0 then (some x9) else (lambrequinlaw10_GraphPaths.l0 k x9 x10 x11 x12 x13 x14 1))
def lambrequinlaw10_GraphPaths.l0 : Nat → Bool → Int → List (S27) → Int → Int → List Int → Int → Option (Bool)
  | 0, _, _, _, _, _, _, _ => none
  | k + 1, x9, x10, x11, x12, x13, x14, x16 => if x16 < (x14.length : Int) then (lambrequinlaw10_GraphPaths.l1 k x9 x10 x11 x12 x13 x14 x16 false 0) else (if x9 = true then (if 0 < (x14.length : Int) then (if (rd x14 0) = x12 then (if 0 ≤ (wrap64 ((x14.length : Int) - 1)) then (if (wrap64 ((x14.length : Int) - 1)) < (x14.length : Int) then (if (rd x14 (wrap64 ((x14.length : Int) - 1))) = x13 then ((lambrequinref10_Steps.f k x10 x11 x12).bind fun t466 => (if 0 ≤ x13 then (if x13 < (t466.length : Int) then (some ((wrap64 ((x14.length : Int) - 1)) == (rd t466 x13))) else (none)) else (none))) else (some false)) else (none)) else (none)) else (some false)) else (none)) else (some false))
def lambrequinlaw10_GraphPaths.l1 : Nat → Bool → Int → List (S27) → Int → Int → List Int → Int → Bool → Int → Option (Bool)
  | 0, _, _, _, _, _, _, _, _, _ => none
  | k + 1, x9, x10, x11, x12, x13, x14, x16, x17, x18 => if x18 < (x11.length : Int) then (if x17 = true then (lambrequinlaw10_GraphPaths.l1 k x9 x10 x11 x12 x13 x14 x16 true (wrap64 (x18 + 1))) else (if 0 ≤ x18 then (if 0 ≤ (wrap64 (x16 - 1)) then (if (wrap64 (x16 - 1)) < (x14.length : Int) then (if ((rd_T27 x11 x18).f0) = (rd x14 (wrap64 (x16 - 1))) then (if 0 ≤ x16 then (if x16 < (x14.length : Int) then (lambrequinlaw10_GraphPaths.l1 k x9 x10 x11 x12 x13 x14 x16 (((rd_T27 x11 x18).f1) == (rd x14 x16)) (wrap64 (x18 + 1))) else (none)) else (none)) else (lambrequinlaw10_GraphPaths.l1 k x9 x10 x11 x12 x13 x14 x16 false (wrap64 (x18 + 1)))) else (none)) else (none)) else (none))) else (if x17 = true then (lambrequinlaw10_GraphPaths.l2 k x9 x10 x11 x12 x13 x14 x16 0) else (some false))
def lambrequinlaw10_GraphPaths.l2 : Nat → Bool → Int → List (S27) → Int → Int → List Int → Int → Int → Option (Bool)
  | 0, _, _, _, _, _, _, _, _ => none
  | k + 1, x9, x10, x11, x12, x13, x14, x16, x19 => if x19 < x16 then (if 0 ≤ x16 then (if x16 < (x14.length : Int) then (if 0 ≤ x19 then (if x19 < (x14.length : Int) then (if (rd x14 x16) = (rd x14 x19) then (some false) else (lambrequinlaw10_GraphPaths.l2 k x9 x10 x11 x12 x13 x14 x16 (wrap64 (x19 + 1)))) else (none)) else (none)) else (none)) else (none)) else (lambrequinlaw10_GraphPaths.l0 k x9 x10 x11 x12 x13 x14 (wrap64 (x16 + 1)))
end
def lambrequinlaw10_GraphPaths.f (k : Nat) (a0 : Int) (l1 : List (S45)) (a2 : Int) (a3 : Int) : Option (Bool) := (lambrequinlaw10_shown.f k).bind fun t452 => ((lambrequinlaw10_ends.f k a0 l1).bind fun bt453 => (if bt453.1 = 0 then (none) else ((graph_Path.f k bt453.1 bt453.2 (Int.tmod (wrap64 (a2)) bt453.1) (Int.tmod (wrap64 (a3)) bt453.1)).bind fun t457 => ((graph_Reach.f k bt453.1 bt453.2 (Int.tmod (wrap64 (a2)) bt453.1)).bind fun t460 => (if (t460.length : Int) = bt453.1 then (if 0 ≤ (Int.tmod (wrap64 (a3)) bt453.1) then (if (Int.tmod (wrap64 (a3)) bt453.1) < (t460.length : Int) then (lambrequinlaw10_GraphPaths.j0 k t452 bt453.1 bt453.2 (Int.tmod (wrap64 (a2)) bt453.1) (Int.tmod (wrap64 (a3)) bt453.1) t457 ((decide ((t457.length : Int) > 0)) != (rdOf false t460 (Int.tmod (wrap64 (a3)) bt453.1)))) else (none)) else (none)) else (lambrequinlaw10_GraphPaths.j0 k t452 bt453.1 bt453.2 (Int.tmod (wrap64 (a2)) bt453.1) (Int.tmod (wrap64 (a3)) bt453.1) t457 true))))))
theorem lambrequinlaw10_GraphPaths.mono_l : ∀ k, (∀ y0 y1 y2 y3 y4 y5 y6, LeO (lambrequinlaw10_GraphPaths.j0 k y0 y1 y2 y3 y4 y5 y6) (lambrequinlaw10_GraphPaths.j0 (k + 1) y0 y1 y2 y3 y4 y5 y6)) ∧ (∀ y0 y1 y2 y3 y4 y5 y6, LeO (lambrequinlaw10_GraphPaths.l0 k y0 y1 y2 y3 y4 y5 y6) (lambrequinlaw10_GraphPaths.l0 (k + 1) y0 y1 y2 y3 y4 y5 y6)) ∧ (∀ y0 y1 y2 y3 y4 y5 y6 y7 y8, LeO (lambrequinlaw10_GraphPaths.l1 k y0 y1 y2 y3 y4 y5 y6 y7 y8) (lambrequinlaw10_GraphPaths.l1 (k + 1) y0 y1 y2 y3 y4 y5 y6 y7 y8)) ∧ (∀ y0 y1 y2 y3 y4 y5 y6 y7, LeO (lambrequinlaw10_GraphPaths.l2 k y0 y1 y2 y3 y4 y5 y6 y7) (lambrequinlaw10_GraphPaths.l2 (k + 1) y0 y1 y2 y3 y4 y5 y6 y7))
  | 0 => ⟨fun _ _ _ _ _ _ _ r h => by simp [lambrequinlaw10_GraphPaths.j0] at h, fun _ _ _ _ _ _ _ r h => by simp [lambrequinlaw10_GraphPaths.l0] at h, fun _ _ _ _ _ _ _ _ _ r h => by simp [lambrequinlaw10_GraphPaths.l1] at h, fun _ _ _ _ _ _ _ _ r h => by simp [lambrequinlaw10_GraphPaths.l2] at h⟩
  | k + 1 => by
    obtain ⟨ih0, ih1, ih2, ih3⟩ := lambrequinlaw10_GraphPaths.mono_l k
    refine ⟨?_, ?_, ?_, ?_⟩
    · intro y0 y1 y2 y3 y4 y5 y6
      unfold lambrequinlaw10_GraphPaths.j0
      repeat' first
      | (with_reducible exact ih0 _ _ _ _ _ _ _)
      | (with_reducible exact ih1 _ _ _ _ _ _ _)
      | (with_reducible exact ih2 _ _ _ _ _ _ _ _ _)
      | (with_reducible exact ih3 _ _ _ _ _ _ _ _)
      | (with_reducible exact graph_Path.mono _ _ _ _ _)
      | (with_reducible exact graph_Reach.mono _ _ _ _)
      | (with_reducible exact lambrequinlaw10_ends.mono _ _ _)
      | (with_reducible exact lambrequinlaw10_shown.mono _)
      | (with_reducible exact lambrequinref10_Steps.mono _ _ _ _)
      | (with_reducible exact LeO.refl _)
      | (with_reducible exact LeO.none _)
      | (with_reducible refine LeO.ite ?_ ?_)
      | (with_reducible refine LeO.bind ?_ (fun _ => ?_))
      | exact ih0 _ _ _ _ _ _ _
      | exact ih1 _ _ _ _ _ _ _
      | exact ih2 _ _ _ _ _ _ _ _ _
      | exact ih3 _ _ _ _ _ _ _ _
      | exact graph_Path.mono _ _ _ _ _
      | exact graph_Reach.mono _ _ _ _
      | exact lambrequinlaw10_ends.mono _ _ _
      | exact lambrequinlaw10_shown.mono _
      | exact lambrequinref10_Steps.mono _ _ _ _
      | exact LeO.none _
      | refine LeO.ite ?_ ?_
      | refine LeO.bind ?_ (fun _ => ?_)
    · intro y0 y1 y2 y3 y4 y5 y6
      unfold lambrequinlaw10_GraphPaths.l0
      repeat' first
      | (with_reducible exact ih0 _ _ _ _ _ _ _)
      | (with_reducible exact ih1 _ _ _ _ _ _ _)
      | (with_reducible exact ih2 _ _ _ _ _ _ _ _ _)
      | (with_reducible exact ih3 _ _ _ _ _ _ _ _)
      | (with_reducible exact graph_Path.mono _ _ _ _ _)
      | (with_reducible exact graph_Reach.mono _ _ _ _)
      | (with_reducible exact lambrequinlaw10_ends.mono _ _ _)
      | (with_reducible exact lambrequinlaw10_shown.mono _)
      | (with_reducible exact lambrequinref10_Steps.mono _ _ _ _)
      | (with_reducible exact LeO.refl _)
      | (with_reducible exact LeO.none _)
      | (with_reducible refine LeO.ite ?_ ?_)
      | (with_reducible refine LeO.bind ?_ (fun _ => ?_))
      | exact ih0 _ _ _ _ _ _ _
      | exact ih1 _ _ _ _ _ _ _
      | exact ih2 _ _ _ _ _ _ _ _ _
      | exact ih3 _ _ _ _ _ _ _ _
      | exact graph_Path.mono _ _ _ _ _
      | exact graph_Reach.mono _ _ _ _
      | exact lambrequinlaw10_ends.mono _ _ _
      | exact lambrequinlaw10_shown.mono _
      | exact lambrequinref10_Steps.mono _ _ _ _
      | exact LeO.none _
      | refine LeO.ite ?_ ?_
      | refine LeO.bind ?_ (fun _ => ?_)
    · intro y0 y1 y2 y3 y4 y5 y6 y7 y8
      unfold lambrequinlaw10_GraphPaths.l1
      repeat' first
      | (with_reducible exact ih0 _ _ _ _ _ _ _)
      | (with_reducible exact ih1 _ _ _ _ _ _ _)
      | (with_reducible exact ih2 _ _ _ _ _ _ _ _ _)
      | (with_reducible exact ih3 _ _ _ _ _ _ _ _)
      | (with_reducible exact graph_Path.mono _ _ _ _ _)
      | (with_reducible exact graph_Reach.mono _ _ _ _)
      | (with_reducible exact lambrequinlaw10_ends.mono _ _ _)
      | (with_reducible exact lambrequinlaw10_shown.mono _)
      | (with_reducible exact lambrequinref10_Steps.mono _ _ _ _)
      | (with_reducible exact LeO.refl _)
      | (with_reducible exact LeO.none _)
      | (with_reducible refine LeO.ite ?_ ?_)
      | (with_reducible refine LeO.bind ?_ (fun _ => ?_))
      | exact ih0 _ _ _ _ _ _ _
      | exact ih1 _ _ _ _ _ _ _
      | exact ih2 _ _ _ _ _ _ _ _ _
      | exact ih3 _ _ _ _ _ _ _ _
      | exact graph_Path.mono _ _ _ _ _
      | exact graph_Reach.mono _ _ _ _
      | exact lambrequinlaw10_ends.mono _ _ _
      | exact lambrequinlaw10_shown.mono _
      | exact lambrequinref10_Steps.mono _ _ _ _
      | exact LeO.none _
      | refine LeO.ite ?_ ?_
      | refine LeO.bind ?_ (fun _ => ?_)
    · intro y0 y1 y2 y3 y4 y5 y6 y7
      unfold lambrequinlaw10_GraphPaths.l2
      repeat' first
      | (with_reducible exact ih0 _ _ _ _ _ _ _)
      | (with_reducible exact ih1 _ _ _ _ _ _ _)
      | (with_reducible exact ih2 _ _ _ _ _ _ _ _ _)
      | (with_reducible exact ih3 _ _ _ _ _ _ _ _)
      | (with_reducible exact graph_Path.mono _ _ _ _ _)
      | (with_reducible exact graph_Reach.mono _ _ _ _)
      | (with_reducible exact lambrequinlaw10_ends.mono _ _ _)
      | (with_reducible exact lambrequinlaw10_shown.mono _)
      | (with_reducible exact lambrequinref10_Steps.mono _ _ _ _)
      | (with_reducible exact LeO.refl _)
      | (with_reducible exact LeO.none _)
      | (with_reducible refine LeO.ite ?_ ?_)
      | (with_reducible refine LeO.bind ?_ (fun _ => ?_))
      | exact ih0 _ _ _ _ _ _ _
      | exact ih1 _ _ _ _ _ _ _
      | exact ih2 _ _ _ _ _ _ _ _ _
      | exact ih3 _ _ _ _ _ _ _ _
      | exact graph_Path.mono _ _ _ _ _
      | exact graph_Reach.mono _ _ _ _
      | exact lambrequinlaw10_ends.mono _ _ _
      | exact lambrequinlaw10_shown.mono _
      | exact lambrequinref10_Steps.mono _ _ _ _
      | exact LeO.none _
      | refine LeO.ite ?_ ?_
      | refine LeO.bind ?_ (fun _ => ?_)
theorem lambrequinlaw10_GraphPaths.mono : ∀ a0 a1 a2 a3 k, LeO (lambrequinlaw10_GraphPaths.f k a0 a1 a2 a3) (lambrequinlaw10_GraphPaths.f (k + 1) a0 a1 a2 a3) := by
  intro a0 a1 a2 a3 k
  obtain ⟨ih0, ih1, ih2, ih3⟩ := lambrequinlaw10_GraphPaths.mono_l k
  unfold lambrequinlaw10_GraphPaths.f
  repeat' first
      | (with_reducible exact ih0 _ _ _ _ _ _ _)
      | (with_reducible exact ih1 _ _ _ _ _ _ _)
      | (with_reducible exact ih2 _ _ _ _ _ _ _ _ _)
      | (with_reducible exact ih3 _ _ _ _ _ _ _ _)
      | (with_reducible exact graph_Path.mono _ _ _ _ _)
      | (with_reducible exact graph_Reach.mono _ _ _ _)
      | (with_reducible exact lambrequinlaw10_ends.mono _ _ _)
      | (with_reducible exact lambrequinlaw10_shown.mono _)
      | (with_reducible exact lambrequinref10_Steps.mono _ _ _ _)
      | (with_reducible exact LeO.refl _)
      | (with_reducible exact LeO.none _)
      | (with_reducible refine LeO.ite ?_ ?_)
      | (with_reducible refine LeO.bind ?_ (fun _ => ?_))
      | exact ih0 _ _ _ _ _ _ _
      | exact ih1 _ _ _ _ _ _ _
      | exact ih2 _ _ _ _ _ _ _ _ _
      | exact ih3 _ _ _ _ _ _ _ _
      | exact graph_Path.mono _ _ _ _ _
      | exact graph_Reach.mono _ _ _ _
      | exact lambrequinlaw10_ends.mono _ _ _
      | exact lambrequinlaw10_shown.mono _
      | exact lambrequinref10_Steps.mono _ _ _ _
      | exact LeO.none _
      | refine LeO.ite ?_ ?_
      | refine LeO.bind ?_ (fun _ => ?_)
set_option maxHeartbeats 8000000 in
set_option maxRecDepth 100000 in
theorem lambrequinlaw10_GraphPaths.calls (k : Nat) (a0 : Int) (A1 : Option Addr) (c1 : Nat) (l1 : List (S45)) (a2 : Int) (a3 : Int) (r : Bool) (w : World) (hr1 : Kd.C k45 w A1 l1.length l1) (hc1 : l1.length ≤ c1) (h : lambrequinlaw10_GraphPaths.f k a0 l1 a2 a3 = some r) :
    Calls Try.prog 6 #[.int .u8 a0, .slice A1 l1.length c1, .int .u8 a2, .int .u8 a3] w fun e w' => e = .returned (.bool r) ∧ Below w.heap.size w w' := by
  have HR1 := Aside0.mk hr1
  have HC1 := Aside0.mk hc1
  clear hr1 hc1
  have HB := Aside0.mk (Below.refl w.heap.size w)
  have H : ((lambrequinlaw10_shown.f k).bind fun t452 => ((lambrequinlaw10_ends.f k a0 l1).bind fun bt453 => (if bt453.1 = 0 then (none) else ((graph_Path.f k bt453.1 bt453.2 (Int.tmod (wrap64 (a2)) bt453.1) (Int.tmod (wrap64 (a3)) bt453.1)).bind fun t457 => ((graph_Reach.f k bt453.1 bt453.2 (Int.tmod (wrap64 (a2)) bt453.1)).bind fun t460 => (if (t460.length : Int) = bt453.1 then (if 0 ≤ (Int.tmod (wrap64 (a3)) bt453.1) then (if (Int.tmod (wrap64 (a3)) bt453.1) < (t460.length : Int) then (lambrequinlaw10_GraphPaths.j0 k t452 bt453.1 bt453.2 (Int.tmod (wrap64 (a2)) bt453.1) (Int.tmod (wrap64 (a3)) bt453.1) t457 ((decide ((t457.length : Int) > 0)) != (rdOf false t460 (Int.tmod (wrap64 (a3)) bt453.1)))) else (none)) else (none)) else (lambrequinlaw10_GraphPaths.j0 k t452 bt453.1 bt453.2 (Int.tmod (wrap64 (a2)) bt453.1) (Int.tmod (wrap64 (a3)) bt453.1) t457 true))))))) = some r := h
  clear h
  replace H := Option.bind_eq_some_iff.mp H
  obtain ⟨t452, A50, H⟩ := H
  replace H : ((lambrequinlaw10_ends.f k a0 l1).bind fun bt453 => (if bt453.1 = 0 then (none) else ((graph_Path.f k bt453.1 bt453.2 (Int.tmod (wrap64 (a2)) bt453.1) (Int.tmod (wrap64 (a3)) bt453.1)).bind fun t457 => ((graph_Reach.f k bt453.1 bt453.2 (Int.tmod (wrap64 (a2)) bt453.1)).bind fun t460 => (if (t460.length : Int) = bt453.1 then (if 0 ≤ (Int.tmod (wrap64 (a3)) bt453.1) then (if (Int.tmod (wrap64 (a3)) bt453.1) < (t460.length : Int) then (lambrequinlaw10_GraphPaths.j0 k t452 bt453.1 bt453.2 (Int.tmod (wrap64 (a2)) bt453.1) (Int.tmod (wrap64 (a3)) bt453.1) t457 ((decide ((t457.length : Int) > 0)) != (rdOf false t460 (Int.tmod (wrap64 (a3)) bt453.1)))) else (none)) else (none)) else (lambrequinlaw10_GraphPaths.j0 k t452 bt453.1 bt453.2 (Int.tmod (wrap64 (a2)) bt453.1) (Int.tmod (wrap64 (a3)) bt453.1) t457 true)))))) = some r := H
  have A5 := Aside0.mk A50
  clear A50
  replace H := Option.bind_eq_some_iff.mp H
  obtain ⟨⟨t453, t454⟩, A60, H⟩ := H
  replace H : (if t453 = 0 then (none) else ((graph_Path.f k t453 t454 (Int.tmod (wrap64 (a2)) t453) (Int.tmod (wrap64 (a3)) t453)).bind fun t457 => ((graph_Reach.f k t453 t454 (Int.tmod (wrap64 (a2)) t453)).bind fun t460 => (if (t460.length : Int) = t453 then (if 0 ≤ (Int.tmod (wrap64 (a3)) t453) then (if (Int.tmod (wrap64 (a3)) t453) < (t460.length : Int) then (lambrequinlaw10_GraphPaths.j0 k t452 t453 t454 (Int.tmod (wrap64 (a2)) t453) (Int.tmod (wrap64 (a3)) t453) t457 ((decide ((t457.length : Int) > 0)) != (rdOf false t460 (Int.tmod (wrap64 (a3)) t453)))) else (none)) else (none)) else (lambrequinlaw10_GraphPaths.j0 k t452 t453 t454 (Int.tmod (wrap64 (a2)) t453) (Int.tmod (wrap64 (a3)) t453) t457 true))))) = some r := H
  have A6 := Aside0.mk A60
  clear A60
  by_cases c7 : t453 = 0
  · rw [if_pos c7] at H
    exact absurd H (by simp)
  · rw [if_neg c7] at H
    have c7b0 : (t453 == 0) = false := beq_eq_false_iff_ne.mpr c7
    have c7b1 : (t453 != 0) = true := bne_iff_ne.mpr c7
    replace H := Option.bind_eq_some_iff.mp H
    obtain ⟨t457, A80, H⟩ := H
    replace H : ((graph_Reach.f k t453 t454 (Int.tmod (wrap64 (a2)) t453)).bind fun t460 => (if (t460.length : Int) = t453 then (if 0 ≤ (Int.tmod (wrap64 (a3)) t453) then (if (Int.tmod (wrap64 (a3)) t453) < (t460.length : Int) then (lambrequinlaw10_GraphPaths.j0 k t452 t453 t454 (Int.tmod (wrap64 (a2)) t453) (Int.tmod (wrap64 (a3)) t453) t457 ((decide ((t457.length : Int) > 0)) != (rdOf false t460 (Int.tmod (wrap64 (a3)) t453)))) else (none)) else (none)) else (lambrequinlaw10_GraphPaths.j0 k t452 t453 t454 (Int.tmod (wrap64 (a2)) t453) (Int.tmod (wrap64 (a3)) t453) t457 true))) = some r := H
    have A8 := Aside0.mk A80
    clear A80
    replace H := Option.bind_eq_some_iff.mp H
    obtain ⟨t460, A90, H⟩ := H
    replace H : (if (t460.length : Int) = t453 then (if 0 ≤ (Int.tmod (wrap64 (a3)) t453) then (if (Int.tmod (wrap64 (a3)) t453) < (t460.length : Int) then (lambrequinlaw10_GraphPaths.j0 k t452 t453 t454 (Int.tmod (wrap64 (a2)) t453) (Int.tmod (wrap64 (a3)) t453) t457 ((decide ((t457.length : Int) > 0)) != (rdOf false t460 (Int.tmod (wrap64 (a3)) t453)))) else (none)) else (none)) else (lambrequinlaw10_GraphPaths.j0 k t452 t453 t454 (Int.tmod (wrap64 (a2)) t453) (Int.tmod (wrap64 (a3)) t453) t457 true)) = some r := H
    have A9 := Aside0.mk A90
    clear A90
    have HC10 := Aside0.mk H
    clear H
    go_enter Try.func6, Try.ntmps6
    go_upto_region 7 with (first | (go_at_call 14; (with_reducible refine (lambrequinlaw10_shown.calls k  t452 _ A5.out).mono ?_); rintro e w11 ⟨rfl, hb⟩; have n0_ := Aside0.mk (below_step (by repeat (first | (with_reducible first | exact HB.out | apply below_alloc | apply pw_below_drewN | apply below_drew1) | exact HB.out)) hb); clear HB; have HB := n0_; clear n0_; (try clear hb); (try clear hb2); (try clear hk); (try clear hi)) | (go_at_call 15; (with_reducible refine (lambrequinlaw10_ends.calls k a0 _ _ l1 t453 t454 _ ?side1 ?side2 A6.out).mono ?_); (case side1 => repeat (first | exact (Kd.C_below HR1.out HB.out) | (with_reducible refine Kd.C_alloc ?_ _) | (with_reducible refine Kd.C_drewN ?_ _) | (with_reducible refine Kd.C_drew ?_))); (case side2 => exact HC1.out); rintro e w12 ⟨v455, rfl, ho0, hb⟩; have n0_ := Aside0.mk (Kd.R_lower ho0 (below_size (by repeat (first | (with_reducible first | exact HB.out | apply below_alloc | apply pw_below_drewN | apply below_drew1) | exact HB.out)))); have n1_ := Aside0.mk (below_step (by repeat (first | (with_reducible first | exact HB.out | apply below_alloc | apply pw_below_drewN | apply below_drew1) | exact HB.out)) hb); clear HB; have HO456 := n0_; have HB := n1_; clear n0_ n1_; (try clear hb); (try clear hb2); (try clear hk); (try clear hi); (try clear ho0); obtain ⟨Ao13, co13, eo13⟩ := Kd.R_slice HO456.out; subst eo13) | (go_at_call 20; (with_reducible refine (graph_Path.calls k t453 _ _ t454 (Int.tmod (wrap64 (a2)) t453) (Int.tmod (wrap64 (a3)) t453) t457 _ ?side1 ?side2 A8.out).mono ?_); (case side1 => repeat (first | exact (Kd.R_reads' HO456.out).2.2 | (with_reducible refine Kd.C_alloc ?_ _) | (with_reducible refine Kd.C_drewN ?_ _) | (with_reducible refine Kd.C_drew ?_))); (case side2 => exact (Kd.R_reads' HO456.out).2.1); rintro e w14 ⟨v458, rfl, ho0, hb⟩; have n0_ := Aside0.mk (Kd.R_below (by (with_reducible repeat (first | apply Kd.R_alloc | apply Kd.R_drewN | apply Kd.R_drew)); exact HO456.out) hb); have n1_ := Aside0.mk (Kd.R_lower ho0 (below_size (by repeat (first | (with_reducible first | exact HB.out | apply below_alloc | apply pw_below_drewN | apply below_drew1) | exact HB.out)))); have n2_ := Aside0.mk (below_step (by repeat (first | (with_reducible first | exact HB.out | apply below_alloc | apply pw_below_drewN | apply below_drew1) | exact HB.out)) hb); clear HO456; clear HB; have HO456 := n0_; have HO459 := n1_; have HB := n2_; clear n0_ n1_ n2_; (try clear hb); (try clear hb2); (try clear hk); (try clear hi); (try clear ho0)) | (go_at_call 22; (with_reducible refine (graph_Reach.calls k t453 _ _ t454 (Int.tmod (wrap64 (a2)) t453) t460 _ ?side1 ?side2 A9.out).mono ?_); (case side1 => repeat (first | exact (Kd.R_reads' HO456.out).2.2 | (with_reducible refine Kd.C_alloc ?_ _) | (with_reducible refine Kd.C_drewN ?_ _) | (with_reducible refine Kd.C_drew ?_))); (case side2 => exact (Kd.R_reads' HO456.out).2.1); rintro e w15 ⟨v461, rfl, ho0, hb⟩; have n0_ := Aside0.mk (Kd.R_below (by (with_reducible repeat (first | apply Kd.R_alloc | apply Kd.R_drewN | apply Kd.R_drew)); exact HO456.out) hb); have n1_ := Aside0.mk (Kd.R_below (by (with_reducible repeat (first | apply Kd.R_alloc | apply Kd.R_drewN | apply Kd.R_drew)); exact HO459.out) hb); have n2_ := Aside0.mk (Kd.R_lower ho0 (below_size (by repeat (first | (with_reducible first | exact HB.out | apply below_alloc | apply pw_below_drewN | apply below_drew1) | exact HB.out)))); have n3_ := Aside0.mk (below_step (by repeat (first | (with_reducible first | exact HB.out | apply below_alloc | apply pw_below_drewN | apply below_drew1) | exact HB.out)) hb); clear HO456; clear HO459; clear HB; have HO456 := n0_; have HO459 := n1_; have HO462 := n2_; have HB := n3_; clear n0_ n1_ n2_ n3_; (try clear hb); (try clear hb2); (try clear hk); (try clear hi); (try clear ho0)))
    repeat (go_quiet (first | (go_at_call 14; (with_reducible refine (lambrequinlaw10_shown.calls k  t452 _ A5.out).mono ?_); rintro e w11 ⟨rfl, hb⟩; have n0_ := Aside0.mk (below_step (by repeat (first | (with_reducible first | exact HB.out | apply below_alloc | apply pw_below_drewN | apply below_drew1) | exact HB.out)) hb); clear HB; have HB := n0_; clear n0_; (try clear hb); (try clear hb2); (try clear hk); (try clear hi)) | (go_at_call 15; (with_reducible refine (lambrequinlaw10_ends.calls k a0 _ _ l1 t453 t454 _ ?side1 ?side2 A6.out).mono ?_); (case side1 => repeat (first | exact (Kd.C_below HR1.out HB.out) | (with_reducible refine Kd.C_alloc ?_ _) | (with_reducible refine Kd.C_drewN ?_ _) | (with_reducible refine Kd.C_drew ?_))); (case side2 => exact HC1.out); rintro e w12 ⟨v455, rfl, ho0, hb⟩; have n0_ := Aside0.mk (Kd.R_lower ho0 (below_size (by repeat (first | (with_reducible first | exact HB.out | apply below_alloc | apply pw_below_drewN | apply below_drew1) | exact HB.out)))); have n1_ := Aside0.mk (below_step (by repeat (first | (with_reducible first | exact HB.out | apply below_alloc | apply pw_below_drewN | apply below_drew1) | exact HB.out)) hb); clear HB; have HO456 := n0_; have HB := n1_; clear n0_ n1_; (try clear hb); (try clear hb2); (try clear hk); (try clear hi); (try clear ho0); obtain ⟨Ao13, co13, eo13⟩ := Kd.R_slice HO456.out; subst eo13) | (go_at_call 20; (with_reducible refine (graph_Path.calls k t453 _ _ t454 (Int.tmod (wrap64 (a2)) t453) (Int.tmod (wrap64 (a3)) t453) t457 _ ?side1 ?side2 A8.out).mono ?_); (case side1 => repeat (first | exact (Kd.R_reads' HO456.out).2.2 | (with_reducible refine Kd.C_alloc ?_ _) | (with_reducible refine Kd.C_drewN ?_ _) | (with_reducible refine Kd.C_drew ?_))); (case side2 => exact (Kd.R_reads' HO456.out).2.1); rintro e w14 ⟨v458, rfl, ho0, hb⟩; have n0_ := Aside0.mk (Kd.R_below (by (with_reducible repeat (first | apply Kd.R_alloc | apply Kd.R_drewN | apply Kd.R_drew)); exact HO456.out) hb); have n1_ := Aside0.mk (Kd.R_lower ho0 (below_size (by repeat (first | (with_reducible first | exact HB.out | apply below_alloc | apply pw_below_drewN | apply below_drew1) | exact HB.out)))); have n2_ := Aside0.mk (below_step (by repeat (first | (with_reducible first | exact HB.out | apply below_alloc | apply pw_below_drewN | apply below_drew1) | exact HB.out)) hb); clear HO456; clear HB; have HO456 := n0_; have HO459 := n1_; have HB := n2_; clear n0_ n1_ n2_; (try clear hb); (try clear hb2); (try clear hk); (try clear hi); (try clear ho0)) | (go_at_call 22; (with_reducible refine (graph_Reach.calls k t453 _ _ t454 (Int.tmod (wrap64 (a2)) t453) t460 _ ?side1 ?side2 A9.out).mono ?_); (case side1 => repeat (first | exact (Kd.R_reads' HO456.out).2.2 | (with_reducible refine Kd.C_alloc ?_ _) | (with_reducible refine Kd.C_drewN ?_ _) | (with_reducible refine Kd.C_drew ?_))); (case side2 => exact (Kd.R_reads' HO456.out).2.1); rintro e w15 ⟨v461, rfl, ho0, hb⟩; have n0_ := Aside0.mk (Kd.R_below (by (with_reducible repeat (first | apply Kd.R_alloc | apply Kd.R_drewN | apply Kd.R_drew)); exact HO456.out) hb); have n1_ := Aside0.mk (Kd.R_below (by (with_reducible repeat (first | apply Kd.R_alloc | apply Kd.R_drewN | apply Kd.R_drew)); exact HO459.out) hb); have n2_ := Aside0.mk (Kd.R_lower ho0 (below_size (by repeat (first | (with_reducible first | exact HB.out | apply below_alloc | apply pw_below_drewN | apply below_drew1) | exact HB.out)))); have n3_ := Aside0.mk (below_step (by repeat (first | (with_reducible first | exact HB.out | apply below_alloc | apply pw_below_drewN | apply below_drew1) | exact HB.out)) hb); clear HO456; clear HO459; clear HB; have HO456 := n0_; have HO459 := n1_; have HO462 := n2_; have HB := n3_; clear n0_ n1_ n2_ n3_; (try clear hb); (try clear hb2); (try clear hk); (try clear hi); (try clear ho0))); go_upto_region 7 with (first | (go_at_call 14; (with_reducible refine (lambrequinlaw10_shown.calls k  t452 _ A5.out).mono ?_); rintro e w11 ⟨rfl, hb⟩; have n0_ := Aside0.mk (below_step (by repeat (first | (with_reducible first | exact HB.out | apply below_alloc | apply pw_below_drewN | apply below_drew1) | exact HB.out)) hb); clear HB; have HB := n0_; clear n0_; (try clear hb); (try clear hb2); (try clear hk); (try clear hi)) | (go_at_call 15; (with_reducible refine (lambrequinlaw10_ends.calls k a0 _ _ l1 t453 t454 _ ?side1 ?side2 A6.out).mono ?_); (case side1 => repeat (first | exact (Kd.C_below HR1.out HB.out) | (with_reducible refine Kd.C_alloc ?_ _) | (with_reducible refine Kd.C_drewN ?_ _) | (with_reducible refine Kd.C_drew ?_))); (case side2 => exact HC1.out); rintro e w12 ⟨v455, rfl, ho0, hb⟩; have n0_ := Aside0.mk (Kd.R_lower ho0 (below_size (by repeat (first | (with_reducible first | exact HB.out | apply below_alloc | apply pw_below_drewN | apply below_drew1) | exact HB.out)))); have n1_ := Aside0.mk (below_step (by repeat (first | (with_reducible first | exact HB.out | apply below_alloc | apply pw_below_drewN | apply below_drew1) | exact HB.out)) hb); clear HB; have HO456 := n0_; have HB := n1_; clear n0_ n1_; (try clear hb); (try clear hb2); (try clear hk); (try clear hi); (try clear ho0); obtain ⟨Ao13, co13, eo13⟩ := Kd.R_slice HO456.out; subst eo13) | (go_at_call 20; (with_reducible refine (graph_Path.calls k t453 _ _ t454 (Int.tmod (wrap64 (a2)) t453) (Int.tmod (wrap64 (a3)) t453) t457 _ ?side1 ?side2 A8.out).mono ?_); (case side1 => repeat (first | exact (Kd.R_reads' HO456.out).2.2 | (with_reducible refine Kd.C_alloc ?_ _) | (with_reducible refine Kd.C_drewN ?_ _) | (with_reducible refine Kd.C_drew ?_))); (case side2 => exact (Kd.R_reads' HO456.out).2.1); rintro e w14 ⟨v458, rfl, ho0, hb⟩; have n0_ := Aside0.mk (Kd.R_below (by (with_reducible repeat (first | apply Kd.R_alloc | apply Kd.R_drewN | apply Kd.R_drew)); exact HO456.out) hb); have n1_ := Aside0.mk (Kd.R_lower ho0 (below_size (by repeat (first | (with_reducible first | exact HB.out | apply below_alloc | apply pw_below_drewN | apply below_drew1) | exact HB.out)))); have n2_ := Aside0.mk (below_step (by repeat (first | (with_reducible first | exact HB.out | apply below_alloc | apply pw_below_drewN | apply below_drew1) | exact HB.out)) hb); clear HO456; clear HB; have HO456 := n0_; have HO459 := n1_; have HB := n2_; clear n0_ n1_ n2_; (try clear hb); (try clear hb2); (try clear hk); (try clear hi); (try clear ho0)) | (go_at_call 22; (with_reducible refine (graph_Reach.calls k t453 _ _ t454 (Int.tmod (wrap64 (a2)) t453) t460 _ ?side1 ?side2 A9.out).mono ?_); (case side1 => repeat (first | exact (Kd.R_reads' HO456.out).2.2 | (with_reducible refine Kd.C_alloc ?_ _) | (with_reducible refine Kd.C_drewN ?_ _) | (with_reducible refine Kd.C_drew ?_))); (case side2 => exact (Kd.R_reads' HO456.out).2.1); rintro e w15 ⟨v461, rfl, ho0, hb⟩; have n0_ := Aside0.mk (Kd.R_below (by (with_reducible repeat (first | apply Kd.R_alloc | apply Kd.R_drewN | apply Kd.R_drew)); exact HO456.out) hb); have n1_ := Aside0.mk (Kd.R_below (by (with_reducible repeat (first | apply Kd.R_alloc | apply Kd.R_drewN | apply Kd.R_drew)); exact HO459.out) hb); have n2_ := Aside0.mk (Kd.R_lower ho0 (below_size (by repeat (first | (with_reducible first | exact HB.out | apply below_alloc | apply pw_below_drewN | apply below_drew1) | exact HB.out)))); have n3_ := Aside0.mk (below_step (by repeat (first | (with_reducible first | exact HB.out | apply below_alloc | apply pw_below_drewN | apply below_drew1) | exact HB.out)) hb); clear HO456; clear HO459; clear HB; have HO456 := n0_; have HO459 := n1_; have HO462 := n2_; have HB := n3_; clear n0_ n1_ n2_ n3_; (try clear hb); (try clear hb2); (try clear hk); (try clear hi); (try clear ho0))))
    (try simp only [Act.put, List.setIfInBounds_toArray, List.set_cons_zero, List.set_cons_succ])
    go_cut [57] (fun v57 wc => ∃ (kq : Nat) (x57_9 : Bool), v57 = .bool x57_9 ∧ Aside0 (lambrequinlaw10_GraphPaths.j0 kq t452 t453 t454 (Int.tmod (wrap64 (a2)) t453) (Int.tmod (wrap64 (a3)) t453) t457 x57_9 = some r) ∧ Aside0 (kq ≤ k) ∧ Aside0 (Kd.R k27 27 wc w.heap.size (fun _ => True) (.slice Ao13 t454.length co13) t454) ∧ Aside0 (Kd.R (Kd.int .i64) 3 wc w.heap.size (fun _ => True) v458 t457) ∧ Aside0 (Below w.heap.size w wc))
    case first =>
      have H := HC10.out
      clear HC10
      by_cases c16 : (t460.length : Int) = t453
      · rw [if_pos c16] at H
        have c16b0 : ((t460.length : Int) == t453) = true := beq_iff_eq.mpr c16
        have c16b1 : ((t460.length : Int) != t453) = false := bne_eq_false_iff_eq.mpr c16
        clear c16
        (first | rw [c16b0] | (simp only [i64_w, i32_w]; rw [c16b0]) | skip)
        obtain ⟨ji17, hji17⟩ : ∃ j_ : Int, (Int.tmod (wrap64 (a3)) t453) = j_ := ⟨_, rfl⟩
        replace H : (if 0 ≤ (ji17) then (if (ji17) < (t460.length : Int) then (lambrequinlaw10_GraphPaths.j0 k t452 t453 t454 (Int.tmod (wrap64 (a2)) t453) ji17 t457 ((decide ((t457.length : Int) > 0)) != (rdOf false t460 (ji17)))) else (none)) else (none)) = some r := by first | (rw [hji17] at H; exact H) | (simp only [hji17] at H ⊢; exact H)
        by_cases c18 : 0 ≤ (ji17)
        · rw [if_pos c18] at H
          have c18b0 : decide (0 ≤ (ji17)) = true := decide_eq_true c18
          clear c18
          by_cases c19 : (ji17) < (t460.length : Int)
          · rw [if_pos c19] at H
            have c19b0 : decide ((ji17) < (t460.length : Int)) = true := decide_eq_true c19
            clear c19
            have H' := Aside0.mk H
            clear H
            obtain ⟨Ao20, co20, eo20⟩ := Kd.R_slice HO462.out
            subst eo20
            obtain ⟨Ao21, co21, eo21⟩ := Kd.R_slice HO459.out
            subst eo21
            have p463 : 0 ≤ ((ji17) : Int) := of_decide_eq_true (by first | (with_reducible assumption) | assumption)
            have q463 : (ji17) < (t460.length : Int) := of_decide_eq_true (by first | (with_reducible assumption) | assumption)
            obtain ⟨ad463, e463, hx463_0⟩ := Kd.at_bool (Kd.R_reads' HO462.out).2.2 (ji17) p463 q463
            cases e463
            replace p463 := eq_true p463
            replace q463 := eq_true q463
            go_wp2
            repeat (go_quiet (fail); try go_wp2)
            subst hji17
            go_meet
            case rel => exact ⟨_, (((decide ((t457.length : Int) > 0)) != (rdOf false t460 (Int.tmod (wrap64 (a3)) t453)))), (by first | rfl | (simp; done) | (simp; generalize decide (0 < t457.length) = a_; generalize rdOf false _ _ = b_; cases a_ <;> cases b_ <;> rfl) | (simp [*]; done)), H', ⟨by first | omega | exact Nat.le_refl _⟩, ⟨by (with_reducible repeat (first | apply Kd.R_alloc | apply Kd.R_drewN | apply Kd.R_drew)); exact HO456.out⟩, ⟨by (with_reducible repeat (first | apply Kd.R_alloc | apply Kd.R_drewN | apply Kd.R_drew)); exact HO459.out⟩, ⟨by repeat (first | (with_reducible first | exact HB.out | apply below_alloc | apply pw_below_drewN | apply below_drew1) | exact HB.out)⟩⟩
          · rw [if_neg c19] at H
            exact absurd H (by simp)
        · rw [if_neg c18] at H
          exact absurd H (by simp)
      · rw [if_neg c16] at H
        have c16b0 : ((t460.length : Int) == t453) = false := beq_eq_false_iff_ne.mpr c16
        have c16b1 : ((t460.length : Int) != t453) = true := bne_iff_ne.mpr c16
        (first | rw [c16b0] | (simp only [i64_w, i32_w]; rw [c16b0]) | skip)
        have H' := Aside0.mk H
        clear H
        obtain ⟨Ao22, co22, eo22⟩ := Kd.R_slice HO462.out
        subst eo22
        go_wp2
        repeat (go_quiet (fail); try go_wp2)
        go_meet
        case rel => exact ⟨_, (true), (by first | rfl | (simp; done) | (simp [*]; done)), H', ⟨by first | omega | exact Nat.le_refl _⟩, ⟨by (with_reducible repeat (first | apply Kd.R_alloc | apply Kd.R_drewN | apply Kd.R_drew)); exact HO456.out⟩, ⟨by (with_reducible repeat (first | apply Kd.R_alloc | apply Kd.R_drewN | apply Kd.R_drew)); exact HO459.out⟩, ⟨by repeat (first | (with_reducible first | exact HB.out | apply below_alloc | apply pw_below_drewN | apply below_drew1) | exact HB.out)⟩⟩
    case rest =>
      clear HC10
      try clear c1
      try clear p2
      try clear p4
      try clear q4
      try clear hx4
      try clear c6
      try clear p6
      try clear c7
      try clear c7b0
      try clear c7b1
      try clear c16
      try clear c16b0
      try clear c16b1
      try clear c18
      try clear c18b0
      try clear c19
      try clear c19b0
      try clear hx463_0
      try clear p463
      try clear q463
      obtain ⟨kq, x57_9, rfl, HA, HJ9, HO_11, HO_14, HB⟩ := hcut
      cases kq with
      | zero => exact absurd HA.out (by simp [lambrequinlaw10_GraphPaths.j0])
      | succ kj9 =>
        have H := HA.out
        clear HA
        simp only [lambrequinlaw10_GraphPaths.j0] at H
        by_cases c23 : x57_9 = true
        · subst c23
          have H1 : (some false) = some r := by rw [if_pos rfl] at H; exact H
          clear H
          have H := H1
          clear H1
          obtain rfl := Option.some.inj H
          go_wp2
          repeat (go_quiet (fail); try go_wp2)
          go_ret
          exact ⟨by first | rfl | (simp [errW_none, errW_some] <;> rfl) | (simp [*, errW_none, errW_some] <;> rfl), by repeat (first | (with_reducible first | exact HB.out | apply below_alloc | apply pw_below_drewN | apply below_drew1) | exact HB.out)⟩
        · replace c23 := Bool.eq_false_iff.mpr c23
          subst c23
          have H1 : (if (t457.length : Int) = 0 then (some t452) else (lambrequinlaw10_GraphPaths.l0 kj9 t452 t453 t454 (Int.tmod (wrap64 (a2)) t453) (Int.tmod (wrap64 (a3)) t453) t457 1)) = some r := by rw [if_neg (show ¬ (false = true) by decide)] at H; exact H
          clear H
          have H := H1
          clear H1
          by_cases c24 : (t457.length : Int) = 0
          · rw [if_pos c24] at H
            have c24b0 : ((t457.length : Int) == 0) = true := beq_iff_eq.mpr c24
            have c24b1 : ((t457.length : Int) != 0) = false := bne_eq_false_iff_eq.mpr c24
            clear c24
            obtain rfl := Option.some.inj H
            obtain ⟨Ao25, co25, eo25⟩ := Kd.R_slice HO_14.out
            subst eo25
            go_wp2
            repeat (go_quiet (fail); try go_wp2)
            go_ret
            exact ⟨by first | rfl | (simp [errW_none, errW_some] <;> rfl) | (simp [*, errW_none, errW_some] <;> rfl), by repeat (first | (with_reducible first | exact HB.out | apply below_alloc | apply pw_below_drewN | apply below_drew1) | exact HB.out)⟩
          · rw [if_neg c24] at H
            have c24b0 : ((t457.length : Int) == 0) = false := beq_eq_false_iff_ne.mpr c24
            have c24b1 : ((t457.length : Int) != 0) = true := bne_iff_ne.mpr c24
            have c24b2 : ¬ (t457 = []) := fun h_ => c24 (by rw [h_]; rfl)
            have H' := Aside0.mk H
            clear H
            obtain ⟨Ao26, co26, eo26⟩ := Kd.R_slice HO_14.out
            subst eo26
            go_wp2
            repeat (go_quiet (fail); try go_wp2)
            go_loopg [16] kj9 (fun kq v16 w' => ∃ (x16_2 : Int), v16 = .int .i64 x16_2 ∧ Aside0 (lambrequinlaw10_GraphPaths.l0 kq t452 t453 t454 (Int.tmod (wrap64 (a2)) t453) (Int.tmod (wrap64 (a3)) t453) t457 x16_2 = some r) ∧ Aside0 (kq ≤ kj9) ∧ Aside0 (Kd.R k27 27 w' w.heap.size (fun _ => True) (.slice Ao13 t454.length co13) t454) ∧ Aside0 (Kd.R (Kd.int .i64) 3 w' w.heap.size (fun _ => True) (.slice Ao26 t457.length co26) t457) ∧ Aside0 (Below w.heap.size w w'))
            case atStart => exact ⟨(1), (by first | rfl | (simp; done) | (simp [*]; done)), H', ⟨Nat.le_refl _⟩, ⟨by (with_reducible repeat (first | apply Kd.R_alloc | apply Kd.R_drewN | apply Kd.R_drew)); exact HO_11.out⟩, ⟨by (with_reducible repeat (first | apply Kd.R_alloc | apply Kd.R_drewN | apply Kd.R_drew)); exact HO_14.out⟩, ⟨by repeat (first | (with_reducible first | exact HB.out | apply below_alloc | apply pw_below_drewN | apply below_drew1) | exact HB.out)⟩⟩
            case round =>
              clear H'
              try clear c1
              try clear c2
              try clear p2
              try clear p4
              try clear q4
              try clear hx4
              try clear c6
              try clear p6
              try clear c7
              try clear c7b0
              try clear c7b1
              try clear c16
              try clear c16b0
              try clear c16b1
              try clear c18
              try clear c18b0
              try clear c19
              try clear c19b0
              try clear c23
              try clear c24
              try clear c24b0
              try clear c24b1
              try clear c24b2
              try clear hx463_0
              try clear p2
              try clear p4
              try clear p463
              try clear p6
              try clear q4
              try clear q463
              obtain ⟨x16_2, rfl, HA, HK2, HO_11, HO_14, HB⟩ := hrel
              cases gk with
              | zero => exact absurd HA.out (by simp [lambrequinlaw10_GraphPaths.l0])
              | succ k2 =>
                have H := HA.out
                clear HA
                simp only [lambrequinlaw10_GraphPaths.l0] at H
                by_cases c27 : x16_2 < (t457.length : Int)
                · rw [if_pos c27] at H
                  have c27b0 : decide (x16_2 < (t457.length : Int)) = true := decide_eq_true c27
                  clear c27
                  have H' := Aside0.mk H
                  clear H
                  go_wp2
                  repeat (go_quiet (fail); try go_wp2)
                  go_loopg [17, 18] k2 (fun kq v17 v18 w' => ∃ (x17_3 : Bool) (x18_3 : Int), v17 = .bool x17_3 ∧ v18 = .int .i64 x18_3 ∧ Aside0 (lambrequinlaw10_GraphPaths.l1 kq t452 t453 t454 (Int.tmod (wrap64 (a2)) t453) (Int.tmod (wrap64 (a3)) t453) t457 x16_2 x17_3 x18_3 = some r) ∧ Aside0 (kq ≤ k2) ∧ Aside0 (Kd.R k27 27 w' w.heap.size (fun _ => True) (.slice Ao13 t454.length co13) t454) ∧ Aside0 (Kd.R (Kd.int .i64) 3 w' w.heap.size (fun _ => True) (.slice Ao26 t457.length co26) t457) ∧ Aside0 (Below w.heap.size w w'))
                  case atStart => exact ⟨(false), (0), (by first | rfl | (simp; done) | (simp [*]; done)), (by first | rfl | (simp; done) | (simp [*]; done)), H', ⟨Nat.le_refl _⟩, ⟨by (with_reducible repeat (first | apply Kd.R_alloc | apply Kd.R_drewN | apply Kd.R_drew)); exact HO_11.out⟩, ⟨by (with_reducible repeat (first | apply Kd.R_alloc | apply Kd.R_drewN | apply Kd.R_drew)); exact HO_14.out⟩, ⟨by repeat (first | (with_reducible first | exact HB.out | apply below_alloc | apply pw_below_drewN | apply below_drew1) | exact HB.out)⟩⟩
                  case round =>
                    clear H'
                    try clear c1
                    try clear c2
                    try clear p2
                    try clear p4
                    try clear q4
                    try clear hx4
                    try clear c6
                    try clear p6
                    try clear c7
                    try clear c7b0
                    try clear c7b1
                    try clear c16
                    try clear c16b0
                    try clear c16b1
                    try clear c18
                    try clear c18b0
                    try clear c19
                    try clear c19b0
                    try clear c23
                    try clear c24
                    try clear c24b0
                    try clear c24b1
                    try clear c24b2
                    try clear c27
                    try clear c27b0
                    try clear hx463_0
                    try clear p2
                    try clear p4
                    try clear p463
                    try clear p6
                    try clear q4
                    try clear q463
                    obtain ⟨x17_3, x18_3, rfl, rfl, HA, HK3, HO_11, HO_14, HB⟩ := hrel
                    cases gk with
                    | zero => exact absurd HA.out (by simp [lambrequinlaw10_GraphPaths.l1])
                    | succ k3 =>
                      have H := HA.out
                      clear HA
                      simp only [lambrequinlaw10_GraphPaths.l1] at H
                      by_cases c28 : x18_3 < (t454.length : Int)
                      · rw [if_pos c28] at H
                        have c28b0 : decide (x18_3 < (t454.length : Int)) = true := decide_eq_true c28
                        clear c28
                        by_cases c29 : x17_3 = true
                        · subst c29
                          have H1 : (lambrequinlaw10_GraphPaths.l1 k3 t452 t453 t454 (Int.tmod (wrap64 (a2)) t453) (Int.tmod (wrap64 (a3)) t453) t457 x16_2 true (wrap64 (x18_3 + 1))) = some r := by rw [if_pos rfl] at H; exact H
                          clear H
                          have H := H1
                          clear H1
                          have H' := Aside0.mk H
                          clear H
                          go_wp2
                          repeat (go_quiet (fail); try go_wp2)
                          go_roundg k3
                          case measure => have := HJ9.out; have := HK2.out; have := HK3.out; omega
                          case rel => exact ⟨(true), (wrap64 (x18_3 + 1)), (by first | rfl | (simp; done) | (simp [*]; done)), (by first | rfl | (simp; done) | (simp [*]; done)), H', ⟨by have := HJ9.out; have := HK2.out; have := HK3.out; omega⟩, ⟨by (with_reducible repeat (first | apply Kd.R_alloc | apply Kd.R_drewN | apply Kd.R_drew)); exact HO_11.out⟩, ⟨by (with_reducible repeat (first | apply Kd.R_alloc | apply Kd.R_drewN | apply Kd.R_drew)); exact HO_14.out⟩, ⟨by repeat (first | (with_reducible first | exact HB.out | apply below_alloc | apply pw_below_drewN | apply below_drew1) | exact HB.out)⟩⟩
                        · replace c29 := Bool.eq_false_iff.mpr c29
                          subst c29
                          have H1 : (if 0 ≤ x18_3 then (if 0 ≤ (wrap64 (x16_2 - 1)) then (if (wrap64 (x16_2 - 1)) < (t457.length : Int) then (if ((rd_T27 t454 x18_3).f0) = (rd t457 (wrap64 (x16_2 - 1))) then (if 0 ≤ x16_2 then (if x16_2 < (t457.length : Int) then (lambrequinlaw10_GraphPaths.l1 k3 t452 t453 t454 (Int.tmod (wrap64 (a2)) t453) (Int.tmod (wrap64 (a3)) t453) t457 x16_2 (((rd_T27 t454 x18_3).f1) == (rd t457 x16_2)) (wrap64 (x18_3 + 1))) else (none)) else (none)) else (lambrequinlaw10_GraphPaths.l1 k3 t452 t453 t454 (Int.tmod (wrap64 (a2)) t453) (Int.tmod (wrap64 (a3)) t453) t457 x16_2 false (wrap64 (x18_3 + 1)))) else (none)) else (none)) else (none)) = some r := by rw [if_neg (show ¬ (false = true) by decide)] at H; exact H
                          clear H
                          have H := H1
                          clear H1
                          by_cases c30 : 0 ≤ x18_3
                          · rw [if_pos c30] at H
                            have c30b0 : decide (0 ≤ x18_3) = true := decide_eq_true c30
                            clear c30
                            obtain ⟨ji31, hji31⟩ : ∃ j_ : Int, (wrap64 (x16_2 - 1)) = j_ := ⟨_, rfl⟩
                            replace H : (if 0 ≤ (ji31) then (if (ji31) < (t457.length : Int) then (if ((rd_T27 t454 x18_3).f0) = (rd t457 (ji31)) then (if 0 ≤ x16_2 then (if x16_2 < (t457.length : Int) then (lambrequinlaw10_GraphPaths.l1 k3 t452 t453 t454 (Int.tmod (wrap64 (a2)) t453) (Int.tmod (wrap64 (a3)) t453) t457 x16_2 (((rd_T27 t454 x18_3).f1) == (rd t457 x16_2)) (wrap64 (x18_3 + 1))) else (none)) else (none)) else (lambrequinlaw10_GraphPaths.l1 k3 t452 t453 t454 (Int.tmod (wrap64 (a2)) t453) (Int.tmod (wrap64 (a3)) t453) t457 x16_2 false (wrap64 (x18_3 + 1)))) else (none)) else (none)) = some r := by first | (rw [hji31] at H; exact H) | (simp only [hji31] at H ⊢; exact H)
                            have hji31w : (IntKind.i64.wrap (x16_2 - 1)) = ji31 := (i64_w _).trans hji31
                            by_cases c32 : 0 ≤ (ji31)
                            · rw [if_pos c32] at H
                              have c32b0 : decide (0 ≤ (ji31)) = true := decide_eq_true c32
                              clear c32
                              by_cases c33 : (ji31) < (t457.length : Int)
                              · rw [if_pos c33] at H
                                have c33b0 : decide ((ji31) < (t457.length : Int)) = true := decide_eq_true c33
                                clear c33
                                by_cases c34 : ((rd_T27 t454 x18_3).f0) = (rd t457 (ji31))
                                · rw [if_pos c34] at H
                                  have c34b0 : (((rd_T27 t454 x18_3).f0) == (rd t457 (ji31))) = true := beq_iff_eq.mpr c34
                                  have c34b1 : (((rd_T27 t454 x18_3).f0) != (rd t457 (ji31))) = false := bne_eq_false_iff_eq.mpr c34
                                  clear c34
                                  by_cases c35 : 0 ≤ x16_2
                                  · rw [if_pos c35] at H
                                    have c35b0 : decide (0 ≤ x16_2) = true := decide_eq_true c35
                                    clear c35
                                    by_cases c36 : x16_2 < (t457.length : Int)
                                    · rw [if_pos c36] at H
                                      have c36b0 : decide (x16_2 < (t457.length : Int)) = true := decide_eq_true c36
                                      clear c36
                                      have H' := Aside0.mk H
                                      clear H
                                      have p470 : 0 ≤ (x18_3 : Int) := of_decide_eq_true (by first | (with_reducible assumption) | assumption)
                                      have q470 : x18_3 < (t454.length : Int) := of_decide_eq_true (by first | (with_reducible assumption) | assumption)
                                      obtain ⟨ad470, e470, hx470_0, hx470_1⟩ := at_T27 (Kd.R_reads' HO_11.out).2.2 x18_3 p470 q470
                                      cases e470
                                      replace p470 := eq_true p470
                                      replace q470 := eq_true q470
                                      have p471 : 0 ≤ ((ji31) : Int) := of_decide_eq_true (by first | (with_reducible assumption) | assumption)
                                      have q471 : (ji31) < (t457.length : Int) := of_decide_eq_true (by first | (with_reducible assumption) | assumption)
                                      obtain ⟨ad471, e471, hx471_0⟩ := Kd.at_int (Kd.R_reads' HO_14.out).2.2 (ji31) p471 q471
                                      cases e471
                                      replace p471 := eq_true p471
                                      replace q471 := eq_true q471
                                      have p472 : 0 ≤ (x18_3 : Int) := of_decide_eq_true (by first | (with_reducible assumption) | assumption)
                                      have q472 : x18_3 < (t454.length : Int) := of_decide_eq_true (by first | (with_reducible assumption) | assumption)
                                      obtain ⟨ad472, e472, hx472_0, hx472_1⟩ := at_T27 (Kd.R_reads' HO_11.out).2.2 x18_3 p472 q472
                                      obtain rfl : ad470 = ad472 := (by injection e472)
                                      replace p472 := eq_true p472
                                      replace q472 := eq_true q472
                                      have p473 : 0 ≤ (x16_2 : Int) := of_decide_eq_true (by first | (with_reducible assumption) | assumption)
                                      have q473 : x16_2 < (t457.length : Int) := of_decide_eq_true (by first | (with_reducible assumption) | assumption)
                                      obtain ⟨ad473, e473, hx473_0⟩ := Kd.at_int (Kd.R_reads' HO_14.out).2.2 x16_2 p473 q473
                                      obtain rfl : ad471 = ad473 := (by injection e473)
                                      replace p473 := eq_true p473
                                      replace q473 := eq_true q473
                                      go_wp2
                                      repeat (go_quiet (fail); try go_wp2)
                                      go_roundg k3
                                      case measure => have := HJ9.out; have := HK2.out; have := HK3.out; omega
                                      case rel => exact ⟨((((rd_T27 t454 x18_3).f1) == (rd t457 x16_2))), (wrap64 (x18_3 + 1)), (by first | rfl | (simp; done) | (simp [*]; done)), (by first | rfl | (simp; done) | (simp [*]; done)), H', ⟨by have := HJ9.out; have := HK2.out; have := HK3.out; omega⟩, ⟨by (with_reducible repeat (first | apply Kd.R_alloc | apply Kd.R_drewN | apply Kd.R_drew)); exact HO_11.out⟩, ⟨by (with_reducible repeat (first | apply Kd.R_alloc | apply Kd.R_drewN | apply Kd.R_drew)); exact HO_14.out⟩, ⟨by repeat (first | (with_reducible first | exact HB.out | apply below_alloc | apply pw_below_drewN | apply below_drew1) | exact HB.out)⟩⟩
                                    · rw [if_neg c36] at H
                                      exact absurd H (by simp)
                                  · rw [if_neg c35] at H
                                    exact absurd H (by simp)
                                · rw [if_neg c34] at H
                                  have c34b0 : (((rd_T27 t454 x18_3).f0) == (rd t457 (ji31))) = false := beq_eq_false_iff_ne.mpr c34
                                  have c34b1 : (((rd_T27 t454 x18_3).f0) != (rd t457 (ji31))) = true := bne_iff_ne.mpr c34
                                  have H' := Aside0.mk H
                                  clear H
                                  have p470 : 0 ≤ (x18_3 : Int) := of_decide_eq_true (by first | (with_reducible assumption) | assumption)
                                  have q470 : x18_3 < (t454.length : Int) := of_decide_eq_true (by first | (with_reducible assumption) | assumption)
                                  obtain ⟨ad470, e470, hx470_0, hx470_1⟩ := at_T27 (Kd.R_reads' HO_11.out).2.2 x18_3 p470 q470
                                  cases e470
                                  replace p470 := eq_true p470
                                  replace q470 := eq_true q470
                                  have p471 : 0 ≤ ((ji31) : Int) := of_decide_eq_true (by first | (with_reducible assumption) | assumption)
                                  have q471 : (ji31) < (t457.length : Int) := of_decide_eq_true (by first | (with_reducible assumption) | assumption)
                                  obtain ⟨ad471, e471, hx471_0⟩ := Kd.at_int (Kd.R_reads' HO_14.out).2.2 (ji31) p471 q471
                                  cases e471
                                  replace p471 := eq_true p471
                                  replace q471 := eq_true q471
                                  go_wp2
                                  repeat (go_quiet (fail); try go_wp2)
                                  go_roundg k3
                                  case measure => have := HJ9.out; have := HK2.out; have := HK3.out; omega
                                  case rel => exact ⟨(false), (wrap64 (x18_3 + 1)), (by first | rfl | (simp; done) | (simp [*]; done)), (by first | rfl | (simp; done) | (simp [*]; done)), H', ⟨by have := HJ9.out; have := HK2.out; have := HK3.out; omega⟩, ⟨by (with_reducible repeat (first | apply Kd.R_alloc | apply Kd.R_drewN | apply Kd.R_drew)); exact HO_11.out⟩, ⟨by (with_reducible repeat (first | apply Kd.R_alloc | apply Kd.R_drewN | apply Kd.R_drew)); exact HO_14.out⟩, ⟨by repeat (first | (with_reducible first | exact HB.out | apply below_alloc | apply pw_below_drewN | apply below_drew1) | exact HB.out)⟩⟩
                              · rw [if_neg c33] at H
                                exact absurd H (by simp)
                            · rw [if_neg c32] at H
                              exact absurd H (by simp)
                          · rw [if_neg c30] at H
                            exact absurd H (by simp)
                      · rw [if_neg c28] at H
                        have c28b0 : decide (x18_3 < (t454.length : Int)) = false := decide_eq_false c28
                        clear c28
                        by_cases c37 : x17_3 = true
                        · subst c37
                          have H1 : (lambrequinlaw10_GraphPaths.l2 k3 t452 t453 t454 (Int.tmod (wrap64 (a2)) t453) (Int.tmod (wrap64 (a3)) t453) t457 x16_2 0) = some r := by rw [if_pos rfl] at H; exact H
                          clear H
                          have H := H1
                          clear H1
                          have H' := Aside0.mk H
                          clear H
                          go_wp2
                          repeat (go_quiet (fail); try go_wp2)
                          go_loopg [19] k3 (fun kq v19 w' => ∃ (x19_4 : Int), v19 = .int .i64 x19_4 ∧ Aside0 (lambrequinlaw10_GraphPaths.l2 kq t452 t453 t454 (Int.tmod (wrap64 (a2)) t453) (Int.tmod (wrap64 (a3)) t453) t457 x16_2 x19_4 = some r) ∧ Aside0 (kq ≤ k3) ∧ Aside0 (Kd.R k27 27 w' w.heap.size (fun _ => True) (.slice Ao13 t454.length co13) t454) ∧ Aside0 (Kd.R (Kd.int .i64) 3 w' w.heap.size (fun _ => True) (.slice Ao26 t457.length co26) t457) ∧ Aside0 (Below w.heap.size w w'))
                          case atStart => exact ⟨(0), (by first | rfl | (simp; done) | (simp [*]; done)), H', ⟨Nat.le_refl _⟩, ⟨by (with_reducible repeat (first | apply Kd.R_alloc | apply Kd.R_drewN | apply Kd.R_drew)); exact HO_11.out⟩, ⟨by (with_reducible repeat (first | apply Kd.R_alloc | apply Kd.R_drewN | apply Kd.R_drew)); exact HO_14.out⟩, ⟨by repeat (first | (with_reducible first | exact HB.out | apply below_alloc | apply pw_below_drewN | apply below_drew1) | exact HB.out)⟩⟩
                          case round =>
                            clear H'
                            try clear c1
                            try clear c2
                            try clear p2
                            try clear c3
                            try clear p4
                            try clear q4
                            try clear hx4
                            try clear c6
                            try clear p6
                            try clear c7
                            try clear c7b0
                            try clear c7b1
                            try clear c16
                            try clear c16b0
                            try clear c16b1
                            try clear c18
                            try clear c18b0
                            try clear c19
                            try clear c19b0
                            try clear c23
                            try clear c24
                            try clear c24b0
                            try clear c24b1
                            try clear c24b2
                            try clear c27
                            try clear c27b0
                            try clear c28
                            try clear c28b0
                            try clear c29
                            try clear c30
                            try clear c30b0
                            try clear c32
                            try clear c32b0
                            try clear c33
                            try clear c33b0
                            try clear c34
                            try clear c34b0
                            try clear c34b1
                            try clear c35
                            try clear c35b0
                            try clear c36
                            try clear c36b0
                            try clear c37
                            try clear hx463_0
                            try clear hx470_0
                            try clear hx470_1
                            try clear hx471_0
                            try clear hx472_0
                            try clear hx472_1
                            try clear hx473_0
                            try clear p2
                            try clear p4
                            try clear p463
                            try clear p470
                            try clear p471
                            try clear p472
                            try clear p473
                            try clear p6
                            try clear q4
                            try clear q463
                            try clear q470
                            try clear q471
                            try clear q472
                            try clear q473
                            obtain ⟨x19_4, rfl, HA, HK4, HO_11, HO_14, HB⟩ := hrel
                            cases gk with
                            | zero => exact absurd HA.out (by simp [lambrequinlaw10_GraphPaths.l2])
                            | succ k4 =>
                              have H := HA.out
                              clear HA
                              simp only [lambrequinlaw10_GraphPaths.l2] at H
                              by_cases c38 : x19_4 < x16_2
                              · rw [if_pos c38] at H
                                have c38b0 : decide (x19_4 < x16_2) = true := decide_eq_true c38
                                clear c38
                                by_cases c39 : 0 ≤ x16_2
                                · rw [if_pos c39] at H
                                  have c39b0 : decide (0 ≤ x16_2) = true := decide_eq_true c39
                                  clear c39
                                  by_cases c40 : x16_2 < (t457.length : Int)
                                  · rw [if_pos c40] at H
                                    have c40b0 : decide (x16_2 < (t457.length : Int)) = true := decide_eq_true c40
                                    clear c40
                                    by_cases c41 : 0 ≤ x19_4
                                    · rw [if_pos c41] at H
                                      have c41b0 : decide (0 ≤ x19_4) = true := decide_eq_true c41
                                      clear c41
                                      by_cases c42 : x19_4 < (t457.length : Int)
                                      · rw [if_pos c42] at H
                                        have c42b0 : decide (x19_4 < (t457.length : Int)) = true := decide_eq_true c42
                                        clear c42
                                        by_cases c43 : (rd t457 x16_2) = (rd t457 x19_4)
                                        · rw [if_pos c43] at H
                                          have c43b0 : ((rd t457 x16_2) == (rd t457 x19_4)) = true := beq_iff_eq.mpr c43
                                          have c43b1 : ((rd t457 x16_2) != (rd t457 x19_4)) = false := bne_eq_false_iff_eq.mpr c43
                                          clear c43
                                          obtain rfl := Option.some.inj H
                                          have p474 : 0 ≤ (x16_2 : Int) := of_decide_eq_true (by first | (with_reducible assumption) | assumption)
                                          have q474 : x16_2 < (t457.length : Int) := of_decide_eq_true (by first | (with_reducible assumption) | assumption)
                                          obtain ⟨ad474, e474, hx474_0⟩ := Kd.at_int (Kd.R_reads' HO_14.out).2.2 x16_2 p474 q474
                                          cases e474
                                          replace p474 := eq_true p474
                                          replace q474 := eq_true q474
                                          have p475 : 0 ≤ (x19_4 : Int) := of_decide_eq_true (by first | (with_reducible assumption) | assumption)
                                          have q475 : x19_4 < (t457.length : Int) := of_decide_eq_true (by first | (with_reducible assumption) | assumption)
                                          obtain ⟨ad475, e475, hx475_0⟩ := Kd.at_int (Kd.R_reads' HO_14.out).2.2 x19_4 p475 q475
                                          obtain rfl : ad474 = ad475 := (by injection e475)
                                          replace p475 := eq_true p475
                                          replace q475 := eq_true q475
                                          go_wp2
                                          repeat (go_quiet (fail); try go_wp2)
                                          go_ret
                                          exact ⟨by first | rfl | (simp [errW_none, errW_some] <;> rfl) | (simp [*, errW_none, errW_some] <;> rfl), by repeat (first | (with_reducible first | exact HB.out | apply below_alloc | apply pw_below_drewN | apply below_drew1) | exact HB.out)⟩
                                        · rw [if_neg c43] at H
                                          have c43b0 : ((rd t457 x16_2) == (rd t457 x19_4)) = false := beq_eq_false_iff_ne.mpr c43
                                          have c43b1 : ((rd t457 x16_2) != (rd t457 x19_4)) = true := bne_iff_ne.mpr c43
                                          have H' := Aside0.mk H
                                          clear H
                                          have p474 : 0 ≤ (x16_2 : Int) := of_decide_eq_true (by first | (with_reducible assumption) | assumption)
                                          have q474 : x16_2 < (t457.length : Int) := of_decide_eq_true (by first | (with_reducible assumption) | assumption)
                                          obtain ⟨ad474, e474, hx474_0⟩ := Kd.at_int (Kd.R_reads' HO_14.out).2.2 x16_2 p474 q474
                                          cases e474
                                          replace p474 := eq_true p474
                                          replace q474 := eq_true q474
                                          have p475 : 0 ≤ (x19_4 : Int) := of_decide_eq_true (by first | (with_reducible assumption) | assumption)
                                          have q475 : x19_4 < (t457.length : Int) := of_decide_eq_true (by first | (with_reducible assumption) | assumption)
                                          obtain ⟨ad475, e475, hx475_0⟩ := Kd.at_int (Kd.R_reads' HO_14.out).2.2 x19_4 p475 q475
                                          obtain rfl : ad474 = ad475 := (by injection e475)
                                          replace p475 := eq_true p475
                                          replace q475 := eq_true q475
                                          go_wp2
                                          repeat (go_quiet (fail); try go_wp2)
                                          go_roundg k4
                                          case measure => have := HJ9.out; have := HK2.out; have := HK3.out; have := HK4.out; omega
                                          case rel => exact ⟨(wrap64 (x19_4 + 1)), (by first | rfl | (simp; done) | (simp [*]; done)), H', ⟨by have := HJ9.out; have := HK2.out; have := HK3.out; have := HK4.out; omega⟩, ⟨by (with_reducible repeat (first | apply Kd.R_alloc | apply Kd.R_drewN | apply Kd.R_drew)); exact HO_11.out⟩, ⟨by (with_reducible repeat (first | apply Kd.R_alloc | apply Kd.R_drewN | apply Kd.R_drew)); exact HO_14.out⟩, ⟨by repeat (first | (with_reducible first | exact HB.out | apply below_alloc | apply pw_below_drewN | apply below_drew1) | exact HB.out)⟩⟩
                                      · rw [if_neg c42] at H
                                        exact absurd H (by simp)
                                    · rw [if_neg c41] at H
                                      exact absurd H (by simp)
                                  · rw [if_neg c40] at H
                                    exact absurd H (by simp)
                                · rw [if_neg c39] at H
                                  exact absurd H (by simp)
                              · rw [if_neg c38] at H
                                have c38b0 : decide (x19_4 < x16_2) = false := decide_eq_false c38
                                clear c38
                                have H' := Aside0.mk H
                                clear H
                                go_wp2
                                repeat (go_quiet (fail); try go_wp2)
                                go_roundg k4
                                case measure => have := HJ9.out; have := HK2.out; have := HK3.out; have := HK4.out; omega
                                case rel => exact ⟨(wrap64 (x16_2 + 1)), (by first | rfl | (simp; done) | (simp [*]; done)), H', ⟨by have := HJ9.out; have := HK2.out; have := HK3.out; have := HK4.out; omega⟩, ⟨by (with_reducible repeat (first | apply Kd.R_alloc | apply Kd.R_drewN | apply Kd.R_drew)); exact HO_11.out⟩, ⟨by (with_reducible repeat (first | apply Kd.R_alloc | apply Kd.R_drewN | apply Kd.R_drew)); exact HO_14.out⟩, ⟨by repeat (first | (with_reducible first | exact HB.out | apply below_alloc | apply pw_below_drewN | apply below_drew1) | exact HB.out)⟩⟩
                        · replace c37 := Bool.eq_false_iff.mpr c37
                          subst c37
                          have H1 : (some false) = some r := by rw [if_neg (show ¬ (false = true) by decide)] at H; exact H
                          clear H
                          have H := H1
                          clear H1
                          obtain rfl := Option.some.inj H
                          go_wp2
                          repeat (go_quiet (fail); try go_wp2)
                          go_ret
                          exact ⟨by first | rfl | (simp [errW_none, errW_some] <;> rfl) | (simp [*, errW_none, errW_some] <;> rfl), by repeat (first | (with_reducible first | exact HB.out | apply below_alloc | apply pw_below_drewN | apply below_drew1) | exact HB.out)⟩
                · rw [if_neg c27] at H
                  have c27b0 : decide (x16_2 < (t457.length : Int)) = false := decide_eq_false c27
                  clear c27
                  by_cases c44 : t452 = true
                  · subst c44
                    have H1 : (if 0 < (t457.length : Int) then (if (rd t457 0) = (Int.tmod (wrap64 (a2)) t453) then (if 0 ≤ (wrap64 ((t457.length : Int) - 1)) then (if (wrap64 ((t457.length : Int) - 1)) < (t457.length : Int) then (if (rd t457 (wrap64 ((t457.length : Int) - 1))) = (Int.tmod (wrap64 (a3)) t453) then ((lambrequinref10_Steps.f k2 t453 t454 (Int.tmod (wrap64 (a2)) t453)).bind fun t466 => (if 0 ≤ (Int.tmod (wrap64 (a3)) t453) then (if (Int.tmod (wrap64 (a3)) t453) < (t466.length : Int) then (some ((wrap64 ((t457.length : Int) - 1)) == (rd t466 (Int.tmod (wrap64 (a3)) t453)))) else (none)) else (none))) else (some false)) else (none)) else (none)) else (some false)) else (none)) = some r := by rw [if_pos rfl] at H; exact H
                    clear H
                    have H := H1
                    clear H1
                    by_cases c45 : 0 < (t457.length : Int)
                    · rw [if_pos c45] at H
                      have c45b0 : decide (0 < (t457.length : Int)) = true := decide_eq_true c45
                      have c45b1 : decide (0 < t457.length) = true := decide_eq_true (by omega)
                      clear c45
                      by_cases c46 : (rd t457 0) = (Int.tmod (wrap64 (a2)) t453)
                      · rw [if_pos c46] at H
                        have c46b0 : ((rd t457 0) == (Int.tmod (wrap64 (a2)) t453)) = true := beq_iff_eq.mpr c46
                        have c46b1 : ((rd t457 0) != (Int.tmod (wrap64 (a2)) t453)) = false := bne_eq_false_iff_eq.mpr c46
                        clear c46
                        obtain ⟨ji47, hji47⟩ : ∃ j_ : Int, (wrap64 ((t457.length : Int) - 1)) = j_ := ⟨_, rfl⟩
                        replace H : (if 0 ≤ (ji47) then (if (ji47) < (t457.length : Int) then (if (rd t457 (ji47)) = (Int.tmod (wrap64 (a3)) t453) then ((lambrequinref10_Steps.f k2 t453 t454 (Int.tmod (wrap64 (a2)) t453)).bind fun t466 => (if 0 ≤ (Int.tmod (wrap64 (a3)) t453) then (if (Int.tmod (wrap64 (a3)) t453) < (t466.length : Int) then (some ((ji47) == (rd t466 (Int.tmod (wrap64 (a3)) t453)))) else (none)) else (none))) else (some false)) else (none)) else (none)) = some r := by first | (rw [hji47] at H; exact H) | (simp only [hji47] at H ⊢; exact H)
                        have hji47w : (IntKind.i64.wrap ((t457.length : Int) - 1)) = ji47 := (i64_w _).trans hji47
                        by_cases c48 : 0 ≤ (ji47)
                        · rw [if_pos c48] at H
                          have c48b0 : decide (0 ≤ (ji47)) = true := decide_eq_true c48
                          clear c48
                          by_cases c49 : (ji47) < (t457.length : Int)
                          · rw [if_pos c49] at H
                            have c49b0 : decide ((ji47) < (t457.length : Int)) = true := decide_eq_true c49
                            clear c49
                            by_cases c50 : (rd t457 (ji47)) = (Int.tmod (wrap64 (a3)) t453)
                            · rw [if_pos c50] at H
                              have c50b0 : ((rd t457 (ji47)) == (Int.tmod (wrap64 (a3)) t453)) = true := beq_iff_eq.mpr c50
                              have c50b1 : ((rd t457 (ji47)) != (Int.tmod (wrap64 (a3)) t453)) = false := bne_eq_false_iff_eq.mpr c50
                              clear c50
                              replace H := Option.bind_eq_some_iff.mp H
                              obtain ⟨t466, A510, H⟩ := H
                              replace H : (if 0 ≤ (Int.tmod (wrap64 (a3)) t453) then (if (Int.tmod (wrap64 (a3)) t453) < (t466.length : Int) then (some ((ji47) == (rd t466 (Int.tmod (wrap64 (a3)) t453)))) else (none)) else (none)) = some r := H
                              have A51 := Aside0.mk A510
                              clear A510
                              obtain ⟨ji52, hji52⟩ : ∃ j_ : Int, (Int.tmod (wrap64 (a3)) t453) = j_ := ⟨_, rfl⟩
                              replace H : (if 0 ≤ (ji52) then (if (ji52) < (t466.length : Int) then (some ((ji47) == (rd t466 (ji52)))) else (none)) else (none)) = some r := by first | (rw [hji52] at H; exact H) | (simp only [hji52] at H ⊢; exact H)
                              (try rw [hji52] at c50b0)
                              (try rw [hji52] at c50b1)
                              (try rw [hji52] at A51)
                              by_cases c53 : 0 ≤ (ji52)
                              · rw [if_pos c53] at H
                                have c53b0 : decide (0 ≤ (ji52)) = true := decide_eq_true c53
                                clear c53
                                by_cases c54 : (ji52) < (t466.length : Int)
                                · rw [if_pos c54] at H
                                  have c54b0 : decide ((ji52) < (t466.length : Int)) = true := decide_eq_true c54
                                  clear c54
                                  obtain rfl := Option.some.inj H
                                  have p464 : 0 ≤ (0 : Int) := (by omega)
                                  have q464 : 0 < (t457.length : Int) := of_decide_eq_true (by first | (with_reducible assumption) | assumption)
                                  obtain ⟨ad464, e464, hx464_0⟩ := Kd.at_int (Kd.R_reads' HO_14.out).2.2 0 p464 q464
                                  cases e464
                                  have qi464 : (0 < t457.length) = True := eq_true (by omega)
                                  (try rw [show ((0 : Int)).toNat = 0 from rfl] at hx464_0)
                                  (try rw [Addr.add_zero'] at hx464_0)
                                  replace p464 := eq_true p464
                                  replace q464 := eq_true q464
                                  have p465 : 0 ≤ ((ji47) : Int) := of_decide_eq_true (by first | (with_reducible assumption) | assumption)
                                  have q465 : (ji47) < (t457.length : Int) := of_decide_eq_true (by first | (with_reducible assumption) | assumption)
                                  obtain ⟨ad465, e465, hx465_0⟩ := Kd.at_int (Kd.R_reads' HO_14.out).2.2 (ji47) p465 q465
                                  obtain rfl : ad464 = ad465 := (by injection e465)
                                  replace p465 := eq_true p465
                                  replace q465 := eq_true q465
                                  go_wp2_with (first | (go_at_call 26; (with_reducible refine (lambrequinref10_Steps.calls k2 t453 _ _ t454 (Int.tmod (wrap64 (a2)) t453) t466 _ ?side1 ?side2 A51.out).mono ?_); (case side1 => repeat (first | exact (Kd.R_reads' HO_11.out).2.2 | (with_reducible refine Kd.C_alloc ?_ _) | (with_reducible refine Kd.C_drewN ?_ _) | (with_reducible refine Kd.C_drew ?_))); (case side2 => exact (Kd.R_reads' HO_11.out).2.1); rintro e w55 ⟨v467, rfl, ho0, hb⟩; have n0_ := Aside0.mk (Kd.R_below (by (with_reducible repeat (first | apply Kd.R_alloc | apply Kd.R_drewN | apply Kd.R_drew)); exact HO_11.out) hb); have n1_ := Aside0.mk (Kd.R_elder' (by (with_reducible repeat (first | apply Kd.R_alloc | apply Kd.R_drewN | apply Kd.R_drew)); exact HO_14.out) (Kd.R_base ho0) hb); have n2_ := Aside0.mk (Kd.R_lower (Kd.R_new' ho0 (Kd.R_lt (by (with_reducible repeat (first | apply Kd.R_alloc | apply Kd.R_drewN | apply Kd.R_drew)); exact HO_14.out))) (below_size (by repeat (first | (with_reducible first | exact HB.out | apply below_alloc | apply pw_below_drewN | apply below_drew1) | exact HB.out)))); have n3_ := Aside0.mk (below_step (by repeat (first | (with_reducible first | exact HB.out | apply below_alloc | apply pw_below_drewN | apply below_drew1) | exact HB.out)) hb); clear HO_11; clear HO_14; clear HB; have HO_11 := n0_; have HO_14 := n1_; have HO468 := n2_; have HB := n3_; clear n0_ n1_ n2_ n3_; (try clear hb); (try clear hb2); (try clear hk); (try clear hi); (try clear ho0); obtain ⟨Ao56, co56, eo56⟩ := Kd.R_slice HO468.out; subst eo56; have p469 : 0 ≤ ((ji52) : Int) := of_decide_eq_true (by first | (with_reducible assumption) | assumption); have q469 : (ji52) < (t466.length : Int) := of_decide_eq_true (by first | (with_reducible assumption) | assumption); obtain ⟨ad469, e469, hx469_0⟩ := Kd.at_int (Kd.R_reads' HO468.out).2.2 (ji52) p469 q469; cases e469; replace p469 := eq_true p469; replace q469 := eq_true q469))
                                  repeat (go_quiet (first | (go_at_call 26; (with_reducible refine (lambrequinref10_Steps.calls k2 t453 _ _ t454 (Int.tmod (wrap64 (a2)) t453) t466 _ ?side1 ?side2 A51.out).mono ?_); (case side1 => repeat (first | exact (Kd.R_reads' HO_11.out).2.2 | (with_reducible refine Kd.C_alloc ?_ _) | (with_reducible refine Kd.C_drewN ?_ _) | (with_reducible refine Kd.C_drew ?_))); (case side2 => exact (Kd.R_reads' HO_11.out).2.1); rintro e w55 ⟨v467, rfl, ho0, hb⟩; have n0_ := Aside0.mk (Kd.R_below (by (with_reducible repeat (first | apply Kd.R_alloc | apply Kd.R_drewN | apply Kd.R_drew)); exact HO_11.out) hb); have n1_ := Aside0.mk (Kd.R_elder' (by (with_reducible repeat (first | apply Kd.R_alloc | apply Kd.R_drewN | apply Kd.R_drew)); exact HO_14.out) (Kd.R_base ho0) hb); have n2_ := Aside0.mk (Kd.R_lower (Kd.R_new' ho0 (Kd.R_lt (by (with_reducible repeat (first | apply Kd.R_alloc | apply Kd.R_drewN | apply Kd.R_drew)); exact HO_14.out))) (below_size (by repeat (first | (with_reducible first | exact HB.out | apply below_alloc | apply pw_below_drewN | apply below_drew1) | exact HB.out)))); have n3_ := Aside0.mk (below_step (by repeat (first | (with_reducible first | exact HB.out | apply below_alloc | apply pw_below_drewN | apply below_drew1) | exact HB.out)) hb); clear HO_11; clear HO_14; clear HB; have HO_11 := n0_; have HO_14 := n1_; have HO468 := n2_; have HB := n3_; clear n0_ n1_ n2_ n3_; (try clear hb); (try clear hb2); (try clear hk); (try clear hi); (try clear ho0); obtain ⟨Ao56, co56, eo56⟩ := Kd.R_slice HO468.out; subst eo56; have p469 : 0 ≤ ((ji52) : Int) := of_decide_eq_true (by first | (with_reducible assumption) | assumption); have q469 : (ji52) < (t466.length : Int) := of_decide_eq_true (by first | (with_reducible assumption) | assumption); obtain ⟨ad469, e469, hx469_0⟩ := Kd.at_int (Kd.R_reads' HO468.out).2.2 (ji52) p469 q469; cases e469; replace p469 := eq_true p469; replace q469 := eq_true q469)); try go_wp2_with (first | (go_at_call 26; (with_reducible refine (lambrequinref10_Steps.calls k2 t453 _ _ t454 (Int.tmod (wrap64 (a2)) t453) t466 _ ?side1 ?side2 A51.out).mono ?_); (case side1 => repeat (first | exact (Kd.R_reads' HO_11.out).2.2 | (with_reducible refine Kd.C_alloc ?_ _) | (with_reducible refine Kd.C_drewN ?_ _) | (with_reducible refine Kd.C_drew ?_))); (case side2 => exact (Kd.R_reads' HO_11.out).2.1); rintro e w55 ⟨v467, rfl, ho0, hb⟩; have n0_ := Aside0.mk (Kd.R_below (by (with_reducible repeat (first | apply Kd.R_alloc | apply Kd.R_drewN | apply Kd.R_drew)); exact HO_11.out) hb); have n1_ := Aside0.mk (Kd.R_elder' (by (with_reducible repeat (first | apply Kd.R_alloc | apply Kd.R_drewN | apply Kd.R_drew)); exact HO_14.out) (Kd.R_base ho0) hb); have n2_ := Aside0.mk (Kd.R_lower (Kd.R_new' ho0 (Kd.R_lt (by (with_reducible repeat (first | apply Kd.R_alloc | apply Kd.R_drewN | apply Kd.R_drew)); exact HO_14.out))) (below_size (by repeat (first | (with_reducible first | exact HB.out | apply below_alloc | apply pw_below_drewN | apply below_drew1) | exact HB.out)))); have n3_ := Aside0.mk (below_step (by repeat (first | (with_reducible first | exact HB.out | apply below_alloc | apply pw_below_drewN | apply below_drew1) | exact HB.out)) hb); clear HO_11; clear HO_14; clear HB; have HO_11 := n0_; have HO_14 := n1_; have HO468 := n2_; have HB := n3_; clear n0_ n1_ n2_ n3_; (try clear hb); (try clear hb2); (try clear hk); (try clear hi); (try clear ho0); obtain ⟨Ao56, co56, eo56⟩ := Kd.R_slice HO468.out; subst eo56; have p469 : 0 ≤ ((ji52) : Int) := of_decide_eq_true (by first | (with_reducible assumption) | assumption); have q469 : (ji52) < (t466.length : Int) := of_decide_eq_true (by first | (with_reducible assumption) | assumption); obtain ⟨ad469, e469, hx469_0⟩ := Kd.at_int (Kd.R_reads' HO468.out).2.2 (ji52) p469 q469; cases e469; replace p469 := eq_true p469; replace q469 := eq_true q469)))
                                  go_ret
                                  exact ⟨by first | rfl | (simp [errW_none, errW_some] <;> rfl) | (simp only [← hji47, ← hji52]; first | rfl | (simp [errW_none, errW_some] <;> rfl)) | (simp [*, errW_none, errW_some] <;> rfl), by repeat (first | (with_reducible first | exact HB.out | apply below_alloc | apply pw_below_drewN | apply below_drew1) | exact HB.out)⟩
                                · rw [if_neg c54] at H
                                  exact absurd H (by simp)
                              · rw [if_neg c53] at H
                                exact absurd H (by simp)
                            · rw [if_neg c50] at H
                              have c50b0 : ((rd t457 (ji47)) == (Int.tmod (wrap64 (a3)) t453)) = false := beq_eq_false_iff_ne.mpr c50
                              have c50b1 : ((rd t457 (ji47)) != (Int.tmod (wrap64 (a3)) t453)) = true := bne_iff_ne.mpr c50
                              obtain rfl := Option.some.inj H
                              have p464 : 0 ≤ (0 : Int) := (by omega)
                              have q464 : 0 < (t457.length : Int) := of_decide_eq_true (by first | (with_reducible assumption) | assumption)
                              obtain ⟨ad464, e464, hx464_0⟩ := Kd.at_int (Kd.R_reads' HO_14.out).2.2 0 p464 q464
                              cases e464
                              have qi464 : (0 < t457.length) = True := eq_true (by omega)
                              (try rw [show ((0 : Int)).toNat = 0 from rfl] at hx464_0)
                              (try rw [Addr.add_zero'] at hx464_0)
                              replace p464 := eq_true p464
                              replace q464 := eq_true q464
                              have p465 : 0 ≤ ((ji47) : Int) := of_decide_eq_true (by first | (with_reducible assumption) | assumption)
                              have q465 : (ji47) < (t457.length : Int) := of_decide_eq_true (by first | (with_reducible assumption) | assumption)
                              obtain ⟨ad465, e465, hx465_0⟩ := Kd.at_int (Kd.R_reads' HO_14.out).2.2 (ji47) p465 q465
                              obtain rfl : ad464 = ad465 := (by injection e465)
                              replace p465 := eq_true p465
                              replace q465 := eq_true q465
                              go_wp2
                              repeat (go_quiet (fail); try go_wp2)
                              go_ret
                              exact ⟨by first | rfl | (simp [errW_none, errW_some] <;> rfl) | (simp only [← hji47]; first | rfl | (simp [errW_none, errW_some] <;> rfl)) | (simp [*, errW_none, errW_some] <;> rfl), by repeat (first | (with_reducible first | exact HB.out | apply below_alloc | apply pw_below_drewN | apply below_drew1) | exact HB.out)⟩
                          · rw [if_neg c49] at H
                            exact absurd H (by simp)
                        · rw [if_neg c48] at H
                          exact absurd H (by simp)
                      · rw [if_neg c46] at H
                        have c46b0 : ((rd t457 0) == (Int.tmod (wrap64 (a2)) t453)) = false := beq_eq_false_iff_ne.mpr c46
                        have c46b1 : ((rd t457 0) != (Int.tmod (wrap64 (a2)) t453)) = true := bne_iff_ne.mpr c46
                        obtain rfl := Option.some.inj H
                        have p464 : 0 ≤ (0 : Int) := (by omega)
                        have q464 : 0 < (t457.length : Int) := of_decide_eq_true (by first | (with_reducible assumption) | assumption)
                        obtain ⟨ad464, e464, hx464_0⟩ := Kd.at_int (Kd.R_reads' HO_14.out).2.2 0 p464 q464
                        cases e464
                        have qi464 : (0 < t457.length) = True := eq_true (by omega)
                        (try rw [show ((0 : Int)).toNat = 0 from rfl] at hx464_0)
                        (try rw [Addr.add_zero'] at hx464_0)
                        replace p464 := eq_true p464
                        replace q464 := eq_true q464
                        go_wp2
                        repeat (go_quiet (fail); try go_wp2)
                        go_ret
                        exact ⟨by first | rfl | (simp [errW_none, errW_some] <;> rfl) | (simp [*, errW_none, errW_some] <;> rfl), by repeat (first | (with_reducible first | exact HB.out | apply below_alloc | apply pw_below_drewN | apply below_drew1) | exact HB.out)⟩
                    · rw [if_neg c45] at H
                      exact absurd H (by simp)
                  · replace c44 := Bool.eq_false_iff.mpr c44
                    subst c44
                    have H1 : (some false) = some r := by rw [if_neg (show ¬ (false = true) by decide)] at H; exact H
                    clear H
                    have H := H1
                    clear H1
                    obtain rfl := Option.some.inj H
                    go_wp2
                    repeat (go_quiet (fail); try go_wp2)
                    go_ret
                    exact ⟨by first | rfl | (simp [errW_none, errW_some] <;> rfl) | (simp [*, errW_none, errW_some] <;> rfl), by repeat (first | (with_reducible first | exact HB.out | apply below_alloc | apply pw_below_drewN | apply below_drew1) | exact HB.out)⟩

end Go.Proofs.Ytngmdccheaidkaa.Pr
