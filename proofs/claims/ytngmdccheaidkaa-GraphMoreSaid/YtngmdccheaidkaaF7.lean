-- printed by this session's own turn of print (wip/tools/mkprint.py)
import Derived.Test.YtngmdccheaidkaaF
import Derived.Test.YtngmdccheaidkaaF14
import Derived.Test.YtngmdccheaidkaaF15
import Derived.Test.YtngmdccheaidkaaF22
import Derived.Test.YtngmdccheaidkaaGParts
namespace Go.Proofs.Ytngmdccheaidkaa.Pr
open Go.RowKit Go.Proofs.YtngmdccheaidkaaW.PrintWords Go.Proofs.YtngmdccheaidkaaW.PrintLast Go.Proofs.YtngmdccheaidkaaW.PrintMore
attribute [local go_sem] max2_int min2_int max_two min_two max_three min_three max_four min_four   -- for this text's walks alone
set_option linter.unusedVariables false
set_option linter.unusedSimpArgs false

/-! ### lambrequinlaw10_GraphMore: function 7 -/
mutual
def lambrequinlaw10_GraphMore.j0 : Nat → Bool → Int → List (S27) → List (S27) → List Bool → List Bool → Bool → Option (Bool)
  | 0, _, _, _, _, _, _, _ => none
  | k + 1, x9, x10, x11, x12, x14, x15, x70 => if x70 = true then (some false) else (lambrequinlaw10_GraphMore.l0 k x9 x10 x11 x12 x14 x15 0)
def lambrequinlaw10_GraphMore.l0 : Nat → Bool → Int → List (S27) → List (S27) → List Bool → List Bool → Int → Option (Bool)
  | 0, _, _, _, _, _, _, _ => none
  | k + 1, x9, x10, x11, x12, x14, x15, x16 => if x16 < x10 then (if 0 ≤ x16 then (if x16 < (x14.length : Int) then (if rdOf false x14 x16 = true then (if x16 < (x15.length : Int) then (if rdOf false x15 x16 = true then (lambrequinlaw10_GraphMore.l0 k x9 x10 x11 x12 x14 x15 (wrap64 (x16 + 1))) else (some false)) else (none)) else (lambrequinlaw10_GraphMore.l0 k x9 x10 x11 x12 x14 x15 (wrap64 (x16 + 1)))) else (none)) else (none)) else ((graph_Parts.f x10 ([] : List (S27))).bind fun t503 => (if (t503.length : Int) = x10 then (lambrequinlaw10_GraphMore.l1 k x9 x10 x11 x12 t503 0) else (some false)))
def lambrequinlaw10_GraphMore.l1 : Nat → Bool → Int → List (S27) → List (S27) → List (List Int) → Int → Option (Bool)
  | 0, _, _, _, _, _, _ => none
  | k + 1, x9, x10, x11, x12, x17, x18 => if x18 < x10 then (if 0 ≤ x18 then (if x18 < (x17.length : Int) then (if ((rd_L1 x17 x18).length : Int) = 1 then (if 0 < ((rd_L1 x17 x18).length : Int) then (if (rd (rd_L1 x17 x18) 0) = x18 then (lambrequinlaw10_GraphMore.l1 k x9 x10 x11 x12 x17 (wrap64 (x18 + 1))) else (some false)) else (none)) else (some false)) else (none)) else (none)) else (if x9 = true then ((graph_Parts.f x10 x12).bind fun t509 => ((graph_Parts.f x10 x11).bind fun t512 => (some (decide ((t509.length : Int) ≤ (t512.length : Int)))))) else (some false))
end
def lambrequinlaw10_GraphMore.f (k : Nat) (a0 : Int) (l1 : List (S45)) (a2_0 : Int) (a2_1 : Int) (a3 : Int) : Option (Bool) := (lambrequinlaw10_shown.f k).bind fun t477 => ((lambrequinlaw10_ends.f k a0 l1).bind fun bt478 => ((some (([] : List (S27)) : List (S27))).bind fun y482 => (if y482.length + bt478.2.length < 8796093022208 then ((some (y482 ++ bt478.2 : List (S27))).bind fun y485 => (if bt478.1 = 0 then (none) else ((some (([(⟨Int.tmod (wrap64 (a2_0)) bt478.1, Int.tmod (wrap64 (a2_1)) bt478.1⟩ : S27)] : List (S27)) : List (S27))).bind fun y488 => (if y485.length + y488.length < 8796093022208 then ((some (y485 ++ y488 : List (S27))).bind fun y491 => ((graph_Reach.f k bt478.1 bt478.2 (Int.tmod (wrap64 (a3)) bt478.1)).bind fun t494 => ((graph_Reach.f k bt478.1 y491 (Int.tmod (wrap64 (a3)) bt478.1)).bind fun t497 => (if (t494.length : Int) = bt478.1 then (if (t497.length : Int) = bt478.1 then (if 0 ≤ (Int.tmod (wrap64 (a3)) bt478.1) then (if (Int.tmod (wrap64 (a3)) bt478.1) < (t494.length : Int) then (lambrequinlaw10_GraphMore.j0 k t477 bt478.1 bt478.2 y491 t494 t497 (!(rdOf false t494 (Int.tmod (wrap64 (a3)) bt478.1)))) else (none)) else (none)) else (lambrequinlaw10_GraphMore.j0 k t477 bt478.1 bt478.2 y491 t494 t497 true)) else (lambrequinlaw10_GraphMore.j0 k t477 bt478.1 bt478.2 y491 t494 t497 true))))) else (none))))) else (none))))
theorem lambrequinlaw10_GraphMore.mono_l : ∀ k, (∀ y0 y1 y2 y3 y4 y5 y6, LeO (lambrequinlaw10_GraphMore.j0 k y0 y1 y2 y3 y4 y5 y6) (lambrequinlaw10_GraphMore.j0 (k + 1) y0 y1 y2 y3 y4 y5 y6)) ∧ (∀ y0 y1 y2 y3 y4 y5 y6, LeO (lambrequinlaw10_GraphMore.l0 k y0 y1 y2 y3 y4 y5 y6) (lambrequinlaw10_GraphMore.l0 (k + 1) y0 y1 y2 y3 y4 y5 y6)) ∧ (∀ y0 y1 y2 y3 y4 y5, LeO (lambrequinlaw10_GraphMore.l1 k y0 y1 y2 y3 y4 y5) (lambrequinlaw10_GraphMore.l1 (k + 1) y0 y1 y2 y3 y4 y5))
  | 0 => ⟨fun _ _ _ _ _ _ _ r h => by simp [lambrequinlaw10_GraphMore.j0] at h, fun _ _ _ _ _ _ _ r h => by simp [lambrequinlaw10_GraphMore.l0] at h, fun _ _ _ _ _ _ r h => by simp [lambrequinlaw10_GraphMore.l1] at h⟩
  | k + 1 => by
    obtain ⟨ih0, ih1, ih2⟩ := lambrequinlaw10_GraphMore.mono_l k
    refine ⟨?_, ?_, ?_⟩
    · intro y0 y1 y2 y3 y4 y5 y6
      unfold lambrequinlaw10_GraphMore.j0
      repeat' first
      | (with_reducible exact ih0 _ _ _ _ _ _ _)
      | (with_reducible exact ih1 _ _ _ _ _ _ _)
      | (with_reducible exact ih2 _ _ _ _ _ _)
      | (with_reducible exact graph_Reach.mono _ _ _ _)
      | (with_reducible exact lambrequinlaw10_ends.mono _ _ _)
      | (with_reducible exact lambrequinlaw10_shown.mono _)
      | (with_reducible exact LeO.refl _)
      | (with_reducible exact LeO.none _)
      | (with_reducible refine LeO.ite ?_ ?_)
      | (with_reducible refine LeO.bind ?_ (fun _ => ?_))
      | exact ih0 _ _ _ _ _ _ _
      | exact ih1 _ _ _ _ _ _ _
      | exact ih2 _ _ _ _ _ _
      | exact graph_Reach.mono _ _ _ _
      | exact lambrequinlaw10_ends.mono _ _ _
      | exact lambrequinlaw10_shown.mono _
      | exact LeO.none _
      | refine LeO.ite ?_ ?_
      | refine LeO.bind ?_ (fun _ => ?_)
    · intro y0 y1 y2 y3 y4 y5 y6
      unfold lambrequinlaw10_GraphMore.l0
      repeat' first
      | (with_reducible exact ih0 _ _ _ _ _ _ _)
      | (with_reducible exact ih1 _ _ _ _ _ _ _)
      | (with_reducible exact ih2 _ _ _ _ _ _)
      | (with_reducible exact graph_Reach.mono _ _ _ _)
      | (with_reducible exact lambrequinlaw10_ends.mono _ _ _)
      | (with_reducible exact lambrequinlaw10_shown.mono _)
      | (with_reducible exact LeO.refl _)
      | (with_reducible exact LeO.none _)
      | (with_reducible refine LeO.ite ?_ ?_)
      | (with_reducible refine LeO.bind ?_ (fun _ => ?_))
      | exact ih0 _ _ _ _ _ _ _
      | exact ih1 _ _ _ _ _ _ _
      | exact ih2 _ _ _ _ _ _
      | exact graph_Reach.mono _ _ _ _
      | exact lambrequinlaw10_ends.mono _ _ _
      | exact lambrequinlaw10_shown.mono _
      | exact LeO.none _
      | refine LeO.ite ?_ ?_
      | refine LeO.bind ?_ (fun _ => ?_)
    · intro y0 y1 y2 y3 y4 y5
      unfold lambrequinlaw10_GraphMore.l1
      repeat' first
      | (with_reducible exact ih0 _ _ _ _ _ _ _)
      | (with_reducible exact ih1 _ _ _ _ _ _ _)
      | (with_reducible exact ih2 _ _ _ _ _ _)
      | (with_reducible exact graph_Reach.mono _ _ _ _)
      | (with_reducible exact lambrequinlaw10_ends.mono _ _ _)
      | (with_reducible exact lambrequinlaw10_shown.mono _)
      | (with_reducible exact LeO.refl _)
      | (with_reducible exact LeO.none _)
      | (with_reducible refine LeO.ite ?_ ?_)
      | (with_reducible refine LeO.bind ?_ (fun _ => ?_))
      | exact ih0 _ _ _ _ _ _ _
      | exact ih1 _ _ _ _ _ _ _
      | exact ih2 _ _ _ _ _ _
      | exact graph_Reach.mono _ _ _ _
      | exact lambrequinlaw10_ends.mono _ _ _
      | exact lambrequinlaw10_shown.mono _
      | exact LeO.none _
      | refine LeO.ite ?_ ?_
      | refine LeO.bind ?_ (fun _ => ?_)
theorem lambrequinlaw10_GraphMore.mono : ∀ a0 a1 a2 a3 a4 k, LeO (lambrequinlaw10_GraphMore.f k a0 a1 a2 a3 a4) (lambrequinlaw10_GraphMore.f (k + 1) a0 a1 a2 a3 a4) := by
  intro a0 a1 a2 a3 a4 k
  obtain ⟨ih0, ih1, ih2⟩ := lambrequinlaw10_GraphMore.mono_l k
  unfold lambrequinlaw10_GraphMore.f
  repeat' first
      | (with_reducible exact ih0 _ _ _ _ _ _ _)
      | (with_reducible exact ih1 _ _ _ _ _ _ _)
      | (with_reducible exact ih2 _ _ _ _ _ _)
      | (with_reducible exact graph_Reach.mono _ _ _ _)
      | (with_reducible exact lambrequinlaw10_ends.mono _ _ _)
      | (with_reducible exact lambrequinlaw10_shown.mono _)
      | (with_reducible exact LeO.refl _)
      | (with_reducible exact LeO.none _)
      | (with_reducible refine LeO.ite ?_ ?_)
      | (with_reducible refine LeO.bind ?_ (fun _ => ?_))
      | exact ih0 _ _ _ _ _ _ _
      | exact ih1 _ _ _ _ _ _ _
      | exact ih2 _ _ _ _ _ _
      | exact graph_Reach.mono _ _ _ _
      | exact lambrequinlaw10_ends.mono _ _ _
      | exact lambrequinlaw10_shown.mono _
      | exact LeO.none _
      | refine LeO.ite ?_ ?_
      | refine LeO.bind ?_ (fun _ => ?_)
def lambrequinlaw10_GraphMore.T3 : Bool × List (List Nat × List Nat) := (true, [([], []), ([], []), ([0, 1], [0, 1]), ([], []), ([3], [3]), ([4], [4]), ([], []), ([5, 6], [5, 6]), ([], []), ([8], [8]), ([9], [9]), ([], []), ([10, 11], [10, 11]), ([7, 12], [7, 12]), ([13], [13]), ([2, 14, 2], [2, 14]), ([15, 15, 0, 1, 2, 3, 4, 5, 6, 7, 8, 9, 10, 11, 12, 13, 14, 15], [15])])
def lambrequinlaw10_GraphMore.B3 : List Nat := [0, 0, 3, 0, 8, 24, 0, 120, 0, 256, 768, 0, 3840, 8184, 16376, 32767, 65535]
theorem lambrequinlaw10_GraphMore.tab3 : rtab .any (opsOf Try.f7 3) = lambrequinlaw10_GraphMore.T3 := by kernel_rfl
theorem lambrequinlaw10_GraphMore.bits3 : waitsOk lambrequinlaw10_GraphMore.T3.2 lambrequinlaw10_GraphMore.B3 = true := by kernel_rfl
set_option maxHeartbeats 8000000 in
set_option maxRecDepth 100000 in
theorem lambrequinlaw10_GraphMore.calls (k : Nat) (a0 : Int) (A1 : Option Addr) (c1 : Nat) (l1 : List (S45)) (a2_0 : Int) (a2_1 : Int) (a3 : Int) (r : Bool) (w : World) (hr1 : Kd.C k45 w A1 l1.length l1) (hc1 : l1.length ≤ c1) (h : lambrequinlaw10_GraphMore.f k a0 l1 a2_0 a2_1 a3 = some r) :
    Calls Try.prog 7 #[.int .u8 a0, .slice A1 l1.length c1, .agg #[.int .u8 a2_0, .int .u8 a2_1], .int .u8 a3] w fun e w' => e = .returned (.bool r) ∧ Below w.heap.size w w' := by
  have hu45 := Try.underlying45
  have hu27 := Try.underlying27
  have HR1 := Aside0.mk hr1
  have HC1 := Aside0.mk hc1
  clear hr1 hc1
  have HB := Aside0.mk (Below.refl w.heap.size w)
  have H : ((lambrequinlaw10_shown.f k).bind fun t477 => ((lambrequinlaw10_ends.f k a0 l1).bind fun bt478 => ((some (([] : List (S27)) : List (S27))).bind fun y482 => (if y482.length + bt478.2.length < 8796093022208 then ((some (y482 ++ bt478.2 : List (S27))).bind fun y485 => (if bt478.1 = 0 then (none) else ((some (([(⟨Int.tmod (wrap64 (a2_0)) bt478.1, Int.tmod (wrap64 (a2_1)) bt478.1⟩ : S27)] : List (S27)) : List (S27))).bind fun y488 => (if y485.length + y488.length < 8796093022208 then ((some (y485 ++ y488 : List (S27))).bind fun y491 => ((graph_Reach.f k bt478.1 bt478.2 (Int.tmod (wrap64 (a3)) bt478.1)).bind fun t494 => ((graph_Reach.f k bt478.1 y491 (Int.tmod (wrap64 (a3)) bt478.1)).bind fun t497 => (if (t494.length : Int) = bt478.1 then (if (t497.length : Int) = bt478.1 then (if 0 ≤ (Int.tmod (wrap64 (a3)) bt478.1) then (if (Int.tmod (wrap64 (a3)) bt478.1) < (t494.length : Int) then (lambrequinlaw10_GraphMore.j0 k t477 bt478.1 bt478.2 y491 t494 t497 (!(rdOf false t494 (Int.tmod (wrap64 (a3)) bt478.1)))) else (none)) else (none)) else (lambrequinlaw10_GraphMore.j0 k t477 bt478.1 bt478.2 y491 t494 t497 true)) else (lambrequinlaw10_GraphMore.j0 k t477 bt478.1 bt478.2 y491 t494 t497 true))))) else (none))))) else (none))))) = some r := h
  clear h
  replace H := Option.bind_eq_some_iff.mp H
  obtain ⟨t477, A50, H⟩ := H
  replace H : ((lambrequinlaw10_ends.f k a0 l1).bind fun bt478 => ((some (([] : List (S27)) : List (S27))).bind fun y482 => (if y482.length + bt478.2.length < 8796093022208 then ((some (y482 ++ bt478.2 : List (S27))).bind fun y485 => (if bt478.1 = 0 then (none) else ((some (([(⟨Int.tmod (wrap64 (a2_0)) bt478.1, Int.tmod (wrap64 (a2_1)) bt478.1⟩ : S27)] : List (S27)) : List (S27))).bind fun y488 => (if y485.length + y488.length < 8796093022208 then ((some (y485 ++ y488 : List (S27))).bind fun y491 => ((graph_Reach.f k bt478.1 bt478.2 (Int.tmod (wrap64 (a3)) bt478.1)).bind fun t494 => ((graph_Reach.f k bt478.1 y491 (Int.tmod (wrap64 (a3)) bt478.1)).bind fun t497 => (if (t494.length : Int) = bt478.1 then (if (t497.length : Int) = bt478.1 then (if 0 ≤ (Int.tmod (wrap64 (a3)) bt478.1) then (if (Int.tmod (wrap64 (a3)) bt478.1) < (t494.length : Int) then (lambrequinlaw10_GraphMore.j0 k t477 bt478.1 bt478.2 y491 t494 t497 (!(rdOf false t494 (Int.tmod (wrap64 (a3)) bt478.1)))) else (none)) else (none)) else (lambrequinlaw10_GraphMore.j0 k t477 bt478.1 bt478.2 y491 t494 t497 true)) else (lambrequinlaw10_GraphMore.j0 k t477 bt478.1 bt478.2 y491 t494 t497 true))))) else (none))))) else (none)))) = some r := H
  have A5 := Aside0.mk A50
  clear A50
  replace H := Option.bind_eq_some_iff.mp H
  obtain ⟨⟨t478, t479⟩, A60, H⟩ := H
  replace H : ((some (([] : List (S27)) : List (S27))).bind fun y482 => (if y482.length + t479.length < 8796093022208 then ((some (y482 ++ t479 : List (S27))).bind fun y485 => (if t478 = 0 then (none) else ((some (([(⟨Int.tmod (wrap64 (a2_0)) t478, Int.tmod (wrap64 (a2_1)) t478⟩ : S27)] : List (S27)) : List (S27))).bind fun y488 => (if y485.length + y488.length < 8796093022208 then ((some (y485 ++ y488 : List (S27))).bind fun y491 => ((graph_Reach.f k t478 t479 (Int.tmod (wrap64 (a3)) t478)).bind fun t494 => ((graph_Reach.f k t478 y491 (Int.tmod (wrap64 (a3)) t478)).bind fun t497 => (if (t494.length : Int) = t478 then (if (t497.length : Int) = t478 then (if 0 ≤ (Int.tmod (wrap64 (a3)) t478) then (if (Int.tmod (wrap64 (a3)) t478) < (t494.length : Int) then (lambrequinlaw10_GraphMore.j0 k t477 t478 t479 y491 t494 t497 (!(rdOf false t494 (Int.tmod (wrap64 (a3)) t478)))) else (none)) else (none)) else (lambrequinlaw10_GraphMore.j0 k t477 t478 t479 y491 t494 t497 true)) else (lambrequinlaw10_GraphMore.j0 k t477 t478 t479 y491 t494 t497 true))))) else (none))))) else (none))) = some r := H
  have A6 := Aside0.mk A60
  clear A60
  obtain ⟨y482, hy482⟩ : ∃ y_ : List (S27), y_ = (([] : List (S27))) := ⟨_, rfl⟩
  replace H : (if y482.length + t479.length < 8796093022208 then ((some (y482 ++ t479 : List (S27))).bind fun y485 => (if t478 = 0 then (none) else ((some (([(⟨Int.tmod (wrap64 (a2_0)) t478, Int.tmod (wrap64 (a2_1)) t478⟩ : S27)] : List (S27)) : List (S27))).bind fun y488 => (if y485.length + y488.length < 8796093022208 then ((some (y485 ++ y488 : List (S27))).bind fun y491 => ((graph_Reach.f k t478 t479 (Int.tmod (wrap64 (a3)) t478)).bind fun t494 => ((graph_Reach.f k t478 y491 (Int.tmod (wrap64 (a3)) t478)).bind fun t497 => (if (t494.length : Int) = t478 then (if (t497.length : Int) = t478 then (if 0 ≤ (Int.tmod (wrap64 (a3)) t478) then (if (Int.tmod (wrap64 (a3)) t478) < (t494.length : Int) then (lambrequinlaw10_GraphMore.j0 k t477 t478 t479 y491 t494 t497 (!(rdOf false t494 (Int.tmod (wrap64 (a3)) t478)))) else (none)) else (none)) else (lambrequinlaw10_GraphMore.j0 k t477 t478 t479 y491 t494 t497 true)) else (lambrequinlaw10_GraphMore.j0 k t477 t478 t479 y491 t494 t497 true))))) else (none))))) else (none)) = some r := by first | (rw [hy482]; with_reducible exact H) | (have H2_ := (Option.bind_some _ _).symm.trans H; rw [hy482]; with_reducible exact H2_) | (have H2_ := (Option.bind_some _ _).symm.trans H; with_reducible exact H2_) | with_reducible exact H | (rw [hy482]; exact H) | exact H
  have Ny482 := Aside0.mk hy482
  clear hy482
  by_cases c7 : y482.length + t479.length < 8796093022208
  · rw [if_pos c7] at H
    have LMc7 := Aside0.mk c7
    clear c7
    obtain ⟨y485, hy485⟩ : ∃ y_ : List (S27), y_ = (y482 ++ t479) := ⟨_, rfl⟩
    replace H : (if t478 = 0 then (none) else ((some (([(⟨Int.tmod (wrap64 (a2_0)) t478, Int.tmod (wrap64 (a2_1)) t478⟩ : S27)] : List (S27)) : List (S27))).bind fun y488 => (if y485.length + y488.length < 8796093022208 then ((some (y485 ++ y488 : List (S27))).bind fun y491 => ((graph_Reach.f k t478 t479 (Int.tmod (wrap64 (a3)) t478)).bind fun t494 => ((graph_Reach.f k t478 y491 (Int.tmod (wrap64 (a3)) t478)).bind fun t497 => (if (t494.length : Int) = t478 then (if (t497.length : Int) = t478 then (if 0 ≤ (Int.tmod (wrap64 (a3)) t478) then (if (Int.tmod (wrap64 (a3)) t478) < (t494.length : Int) then (lambrequinlaw10_GraphMore.j0 k t477 t478 t479 y491 t494 t497 (!(rdOf false t494 (Int.tmod (wrap64 (a3)) t478)))) else (none)) else (none)) else (lambrequinlaw10_GraphMore.j0 k t477 t478 t479 y491 t494 t497 true)) else (lambrequinlaw10_GraphMore.j0 k t477 t478 t479 y491 t494 t497 true))))) else (none)))) = some r := by first | (rw [hy485]; with_reducible exact H) | (have H2_ := (Option.bind_some _ _).symm.trans H; rw [hy485]; with_reducible exact H2_) | (have H2_ := (Option.bind_some _ _).symm.trans H; with_reducible exact H2_) | with_reducible exact H | (rw [hy485]; exact H) | exact H
    have Ny485 := Aside0.mk hy485
    clear hy485
    by_cases c8 : t478 = 0
    · rw [if_pos c8] at H
      exact absurd H (by simp)
    · rw [if_neg c8] at H
      have c8b0 : (t478 == 0) = false := beq_eq_false_iff_ne.mpr c8
      have c8b1 : (t478 != 0) = true := bne_iff_ne.mpr c8
      obtain ⟨y488, hy488⟩ : ∃ y_ : List (S27), y_ = (([(⟨Int.tmod (wrap64 (a2_0)) t478, Int.tmod (wrap64 (a2_1)) t478⟩ : S27)] : List (S27))) := ⟨_, rfl⟩
      replace H : (if y485.length + y488.length < 8796093022208 then ((some (y485 ++ y488 : List (S27))).bind fun y491 => ((graph_Reach.f k t478 t479 (Int.tmod (wrap64 (a3)) t478)).bind fun t494 => ((graph_Reach.f k t478 y491 (Int.tmod (wrap64 (a3)) t478)).bind fun t497 => (if (t494.length : Int) = t478 then (if (t497.length : Int) = t478 then (if 0 ≤ (Int.tmod (wrap64 (a3)) t478) then (if (Int.tmod (wrap64 (a3)) t478) < (t494.length : Int) then (lambrequinlaw10_GraphMore.j0 k t477 t478 t479 y491 t494 t497 (!(rdOf false t494 (Int.tmod (wrap64 (a3)) t478)))) else (none)) else (none)) else (lambrequinlaw10_GraphMore.j0 k t477 t478 t479 y491 t494 t497 true)) else (lambrequinlaw10_GraphMore.j0 k t477 t478 t479 y491 t494 t497 true))))) else (none)) = some r := by first | (rw [hy488]; with_reducible exact H) | (have H2_ := (Option.bind_some _ _).symm.trans H; rw [hy488]; with_reducible exact H2_) | (have H2_ := (Option.bind_some _ _).symm.trans H; with_reducible exact H2_) | with_reducible exact H | (rw [hy488]; exact H) | exact H
      have Ny488 := Aside0.mk hy488
      clear hy488
      by_cases c9 : y485.length + y488.length < 8796093022208
      · rw [if_pos c9] at H
        have LMc9 := Aside0.mk c9
        clear c9
        obtain ⟨y491, hy491⟩ : ∃ y_ : List (S27), y_ = (y485 ++ y488) := ⟨_, rfl⟩
        replace H : ((graph_Reach.f k t478 t479 (Int.tmod (wrap64 (a3)) t478)).bind fun t494 => ((graph_Reach.f k t478 y491 (Int.tmod (wrap64 (a3)) t478)).bind fun t497 => (if (t494.length : Int) = t478 then (if (t497.length : Int) = t478 then (if 0 ≤ (Int.tmod (wrap64 (a3)) t478) then (if (Int.tmod (wrap64 (a3)) t478) < (t494.length : Int) then (lambrequinlaw10_GraphMore.j0 k t477 t478 t479 y491 t494 t497 (!(rdOf false t494 (Int.tmod (wrap64 (a3)) t478)))) else (none)) else (none)) else (lambrequinlaw10_GraphMore.j0 k t477 t478 t479 y491 t494 t497 true)) else (lambrequinlaw10_GraphMore.j0 k t477 t478 t479 y491 t494 t497 true)))) = some r := by first | (rw [hy491]; with_reducible exact H) | (have H2_ := (Option.bind_some _ _).symm.trans H; rw [hy491]; with_reducible exact H2_) | (have H2_ := (Option.bind_some _ _).symm.trans H; with_reducible exact H2_) | with_reducible exact H | (rw [hy491]; exact H) | exact H
        have Ny491 := Aside0.mk hy491
        clear hy491
        replace H := Option.bind_eq_some_iff.mp H
        obtain ⟨t494, A100, H⟩ := H
        replace H : ((graph_Reach.f k t478 y491 (Int.tmod (wrap64 (a3)) t478)).bind fun t497 => (if (t494.length : Int) = t478 then (if (t497.length : Int) = t478 then (if 0 ≤ (Int.tmod (wrap64 (a3)) t478) then (if (Int.tmod (wrap64 (a3)) t478) < (t494.length : Int) then (lambrequinlaw10_GraphMore.j0 k t477 t478 t479 y491 t494 t497 (!(rdOf false t494 (Int.tmod (wrap64 (a3)) t478)))) else (none)) else (none)) else (lambrequinlaw10_GraphMore.j0 k t477 t478 t479 y491 t494 t497 true)) else (lambrequinlaw10_GraphMore.j0 k t477 t478 t479 y491 t494 t497 true))) = some r := H
        have A10 := Aside0.mk A100
        clear A100
        replace H := Option.bind_eq_some_iff.mp H
        obtain ⟨t497, A110, H⟩ := H
        replace H : (if (t494.length : Int) = t478 then (if (t497.length : Int) = t478 then (if 0 ≤ (Int.tmod (wrap64 (a3)) t478) then (if (Int.tmod (wrap64 (a3)) t478) < (t494.length : Int) then (lambrequinlaw10_GraphMore.j0 k t477 t478 t479 y491 t494 t497 (!(rdOf false t494 (Int.tmod (wrap64 (a3)) t478)))) else (none)) else (none)) else (lambrequinlaw10_GraphMore.j0 k t477 t478 t479 y491 t494 t497 true)) else (lambrequinlaw10_GraphMore.j0 k t477 t478 t479 y491 t494 t497 true)) = some r := H
        have A11 := Aside0.mk A110
        clear A110
        have HC12 := Aside0.mk H
        clear H
        go_enter Try.func7, Try.ntmps7
        try go_wp2_with (first | ((with_reducible refine gate_dst (N := 6) rfl ?_); (try (refine gate_guard (by rfl) ?_; dsimp only)); refine box_event ?hg (N := 6) ?hd (cs := #[.int .u8 a2_0, .int .u8 a2_1]) (t := 45) ?hr ?_; (case hd => rfl); (case hg => rfl); (case hr => first | (go_simp; done) | (go_simp; rfl)); intro gb476 hg w13 hbox hb; have n0_ := Aside0.mk (below_step (by repeat (first | (with_reducible first | exact HB.out | apply below_alloc | apply pw_below_drewN | apply below_drew1) | exact HB.out)) hb); have n1_ := Aside0.mk (hbox); have n2_ := Aside0.mk ((by rw [hg]; exact (below_size (by repeat (first | (with_reducible first | exact HB.out | apply below_alloc | apply pw_below_drewN | apply below_drew1) | exact HB.out))) : w.heap.size ≤ gb476)); have n3_ := Aside0.mk ((by rw [hg]; exact (below_size (by repeat (first | (with_reducible first | exact HB.out | apply below_alloc | apply pw_below_drewN | apply below_drew1) | exact HB.out))) : w.heap.size ≤ gb476)); clear HB; have HB := n0_; have BK476 := n1_; have GW476 := n2_; have GE476 := n3_; clear n0_ n1_ n2_ n3_; clear hb hbox hg) | ((with_reducible refine gate_callee (f := 14) rfl ?_); refine goesL_ (some 19) rfl rfl Try.func14 (by kernel_rfl) rfl #[] rfl (by (try simp only [List.map_toArray, List.map_cons, List.map_nil]); first | done | rfl | (simp only [List.length_drop, List.length_take]; rfl)) ?_; (with_reducible refine (lambrequinlaw10_shown.calls k  t477 _ A5.out).mono ?_); rintro e w14 ⟨rfl, hb⟩; refine ⟨_, rfl, ?_⟩; have n0_ := Aside0.mk (blk_below (g := gb476) (o := .cells #[.int .u8 a2_0, .int .u8 a2_1] 45 (0, 0)) (by (with_reducible repeat (first | refine blk_drewN ?_ _ | refine blk_drew ?_ | refine blk_alloc ?_ _)); exact BK476.out) hb); have n1_ := Aside0.mk (below_step (by repeat (first | (with_reducible first | exact HB.out | apply below_alloc | apply pw_below_drewN | apply below_drew1 | refine below_set ?_ GE476.out) | exact HB.out)) hb); clear BK476; clear HB; have BK476 := n0_; have HB := n1_; clear n0_ n1_; (try clear hb); (try clear hb2); (try clear hk); (try clear hi)) | ((with_reducible refine gate_callee (f := 15) rfl ?_); refine goesL_ (some 23) rfl rfl Try.func15 (by kernel_rfl) rfl #[.int .u8 a0, .slice A1 l1.length c1] rfl (by (try simp only [List.map_toArray, List.map_cons, List.map_nil]); first | done | rfl | (simp only [List.length_drop, List.length_take]; rfl)) ?_; (with_reducible refine (lambrequinlaw10_ends.calls k a0 _ _ l1 t478 t479 _ ?side1 ?side2 A6.out).mono ?_); (case side1 => repeat (first | exact (Kd.C_below HR1.out HB.out) | (with_reducible refine Kd.C_alloc ?_ _) | (with_reducible refine Kd.C_drewN ?_ _) | (with_reducible refine Kd.C_drew ?_))); (case side2 => exact HC1.out); rintro e w15 ⟨v480, rfl, ho0, hb⟩; refine ⟨_, rfl, ?_⟩; have n0_ := Aside0.mk (Kd.R_lower ho0 (below_size (by repeat (first | (with_reducible first | exact HB.out | apply below_alloc | apply pw_below_drewN | apply below_drew1 | refine below_set ?_ GE476.out) | exact HB.out)))); have n1_ := Aside0.mk (blk_below (g := gb476) (o := .cells #[.int .u8 a2_0, .int .u8 a2_1] 45 (0, 0)) (by (with_reducible repeat (first | refine blk_drewN ?_ _ | refine blk_drew ?_ | refine blk_alloc ?_ _)); exact BK476.out) hb); have n2_ := Aside0.mk (below_step (by repeat (first | (with_reducible first | exact HB.out | apply below_alloc | apply pw_below_drewN | apply below_drew1 | refine below_set ?_ GE476.out) | exact HB.out)) hb); clear BK476; clear HB; have HO481 := n0_; have BK476 := n1_; have HB := n2_; clear n0_ n1_ n2_; (try clear hb); (try clear hb2); (try clear hk); (try clear hi); (try clear ho0); obtain ⟨Ao16, co16, eo16⟩ := Kd.R_slice HO481.out; subst eo16))
        have n0_ := Aside0.mk (Kd.R_drew HO481.out)
        have n1_ := Aside0.mk (blk_drew BK476.out)
        have n2_ := Aside0.mk (below_drew1 HB.out)
        clear HO481
        clear BK476
        clear HB
        have HO481 := n0_
        have BK476 := n1_
        have HB := n2_
        clear n0_ n1_ n2_
        refine start_ (n := 17) (S := fun w' => w'.cell? ⟨gb476, 0, none⟩ = some (.int .u8 a2_0) ∧ w'.cell? ⟨gb476, 1, none⟩ = some (.int .u8 a2_1)) (ds := []) #[false, false, false, false, false, false, false, false, false, false, false, false, false, false, false, false, false] (by kernel_rfl) rfl rfl ⟨(blk_cell BK476.out 0).trans rfl, (blk_cell BK476.out 1).trans rfl⟩ (fun hHeld => ?_); refine with_tabW lambrequinlaw10_GraphMore.tab3 lambrequinlaw10_GraphMore.bits3 (fun HT_ HW_ => ?_)
        generalize w15.drew = w17 at HO481 BK476 HB hHeld ⊢
        refine pure_ (i := 1) (N := some 27) (v := ?_) (a' := ?_) #[false, true, false, false, false, false, false, false, false, false, false, false, false, false, false, false, false] rfl rfl (any_of HT_.out (by kernel_rfl)) (fun _ _ _ h => h) (Or.inl ⟨by rfl, ?_⟩) ?_ ?_
        rotate_left
        · intro w'
          go_simp
          with_reducible rfl
        rotate_left
        · simp only [Act.put, List.setIfInBounds_toArray, List.set_cons_zero, List.set_cons_succ, i64_w, i32_w]
          rfl
        refine pure_ (i := 3) (N := some 29) (v := ?_) (a' := ?_) #[false, true, false, true, false, false, false, false, false, false, false, false, false, false, false, false, false] rfl rfl (any_of HT_.out (by kernel_rfl)) (fun _ _ _ h => h) (Or.inl ⟨by rfl, ?_⟩) ?_ ?_
        rotate_left
        · intro w'
          go_simp
          with_reducible rfl
        rotate_left
        · simp only [Act.put, List.setIfInBounds_toArray, List.set_cons_zero, List.set_cons_succ, i64_w, i32_w]
          rfl
        refine pure_ (i := 6) (N := some 32) (v := ?_) (a' := ?_) #[false, true, false, true, false, false, true, false, false, false, false, false, false, false, false, false, false] rfl rfl (any_of HT_.out (by kernel_rfl)) (fun _ _ _ h => h) (Or.inl ⟨by rfl, ?_⟩) ?_ ?_
        rotate_left
        · intro w'
          go_simp
          with_reducible rfl
        rotate_left
        · simp only [Act.put, List.setIfInBounds_toArray, List.set_cons_zero, List.set_cons_succ, i64_w, i32_w]
          rfl
        refine pure_ (i := 8) (N := some 34) (v := ?_) (a' := ?_) #[false, true, false, true, false, false, true, false, true, false, false, false, false, false, false, false, false] rfl rfl (any_of HT_.out (by kernel_rfl)) (fun _ _ _ h => h) (Or.inl ⟨by rfl, ?_⟩) ?_ ?_
        rotate_left
        · intro w'
          go_simp
          with_reducible rfl
        rotate_left
        · simp only [Act.put, List.setIfInBounds_toArray, List.set_cons_zero, List.set_cons_succ, i64_w, i32_w]
          rfl
        refine pure_ (i := 11) (N := some 37) (v := ?_) (a' := ?_) #[false, true, false, true, false, false, true, false, true, false, false, true, false, false, false, false, false] rfl rfl (any_of HT_.out (by kernel_rfl)) (fun _ _ _ h => h) (Or.inl ⟨by rfl, ?_⟩) ?_ ?_
        rotate_left
        · intro w'
          go_simp
          with_reducible rfl
        rotate_left
        · simp only [Act.put, List.setIfInBounds_toArray, List.set_cons_zero, List.set_cons_succ, i64_w, i32_w]
          rfl
        refine take_ (i := 4) (N := some 30) (v := ?_) (a' := ?_) #[false, true, false, true, true, false, true, false, true, false, false, true, false, false, false, false, false] rfl rfl (take_ofW HT_.out HW_.out (by kernel_rfl)) (fun _ _ _ h => h) (Or.inl ⟨by rfl, ?_⟩) hHeld ?_ ?_
        rotate_left
        · rintro w' ⟨s0, s1⟩
          go_simp
          with_reducible rfl
        rotate_left
        · simp only [Act.put, List.setIfInBounds_toArray, List.set_cons_zero, List.set_cons_succ, i64_w, i32_w]
          rfl
        refine pure_ (i := 5) (N := some 31) (v := ?_) (a' := ?_) #[false, true, false, true, true, true, true, false, true, false, false, true, false, false, false, false, false] rfl rfl (any_of HT_.out (by kernel_rfl)) (fun _ _ _ h => h) (Or.inl ⟨by rfl, ?_⟩) ?_ ?_
        rotate_left
        · intro w'
          go_simp
          with_reducible rfl
        rotate_left
        · simp only [Act.put, List.setIfInBounds_toArray, List.set_cons_zero, List.set_cons_succ, i64_w, i32_w]
          rfl
        refine pure_ (i := 7) (N := some 33) (v := ?_) (a' := ?_) #[false, true, false, true, true, true, true, true, true, false, false, true, false, false, false, false, false] rfl rfl (any_of HT_.out (by kernel_rfl)) (fun _ _ _ h => h) (Or.inl ⟨by rfl, ?_⟩) ?_ ?_
        rotate_left
        · intro w'
          go_simp
          with_reducible rfl
        rotate_left
        · simp only [Act.put, List.setIfInBounds_toArray, List.set_cons_zero, List.set_cons_succ, i64_w, i32_w]
          rfl
        refine take_ (i := 9) (N := some 35) (v := ?_) (a' := ?_) #[false, true, false, true, true, true, true, true, true, true, false, true, false, false, false, false, false] rfl rfl (take_ofW HT_.out HW_.out (by kernel_rfl)) (fun _ _ _ h => h) (Or.inl ⟨by rfl, ?_⟩) hHeld ?_ ?_
        rotate_left
        · rintro w' ⟨s0, s1⟩
          go_simp
          with_reducible rfl
        rotate_left
        · simp only [Act.put, List.setIfInBounds_toArray, List.set_cons_zero, List.set_cons_succ, i64_w, i32_w]
          rfl
        refine pure_ (i := 10) (N := some 36) (v := ?_) (a' := ?_) #[false, true, false, true, true, true, true, true, true, true, true, true, false, false, false, false, false] rfl rfl (any_of HT_.out (by kernel_rfl)) (fun _ _ _ h => h) (Or.inl ⟨by rfl, ?_⟩) ?_ ?_
        rotate_left
        · intro w'
          go_simp
          with_reducible rfl
        rotate_left
        · simp only [Act.put, List.setIfInBounds_toArray, List.set_cons_zero, List.set_cons_succ, i64_w, i32_w]
          rfl
        refine pure_ (i := 12) (N := some 38) (v := ?_) (a' := ?_) #[false, true, false, true, true, true, true, true, true, true, true, true, true, false, false, false, false] rfl rfl (any_of HT_.out (by kernel_rfl)) (fun _ _ _ h => h) (Or.inl ⟨by rfl, ?_⟩) ?_ ?_
        rotate_left
        · intro w'
          go_simp
          with_reducible rfl
        rotate_left
        · simp only [Act.put, List.setIfInBounds_toArray, List.set_cons_zero, List.set_cons_succ, i64_w, i32_w]
          rfl
        refine pure_ (i := 13) (N := some 39) (v := ?_) (a' := ?_) #[false, true, false, true, true, true, true, true, true, true, true, true, true, true, false, false, false] rfl rfl (any_of HT_.out (by kernel_rfl)) (fun _ _ _ h => h) (Or.inl ⟨by rfl, ?_⟩) ?_ ?_
        rotate_left
        · intro w'
          go_simp
          with_reducible rfl
        rotate_left
        · simp only [Act.put, List.setIfInBounds_toArray, List.set_cons_zero, List.set_cons_succ, i64_w, i32_w]
          rfl
        refine join_ (σ := Value × Value × Value) 2 #[true, true, true, true, true, true, true, true, true, true, true, true, true, true, true, false, false] (fun s_ => [(26, s_.1), (28, s_.2.1), (40, s_.2.2)]) (fun s_ w' => (w'.cell? ⟨gb476, 0, none⟩ = some (.int .u8 a2_0) ∧ w'.cell? ⟨gb476, 1, none⟩ = some (.int .u8 a2_1)) ∧ (Kd.R k27 27 w' w.heap.size (fun k_ => some k_ ≠ (s_.2.1 : Value).ownBlock ∧ some k_ ≠ (s_.2.2 : Value).ownBlock) (.slice Ao16 t479.length co16) t479) ∧ (Kd.R k27 27 w' w.heap.size (fun k_ => some k_ ≠ (.slice Ao16 t479.length co16 : Value).ownBlock ∧ some k_ ≠ (s_.2.2 : Value).ownBlock) s_.2.1 y485) ∧ (Kd.R k27 27 w' w.heap.size (fun k_ => some k_ ≠ (.slice Ao16 t479.length co16 : Value).ownBlock ∧ some k_ ≠ (s_.2.1 : Value).ownBlock) s_.2.2 y488) ∧ (w'.heap[gb476]? = some (.cells #[.int .u8 a2_0, .int .u8 a2_1] 45 (0, 0))) ∧ (Below w.heap.size w w')) ?_ ?_
        rotate_left
        · intro hCont
          refine two_ (i := 0) (j := 14) (Ni := some 26) (Nj := some 40) #[true, true, false, true, true, true, true, true, true, true, true, true, true, true, false, false, false] #[false, true, false, true, true, true, true, true, true, true, true, true, true, true, true, false, false] rfl rfl rfl rfl (Go.Proofs.YtngmdccheaidkaaW.PrintLast.two_of HT_.out (by kernel_rfl)) (by decide) (by decide) (fun K hK => ?_) (fun K hK => ?_)
          · skip
            refine Kd.R_lit_step k27 _ 27 ?hg (N := 26) ?hd (xs := ([] : List (S27))) (inner := []) (ok := fun _ => True) (okp := fun _ => True) ?hr ?hp (fun _ hk => hk) trivial (Below.refl _ _) (Nat.le_refl _) (by simp) ?_; (case hd => rfl); (case hg => rfl); (case hr => first | (go_simp; done) | (go_simp; rfl)); (case hp => exact (Reps.none _ _))
            intro v483 w18 ho19 hb hg_ hnew_
            clear hg_ hnew_
            (first | rw [← Ny482.out] at ho19 | (simp only [Int.reduceToNat] at ho19; rw [← Ny482.out] at ho19))
            have n0_ := Aside0.mk (Kd.R_elder' (by (with_reducible repeat (first | apply Kd.R_alloc | apply Kd.R_drewN | apply Kd.R_drew)); exact HO481.out) (Kd.R_base ho19) hb)
            have n1_ := Aside0.mk (Kd.R_lower (Kd.R_new' ho19 (Kd.R_lt (by (with_reducible repeat (first | apply Kd.R_alloc | apply Kd.R_drewN | apply Kd.R_drew)); exact HO481.out))) (below_size (by repeat (first | (with_reducible first | exact HB.out | apply below_alloc | apply pw_below_drewN | apply below_drew1 | refine below_set ?_ GE476.out) | exact HB.out))))
            have n2_ := Aside0.mk (blk_below (g := gb476) (o := .cells #[.int .u8 a2_0, .int .u8 a2_1] 45 (0, 0)) (by (with_reducible repeat (first | refine blk_drewN ?_ _ | refine blk_drew ?_ | refine blk_alloc ?_ _)); exact BK476.out) hb)
            have n3_ := Aside0.mk (below_step (by repeat (first | (with_reducible first | exact HB.out | apply below_alloc | apply pw_below_drewN | apply below_drew1 | refine below_set ?_ GE476.out) | exact HB.out)) hb)
            clear HO481
            clear BK476
            clear HB
            have HO481 := n0_
            have HO484 := n1_
            have BK476 := n2_
            have HB := n3_
            clear n0_ n1_ n2_ n3_
            clear hb ho19
            refine hK.out _ _ ⟨(blk_cell BK476.out 0).trans rfl, (blk_cell BK476.out 1).trans rfl⟩ (fun hHeld => ?_)
            clear hK K
            refine norm_ (a' := ?_) ?_ ?_
            rotate_left
            · show Act.put _ (some 26) _ = _
              simp only [Act.put, List.setIfInBounds_toArray, List.set_cons_zero, List.set_cons_succ, i64_w, i32_w]
              rfl
            refine two_ (i := 2) (j := 14) (Ni := some 28) (Nj := some 40) #[true, true, true, true, true, true, true, true, true, true, true, true, true, true, false, false, false] #[true, true, false, true, true, true, true, true, true, true, true, true, true, true, true, false, false] rfl rfl rfl rfl (Go.Proofs.YtngmdccheaidkaaW.PrintLast.two_of HT_.out (by kernel_rfl)) (by decide) (by decide) (fun K hK => ?_) (fun K hK => ?_)
            · skip
              refine Kd.R_append_rows_step k27 (w0 := w) w.heap.size (by rfl) (.tmp 26) (.tmp 27) 24 27 (.agg #[(.int .i64 0), (.int .i64 0)]) 16 rfl Try.underlying24 info27 rfl (by decide) (by omega) v483 y482 t479 _ _ _ (fun k_ => some k_ ≠ (.slice Ao16 t479.length co16 : Value).ownBlock) (fun _ => False) rfl rfl ?aO ?aR (fun _ _ h => h) (fun _ h => h.elim) ?aF ?aB ?aS ?aL ?_
              (case aR => repeat (first | exact (Kd.R_reads' HO481.out).2.2 | (with_reducible refine Kd.C_alloc ?_ _) | (with_reducible refine Kd.C_drewN ?_ _) | (with_reducible refine Kd.C_drew ?_)))
              (case aB => exact (by repeat (first | (with_reducible first | exact HB.out | apply below_alloc | apply pw_below_drewN | apply below_drew1 | refine below_set ?_ GE476.out) | exact HB.out)))
              (case aF => exact (fun k_ hk => Kd.fresh' (Kd.R_lt (by (with_reducible repeat (first | apply Kd.R_alloc | apply Kd.R_drewN | apply Kd.R_drew)); exact HO481.out)) k_ hk))
              (case aO => exact (by (with_reducible repeat (first | apply Kd.R_alloc | apply Kd.R_drewN | apply Kd.R_drew)); exact Kd.R_mono HO484.out (fun _ hk => hk.2)))
              (case aS => exact (below_size (by repeat (first | (with_reducible first | exact HB.out | apply below_alloc | apply pw_below_drewN | apply below_drew1 | refine below_set ?_ GE476.out) | exact HB.out))))
              (case aL => have := LMc7.out; omega)
              intro v486 w20 ho hb hg hat
              rw [← Ny485.out] at ho
              have n0_ := Aside0.mk (blk_grown (g := gb476) (o := .cells #[.int .u8 a2_0, .int .u8 a2_1] 45 (0, 0)) (by (with_reducible repeat (first | refine blk_drewN ?_ _ | refine blk_drew ?_ | refine blk_alloc ?_ _)); exact BK476.out) hg (Kd.R_ne HO484.out BK476.out (by decide)))
              have n1_ := Aside0.mk (Kd.R_after (ok := (fun _ => True)) (by (with_reducible repeat (first | apply Kd.R_alloc | apply Kd.R_drewN | apply Kd.R_drew)); exact HO481.out) hg hat)
              have n2_ := Aside0.mk (hb)
              have n3_ := Aside0.mk (ho)
              clear BK476
              clear HO481
              clear HB
              clear HO484
              have BK476 := n0_
              have HO481 := n1_
              have HB := n2_
              have HO487 := n3_
              clear n0_ n1_ n2_ n3_
              clear ho hb hg hat
              refine hK.out _ _ ⟨(blk_cell BK476.out 0).trans rfl, (blk_cell BK476.out 1).trans rfl⟩ (fun hHeld => ?_)
              clear hK K
              refine norm_ (a' := ?_) ?_ ?_
              rotate_left
              · show Act.put _ (some 28) _ = _
                simp only [Act.put, List.setIfInBounds_toArray, List.set_cons_zero, List.set_cons_succ, i64_w, i32_w]
                rfl
              refine one_ (i := 14) (N := some 40) #[true, true, true, true, true, true, true, true, true, true, true, true, true, true, true, false, false] rfl rfl (one_of HT_.out (by kernel_rfl)) (by decide) (fun K hK => ?_)
              refine Kd.R_lit_step k27 _ 27 ?hg (N := 40) ?hd (xs := ([(⟨Int.tmod (wrap64 (a2_0)) t478, Int.tmod (wrap64 (a2_1)) t478⟩ : S27)] : List (S27))) (inner := [.int .i64 (Int.tmod (wrap64 (a2_0)) t478), .int .i64 (Int.tmod (wrap64 (a2_1)) t478)]) (ok := fun _ => True) (okp := fun _ => True) ?hr ?hp (fun _ hk => hk) trivial (Below.refl _ _) (Nat.le_refl _) (by simp) ?_; (case hd => rfl); (case hg => rfl); (case hr => first | (go_simp; done) | (go_simp; rfl)); (case hp => exact (Reps.c2 (show Kd.M k27 _ _ _ (⟨Int.tmod (wrap64 (a2_0)) t478, Int.tmod (wrap64 (a2_1)) t478⟩ : S27) [.int .i64 (Int.tmod (wrap64 (a2_0)) t478), .int .i64 (Int.tmod (wrap64 (a2_1)) t478)] from (k27_mkM _ _ _ (⟨Int.tmod (wrap64 (a2_0)) t478, Int.tmod (wrap64 (a2_1)) t478⟩ : S27) )) (Reps.none _ _)))
              intro v489 w21 ho22 hb hg_ hnew_
              clear hg_ hnew_
              (first | rw [← Ny488.out] at ho22 | (simp only [Int.reduceToNat] at ho22; rw [← Ny488.out] at ho22))
              have n0_ := Aside0.mk (Kd.R_elder' (by (with_reducible repeat (first | apply Kd.R_alloc | apply Kd.R_drewN | apply Kd.R_drew)); exact HO481.out) (Kd.R_base ho22) hb)
              have n1_ := Aside0.mk (Kd.R_elder' (by (with_reducible repeat (first | apply Kd.R_alloc | apply Kd.R_drewN | apply Kd.R_drew)); exact HO487.out) (Kd.R_base ho22) hb)
              have n2_ := Aside0.mk (Kd.R_lower (Kd.R_new' (Kd.R_new' ho22 (Kd.R_lt (by (with_reducible repeat (first | apply Kd.R_alloc | apply Kd.R_drewN | apply Kd.R_drew)); exact HO481.out))) (Kd.R_lt (by (with_reducible repeat (first | apply Kd.R_alloc | apply Kd.R_drewN | apply Kd.R_drew)); exact HO487.out))) (below_size (by repeat (first | (with_reducible first | exact HB.out | apply below_alloc | apply pw_below_drewN | apply below_drew1 | refine below_set ?_ GE476.out) | exact HB.out))))
              have n3_ := Aside0.mk (blk_below (g := gb476) (o := .cells #[.int .u8 a2_0, .int .u8 a2_1] 45 (0, 0)) (by (with_reducible repeat (first | refine blk_drewN ?_ _ | refine blk_drew ?_ | refine blk_alloc ?_ _)); exact BK476.out) hb)
              have n4_ := Aside0.mk (below_step (by repeat (first | (with_reducible first | exact HB.out | apply below_alloc | apply pw_below_drewN | apply below_drew1 | refine below_set ?_ GE476.out) | exact HB.out)) hb)
              clear HO481
              clear HO487
              clear BK476
              clear HB
              have HO481 := n0_
              have HO487 := n1_
              have HO490 := n2_
              have BK476 := n3_
              have HB := n4_
              clear n0_ n1_ n2_ n3_ n4_
              clear hb ho22
              refine hK.out _ _ ⟨(blk_cell BK476.out 0).trans rfl, (blk_cell BK476.out 1).trans rfl⟩ (fun hHeld => ?_)
              clear hK K
              refine norm_ (a' := ?_) ?_ ?_
              rotate_left
              · show Act.put _ (some 40) _ = _
                simp only [Act.put, List.setIfInBounds_toArray, List.set_cons_zero, List.set_cons_succ, i64_w, i32_w]
                rfl
              exact norm_ (by simp only [putAll, Act.put, List.setIfInBounds_toArray, List.set_cons_zero, List.set_cons_succ]) (hCont (v483, v486, v489) _ ⟨hHeld, (by (with_reducible repeat (first | apply Kd.R_alloc | apply Kd.R_drewN | apply Kd.R_drew)); exact Kd.R_mono HO481.out (fun _ hk => ⟨hk.1.2, hk.2⟩)), (by (with_reducible repeat (first | apply Kd.R_alloc | apply Kd.R_drewN | apply Kd.R_drew)); exact HO487.out), (by (with_reducible repeat (first | apply Kd.R_alloc | apply Kd.R_drewN | apply Kd.R_drew)); exact Kd.R_mono HO490.out (fun _ hk => ⟨hk.1.2, hk.2⟩)), (by (with_reducible repeat (first | refine blk_drewN ?_ _ | refine blk_drew ?_ | refine blk_alloc ?_ _)); exact BK476.out), (by repeat (first | (with_reducible first | exact HB.out | apply below_alloc | apply pw_below_drewN | apply below_drew1 | refine below_set ?_ GE476.out) | exact HB.out))⟩)
            · skip
              refine Kd.R_lit_step k27 _ 27 ?hg (N := 40) ?hd (xs := ([(⟨Int.tmod (wrap64 (a2_0)) t478, Int.tmod (wrap64 (a2_1)) t478⟩ : S27)] : List (S27))) (inner := [.int .i64 (Int.tmod (wrap64 (a2_0)) t478), .int .i64 (Int.tmod (wrap64 (a2_1)) t478)]) (ok := fun _ => True) (okp := fun _ => True) ?hr ?hp (fun _ hk => hk) trivial (Below.refl _ _) (Nat.le_refl _) (by simp) ?_; (case hd => rfl); (case hg => rfl); (case hr => first | (go_simp; done) | (go_simp; rfl)); (case hp => exact (Reps.c2 (show Kd.M k27 _ _ _ (⟨Int.tmod (wrap64 (a2_0)) t478, Int.tmod (wrap64 (a2_1)) t478⟩ : S27) [.int .i64 (Int.tmod (wrap64 (a2_0)) t478), .int .i64 (Int.tmod (wrap64 (a2_1)) t478)] from (k27_mkM _ _ _ (⟨Int.tmod (wrap64 (a2_0)) t478, Int.tmod (wrap64 (a2_1)) t478⟩ : S27) )) (Reps.none _ _)))
              intro v489 w20 ho21 hb hg_ hnew_
              clear hg_ hnew_
              (first | rw [← Ny488.out] at ho21 | (simp only [Int.reduceToNat] at ho21; rw [← Ny488.out] at ho21))
              have n0_ := Aside0.mk (Kd.R_elder' (by (with_reducible repeat (first | apply Kd.R_alloc | apply Kd.R_drewN | apply Kd.R_drew)); exact HO481.out) (Kd.R_base ho21) hb)
              have n1_ := Aside0.mk (Kd.R_elder' (by (with_reducible repeat (first | apply Kd.R_alloc | apply Kd.R_drewN | apply Kd.R_drew)); exact HO484.out) (Kd.R_base ho21) hb)
              have n2_ := Aside0.mk (Kd.R_lower (Kd.R_new' (Kd.R_new' ho21 (Kd.R_lt (by (with_reducible repeat (first | apply Kd.R_alloc | apply Kd.R_drewN | apply Kd.R_drew)); exact HO481.out))) (Kd.R_lt (by (with_reducible repeat (first | apply Kd.R_alloc | apply Kd.R_drewN | apply Kd.R_drew)); exact HO484.out))) (below_size (by repeat (first | (with_reducible first | exact HB.out | apply below_alloc | apply pw_below_drewN | apply below_drew1 | refine below_set ?_ GE476.out) | exact HB.out))))
              have n3_ := Aside0.mk (blk_below (g := gb476) (o := .cells #[.int .u8 a2_0, .int .u8 a2_1] 45 (0, 0)) (by (with_reducible repeat (first | refine blk_drewN ?_ _ | refine blk_drew ?_ | refine blk_alloc ?_ _)); exact BK476.out) hb)
              have n4_ := Aside0.mk (below_step (by repeat (first | (with_reducible first | exact HB.out | apply below_alloc | apply pw_below_drewN | apply below_drew1 | refine below_set ?_ GE476.out) | exact HB.out)) hb)
              clear HO481
              clear HO484
              clear BK476
              clear HB
              have HO481 := n0_
              have HO484 := n1_
              have HO490 := n2_
              have BK476 := n3_
              have HB := n4_
              clear n0_ n1_ n2_ n3_ n4_
              clear hb ho21
              refine hK.out _ _ ⟨(blk_cell BK476.out 0).trans rfl, (blk_cell BK476.out 1).trans rfl⟩ (fun hHeld => ?_)
              clear hK K
              refine norm_ (a' := ?_) ?_ ?_
              rotate_left
              · show Act.put _ (some 40) _ = _
                simp only [Act.put, List.setIfInBounds_toArray, List.set_cons_zero, List.set_cons_succ, i64_w, i32_w]
                rfl
              refine one_ (i := 2) (N := some 28) #[true, true, true, true, true, true, true, true, true, true, true, true, true, true, true, false, false] rfl rfl (one_of HT_.out (by kernel_rfl)) (by decide) (fun K hK => ?_)
              refine Kd.R_append_rows_step k27 (w0 := w) w.heap.size (by rfl) (.tmp 26) (.tmp 27) 24 27 (.agg #[(.int .i64 0), (.int .i64 0)]) 16 rfl Try.underlying24 info27 rfl (by decide) (by omega) v483 y482 t479 _ _ _ (fun k_ => some k_ ≠ (.slice Ao16 t479.length co16 : Value).ownBlock ∧ some k_ ≠ (v489 : Value).ownBlock) (fun _ => False) rfl rfl ?aO ?aR (fun _ _ h => h) (fun _ h => h.elim) ?aF ?aB ?aS ?aL ?_
              (case aR => repeat (first | exact (Kd.R_reads' HO481.out).2.2 | (with_reducible refine Kd.C_alloc ?_ _) | (with_reducible refine Kd.C_drewN ?_ _) | (with_reducible refine Kd.C_drew ?_)))
              (case aB => exact (by repeat (first | (with_reducible first | exact HB.out | apply below_alloc | apply pw_below_drewN | apply below_drew1 | refine below_set ?_ GE476.out) | exact HB.out)))
              (case aF => exact (fun k_ hk => ⟨Kd.fresh' (Kd.R_lt (by (with_reducible repeat (first | apply Kd.R_alloc | apply Kd.R_drewN | apply Kd.R_drew)); exact HO481.out)) k_ hk, Kd.fresh' (Kd.R_lt (by (with_reducible repeat (first | apply Kd.R_alloc | apply Kd.R_drewN | apply Kd.R_drew)); exact HO490.out)) k_ hk⟩))
              (case aO => exact (by (with_reducible repeat (first | apply Kd.R_alloc | apply Kd.R_drewN | apply Kd.R_drew)); exact Kd.R_mono HO484.out (fun _ hk => ⟨hk.1.2, hk.2⟩)))
              (case aS => exact (below_size (by repeat (first | (with_reducible first | exact HB.out | apply below_alloc | apply pw_below_drewN | apply below_drew1 | refine below_set ?_ GE476.out) | exact HB.out))))
              (case aL => have := LMc7.out; omega)
              intro v486 w22 ho hb hg hat
              rw [← Ny485.out] at ho
              have n0_ := Aside0.mk (blk_grown (g := gb476) (o := .cells #[.int .u8 a2_0, .int .u8 a2_1] 45 (0, 0)) (by (with_reducible repeat (first | refine blk_drewN ?_ _ | refine blk_drew ?_ | refine blk_alloc ?_ _)); exact BK476.out) hg (Kd.R_ne HO484.out BK476.out (by decide)))
              have n1_ := Aside0.mk (Kd.R_after (ok := (fun k_ => some k_ ≠ (v489 : Value).ownBlock)) (by (with_reducible repeat (first | apply Kd.R_alloc | apply Kd.R_drewN | apply Kd.R_drew)); exact Kd.R_mono HO481.out (fun _ hk => ⟨hk.2, hk.1.2⟩)) hg hat)
              have n2_ := Aside0.mk (Kd.R_after (ok := (fun k_ => some k_ ≠ (.slice Ao16 t479.length co16 : Value).ownBlock)) (by (with_reducible repeat (first | apply Kd.R_alloc | apply Kd.R_drewN | apply Kd.R_drew)); exact Kd.R_mono HO490.out (fun _ hk => ⟨hk.1.2, hk.2⟩)) hg hat)
              have n3_ := Aside0.mk (hb)
              have n4_ := Aside0.mk (ho)
              clear BK476
              clear HO481
              clear HO490
              clear HB
              clear HO484
              have BK476 := n0_
              have HO481 := n1_
              have HO490 := n2_
              have HB := n3_
              have HO487 := n4_
              clear n0_ n1_ n2_ n3_ n4_
              clear ho hb hg hat
              refine hK.out _ _ ⟨(blk_cell BK476.out 0).trans rfl, (blk_cell BK476.out 1).trans rfl⟩ (fun hHeld => ?_)
              clear hK K
              refine norm_ (a' := ?_) ?_ ?_
              rotate_left
              · show Act.put _ (some 28) _ = _
                simp only [Act.put, List.setIfInBounds_toArray, List.set_cons_zero, List.set_cons_succ, i64_w, i32_w]
                rfl
              exact norm_ (by simp only [putAll, Act.put, List.setIfInBounds_toArray, List.set_cons_zero, List.set_cons_succ]) (hCont (v483, v486, v489) _ ⟨hHeld, (by (with_reducible repeat (first | apply Kd.R_alloc | apply Kd.R_drewN | apply Kd.R_drew)); exact Kd.R_mono HO481.out (fun _ hk => ⟨hk.2, hk.1⟩)), (by (with_reducible repeat (first | apply Kd.R_alloc | apply Kd.R_drewN | apply Kd.R_drew)); exact HO487.out), (by (with_reducible repeat (first | apply Kd.R_alloc | apply Kd.R_drewN | apply Kd.R_drew)); exact HO490.out), (by (with_reducible repeat (first | refine blk_drewN ?_ _ | refine blk_drew ?_ | refine blk_alloc ?_ _)); exact BK476.out), (by repeat (first | (with_reducible first | exact HB.out | apply below_alloc | apply pw_below_drewN | apply below_drew1 | refine below_set ?_ GE476.out) | exact HB.out))⟩)
          · skip
            refine Kd.R_lit_step k27 _ 27 ?hg (N := 40) ?hd (xs := ([(⟨Int.tmod (wrap64 (a2_0)) t478, Int.tmod (wrap64 (a2_1)) t478⟩ : S27)] : List (S27))) (inner := [.int .i64 (Int.tmod (wrap64 (a2_0)) t478), .int .i64 (Int.tmod (wrap64 (a2_1)) t478)]) (ok := fun _ => True) (okp := fun _ => True) ?hr ?hp (fun _ hk => hk) trivial (Below.refl _ _) (Nat.le_refl _) (by simp) ?_; (case hd => rfl); (case hg => rfl); (case hr => first | (go_simp; done) | (go_simp; rfl)); (case hp => exact (Reps.c2 (show Kd.M k27 _ _ _ (⟨Int.tmod (wrap64 (a2_0)) t478, Int.tmod (wrap64 (a2_1)) t478⟩ : S27) [.int .i64 (Int.tmod (wrap64 (a2_0)) t478), .int .i64 (Int.tmod (wrap64 (a2_1)) t478)] from (k27_mkM _ _ _ (⟨Int.tmod (wrap64 (a2_0)) t478, Int.tmod (wrap64 (a2_1)) t478⟩ : S27) )) (Reps.none _ _)))
            intro v489 w18 ho19 hb hg_ hnew_
            clear hg_ hnew_
            (first | rw [← Ny488.out] at ho19 | (simp only [Int.reduceToNat] at ho19; rw [← Ny488.out] at ho19))
            have n0_ := Aside0.mk (Kd.R_elder' (by (with_reducible repeat (first | apply Kd.R_alloc | apply Kd.R_drewN | apply Kd.R_drew)); exact HO481.out) (Kd.R_base ho19) hb)
            have n1_ := Aside0.mk (Kd.R_lower (Kd.R_new' ho19 (Kd.R_lt (by (with_reducible repeat (first | apply Kd.R_alloc | apply Kd.R_drewN | apply Kd.R_drew)); exact HO481.out))) (below_size (by repeat (first | (with_reducible first | exact HB.out | apply below_alloc | apply pw_below_drewN | apply below_drew1 | refine below_set ?_ GE476.out) | exact HB.out))))
            have n2_ := Aside0.mk (blk_below (g := gb476) (o := .cells #[.int .u8 a2_0, .int .u8 a2_1] 45 (0, 0)) (by (with_reducible repeat (first | refine blk_drewN ?_ _ | refine blk_drew ?_ | refine blk_alloc ?_ _)); exact BK476.out) hb)
            have n3_ := Aside0.mk (below_step (by repeat (first | (with_reducible first | exact HB.out | apply below_alloc | apply pw_below_drewN | apply below_drew1 | refine below_set ?_ GE476.out) | exact HB.out)) hb)
            clear HO481
            clear BK476
            clear HB
            have HO481 := n0_
            have HO490 := n1_
            have BK476 := n2_
            have HB := n3_
            clear n0_ n1_ n2_ n3_
            clear hb ho19
            refine hK.out _ _ ⟨(blk_cell BK476.out 0).trans rfl, (blk_cell BK476.out 1).trans rfl⟩ (fun hHeld => ?_)
            clear hK K
            refine norm_ (a' := ?_) ?_ ?_
            rotate_left
            · show Act.put _ (some 40) _ = _
              simp only [Act.put, List.setIfInBounds_toArray, List.set_cons_zero, List.set_cons_succ, i64_w, i32_w]
              rfl
            refine one_ (i := 0) (N := some 26) #[true, true, false, true, true, true, true, true, true, true, true, true, true, true, true, false, false] rfl rfl (one_of HT_.out (by kernel_rfl)) (by decide) (fun K hK => ?_)
            refine Kd.R_lit_step k27 _ 27 ?hg (N := 26) ?hd (xs := ([] : List (S27))) (inner := []) (ok := fun _ => True) (okp := fun _ => True) ?hr ?hp (fun _ hk => hk) trivial (Below.refl _ _) (Nat.le_refl _) (by simp) ?_; (case hd => rfl); (case hg => rfl); (case hr => first | (go_simp; done) | (go_simp; rfl)); (case hp => exact (Reps.none _ _))
            intro v483 w20 ho21 hb hg_ hnew_
            clear hg_ hnew_
            (first | rw [← Ny482.out] at ho21 | (simp only [Int.reduceToNat] at ho21; rw [← Ny482.out] at ho21))
            have n0_ := Aside0.mk (Kd.R_elder' (by (with_reducible repeat (first | apply Kd.R_alloc | apply Kd.R_drewN | apply Kd.R_drew)); exact HO481.out) (Kd.R_base ho21) hb)
            have n1_ := Aside0.mk (Kd.R_elder' (by (with_reducible repeat (first | apply Kd.R_alloc | apply Kd.R_drewN | apply Kd.R_drew)); exact HO490.out) (Kd.R_base ho21) hb)
            have n2_ := Aside0.mk (Kd.R_lower (Kd.R_new' (Kd.R_new' ho21 (Kd.R_lt (by (with_reducible repeat (first | apply Kd.R_alloc | apply Kd.R_drewN | apply Kd.R_drew)); exact HO481.out))) (Kd.R_lt (by (with_reducible repeat (first | apply Kd.R_alloc | apply Kd.R_drewN | apply Kd.R_drew)); exact HO490.out))) (below_size (by repeat (first | (with_reducible first | exact HB.out | apply below_alloc | apply pw_below_drewN | apply below_drew1 | refine below_set ?_ GE476.out) | exact HB.out))))
            have n3_ := Aside0.mk (blk_below (g := gb476) (o := .cells #[.int .u8 a2_0, .int .u8 a2_1] 45 (0, 0)) (by (with_reducible repeat (first | refine blk_drewN ?_ _ | refine blk_drew ?_ | refine blk_alloc ?_ _)); exact BK476.out) hb)
            have n4_ := Aside0.mk (below_step (by repeat (first | (with_reducible first | exact HB.out | apply below_alloc | apply pw_below_drewN | apply below_drew1 | refine below_set ?_ GE476.out) | exact HB.out)) hb)
            clear HO481
            clear HO490
            clear BK476
            clear HB
            have HO481 := n0_
            have HO490 := n1_
            have HO484 := n2_
            have BK476 := n3_
            have HB := n4_
            clear n0_ n1_ n2_ n3_ n4_
            clear hb ho21
            refine hK.out _ _ ⟨(blk_cell BK476.out 0).trans rfl, (blk_cell BK476.out 1).trans rfl⟩ (fun hHeld => ?_)
            clear hK K
            refine norm_ (a' := ?_) ?_ ?_
            rotate_left
            · show Act.put _ (some 26) _ = _
              simp only [Act.put, List.setIfInBounds_toArray, List.set_cons_zero, List.set_cons_succ, i64_w, i32_w]
              rfl
            refine one_ (i := 2) (N := some 28) #[true, true, true, true, true, true, true, true, true, true, true, true, true, true, true, false, false] rfl rfl (one_of HT_.out (by kernel_rfl)) (by decide) (fun K hK => ?_)
            refine Kd.R_append_rows_step k27 (w0 := w) w.heap.size (by rfl) (.tmp 26) (.tmp 27) 24 27 (.agg #[(.int .i64 0), (.int .i64 0)]) 16 rfl Try.underlying24 info27 rfl (by decide) (by omega) v483 y482 t479 _ _ _ (fun k_ => some k_ ≠ (.slice Ao16 t479.length co16 : Value).ownBlock ∧ some k_ ≠ (v489 : Value).ownBlock) (fun _ => False) rfl rfl ?aO ?aR (fun _ _ h => h) (fun _ h => h.elim) ?aF ?aB ?aS ?aL ?_
            (case aR => repeat (first | exact (Kd.R_reads' HO481.out).2.2 | (with_reducible refine Kd.C_alloc ?_ _) | (with_reducible refine Kd.C_drewN ?_ _) | (with_reducible refine Kd.C_drew ?_)))
            (case aB => exact (by repeat (first | (with_reducible first | exact HB.out | apply below_alloc | apply pw_below_drewN | apply below_drew1 | refine below_set ?_ GE476.out) | exact HB.out)))
            (case aF => exact (fun k_ hk => ⟨Kd.fresh' (Kd.R_lt (by (with_reducible repeat (first | apply Kd.R_alloc | apply Kd.R_drewN | apply Kd.R_drew)); exact HO481.out)) k_ hk, Kd.fresh' (Kd.R_lt (by (with_reducible repeat (first | apply Kd.R_alloc | apply Kd.R_drewN | apply Kd.R_drew)); exact HO490.out)) k_ hk⟩))
            (case aO => exact (by (with_reducible repeat (first | apply Kd.R_alloc | apply Kd.R_drewN | apply Kd.R_drew)); exact Kd.R_mono HO484.out (fun _ hk => ⟨hk.1.2, hk.2⟩)))
            (case aS => exact (below_size (by repeat (first | (with_reducible first | exact HB.out | apply below_alloc | apply pw_below_drewN | apply below_drew1 | refine below_set ?_ GE476.out) | exact HB.out))))
            (case aL => have := LMc7.out; omega)
            intro v486 w22 ho hb hg hat
            rw [← Ny485.out] at ho
            have n0_ := Aside0.mk (blk_grown (g := gb476) (o := .cells #[.int .u8 a2_0, .int .u8 a2_1] 45 (0, 0)) (by (with_reducible repeat (first | refine blk_drewN ?_ _ | refine blk_drew ?_ | refine blk_alloc ?_ _)); exact BK476.out) hg (Kd.R_ne HO484.out BK476.out (by decide)))
            have n1_ := Aside0.mk (Kd.R_after (ok := (fun k_ => some k_ ≠ (v489 : Value).ownBlock)) (by (with_reducible repeat (first | apply Kd.R_alloc | apply Kd.R_drewN | apply Kd.R_drew)); exact Kd.R_mono HO481.out (fun _ hk => ⟨hk.1.2, hk.2⟩)) hg hat)
            have n2_ := Aside0.mk (Kd.R_after (ok := (fun k_ => some k_ ≠ (.slice Ao16 t479.length co16 : Value).ownBlock)) (by (with_reducible repeat (first | apply Kd.R_alloc | apply Kd.R_drewN | apply Kd.R_drew)); exact Kd.R_mono HO490.out (fun _ hk => ⟨hk.1.2, hk.2⟩)) hg hat)
            have n3_ := Aside0.mk (hb)
            have n4_ := Aside0.mk (ho)
            clear BK476
            clear HO481
            clear HO490
            clear HB
            clear HO484
            have BK476 := n0_
            have HO481 := n1_
            have HO490 := n2_
            have HB := n3_
            have HO487 := n4_
            clear n0_ n1_ n2_ n3_ n4_
            clear ho hb hg hat
            refine hK.out _ _ ⟨(blk_cell BK476.out 0).trans rfl, (blk_cell BK476.out 1).trans rfl⟩ (fun hHeld => ?_)
            clear hK K
            refine norm_ (a' := ?_) ?_ ?_
            rotate_left
            · show Act.put _ (some 28) _ = _
              simp only [Act.put, List.setIfInBounds_toArray, List.set_cons_zero, List.set_cons_succ, i64_w, i32_w]
              rfl
            exact norm_ (by simp only [putAll, Act.put, List.setIfInBounds_toArray, List.set_cons_zero, List.set_cons_succ]) (hCont (v483, v486, v489) _ ⟨hHeld, (by (with_reducible repeat (first | apply Kd.R_alloc | apply Kd.R_drewN | apply Kd.R_drew)); exact Kd.R_mono HO481.out (fun _ hk => ⟨hk.2, hk.1⟩)), (by (with_reducible repeat (first | apply Kd.R_alloc | apply Kd.R_drewN | apply Kd.R_drew)); exact HO487.out), (by (with_reducible repeat (first | apply Kd.R_alloc | apply Kd.R_drewN | apply Kd.R_drew)); exact HO490.out), (by (with_reducible repeat (first | refine blk_drewN ?_ _ | refine blk_drew ?_ | refine blk_alloc ?_ _)); exact BK476.out), (by repeat (first | (with_reducible first | exact HB.out | apply below_alloc | apply pw_below_drewN | apply below_drew1 | refine below_set ?_ GE476.out) | exact HB.out))⟩)
        rintro ⟨v483, v486, v489⟩ w23 ⟨hS_, h0_, h1_, h2_, h3_, h4_⟩
        have n0_ : Aside0 (Kd.R k27 27 w23 w.heap.size (fun k_ => some k_ ≠ (v486 : Value).ownBlock ∧ some k_ ≠ (v489 : Value).ownBlock) (.slice Ao16 t479.length co16) t479) := ⟨h0_⟩
        have n1_ : Aside0 (Kd.R k27 27 w23 w.heap.size (fun k_ => some k_ ≠ (.slice Ao16 t479.length co16 : Value).ownBlock ∧ some k_ ≠ (v489 : Value).ownBlock) v486 y485) := ⟨h1_⟩
        have n2_ : Aside0 (Kd.R k27 27 w23 w.heap.size (fun k_ => some k_ ≠ (.slice Ao16 t479.length co16 : Value).ownBlock ∧ some k_ ≠ (v486 : Value).ownBlock) v489 y488) := ⟨h2_⟩
        have n3_ : Aside0 (w23.heap[gb476]? = some (.cells #[.int .u8 a2_0, .int .u8 a2_1] 45 (0, 0))) := ⟨h3_⟩
        have n4_ : Aside0 (Below w.heap.size w w23) := ⟨h4_⟩
        clear HO481
        clear BK476
        clear HB
        clear h0_ h1_ h2_ h3_ h4_
        have HO481 := n0_
        have HO487 := n1_
        have HO490 := n2_
        have BK476 := n3_
        have HB := n4_
        clear n0_ n1_ n2_ n3_ n4_
        have hHeld : w23.cell? ⟨gb476, 0, none⟩ = some (.int .u8 a2_0) ∧ w23.cell? ⟨gb476, 1, none⟩ = some (.int .u8 a2_1) := hS_
        obtain ⟨Ao25, co25, eo25⟩ := Kd.R_slice HO490.out
        (first | subst eo25 | (injection eo25 with f1_ f2_ f3_; have f4_ := f1_.symm; have f5_ := f3_.symm; clear f1_ f2_ f3_; subst f4_; subst f5_))
        refine norm_ (a' := ?_) ?_ ?_
        rotate_left
        · simp only [putAll, Act.put, List.setIfInBounds_toArray, List.set_cons_zero, List.set_cons_succ]
          rfl
        refine one_ (i := 15) (N := some 41) #[true, true, true, true, true, true, true, true, true, true, true, true, true, true, true, true, false] rfl rfl (one_of HT_.out (by kernel_rfl)) (by decide) (fun K hK => ?_)
        refine Kd.R_append_rows_step k27 (w0 := w) w.heap.size (by rfl) (.tmp 28) (.tmp 40) 24 27 (.agg #[(.int .i64 0), (.int .i64 0)]) 16 rfl Try.underlying24 info27 rfl (by decide) (by omega) v486 y485 y488 _ _ _ (fun k_ => some k_ ≠ (.slice Ao16 t479.length co16 : Value).ownBlock ∧ some k_ ≠ (.slice Ao25 y488.length co25 : Value).ownBlock) (fun _ => False) rfl rfl ?aO ?aR (fun _ _ h => h) (fun _ h => h.elim) ?aF ?aB ?aS ?aL ?_
        (case aR => repeat (first | exact (Kd.R_reads' HO490.out).2.2 | (with_reducible refine Kd.C_alloc ?_ _) | (with_reducible refine Kd.C_drewN ?_ _) | (with_reducible refine Kd.C_drew ?_)))
        (case aB => exact (by repeat (first | (with_reducible first | exact HB.out | apply below_alloc | apply pw_below_drewN | apply below_drew1 | refine below_set ?_ GE476.out) | exact HB.out)))
        (case aF => exact (fun k_ hk => ⟨Kd.fresh' (Kd.R_lt (by (with_reducible repeat (first | apply Kd.R_alloc | apply Kd.R_drewN | apply Kd.R_drew)); exact HO481.out)) k_ hk, Kd.fresh' (Kd.R_lt (by (with_reducible repeat (first | apply Kd.R_alloc | apply Kd.R_drewN | apply Kd.R_drew)); exact HO490.out)) k_ hk⟩))
        (case aO => exact (by (with_reducible repeat (first | apply Kd.R_alloc | apply Kd.R_drewN | apply Kd.R_drew)); exact HO487.out))
        (case aS => exact (below_size (by repeat (first | (with_reducible first | exact HB.out | apply below_alloc | apply pw_below_drewN | apply below_drew1 | refine below_set ?_ GE476.out) | exact HB.out))))
        (case aL => have := LMc9.out; omega)
        intro v492 w24 ho hb hg hat
        rw [← Ny491.out] at ho
        have n0_ := Aside0.mk (blk_grown (g := gb476) (o := .cells #[.int .u8 a2_0, .int .u8 a2_1] 45 (0, 0)) (by (with_reducible repeat (first | refine blk_drewN ?_ _ | refine blk_drew ?_ | refine blk_alloc ?_ _)); exact BK476.out) hg (Kd.R_ne HO487.out BK476.out (by decide)))
        have n1_ := Aside0.mk (Kd.R_after (ok := (fun k_ => some k_ ≠ (.slice Ao25 y488.length co25 : Value).ownBlock)) (by (with_reducible repeat (first | apply Kd.R_alloc | apply Kd.R_drewN | apply Kd.R_drew)); exact Kd.R_mono HO481.out (fun _ hk => ⟨hk.2, hk.1⟩)) hg hat)
        have n2_ := Aside0.mk (Kd.R_after (ok := (fun k_ => some k_ ≠ (.slice Ao16 t479.length co16 : Value).ownBlock)) (by (with_reducible repeat (first | apply Kd.R_alloc | apply Kd.R_drewN | apply Kd.R_drew)); exact HO490.out) hg hat)
        have n3_ := Aside0.mk (hb)
        have n4_ := Aside0.mk (ho)
        clear BK476
        clear HO481
        clear HO490
        clear HB
        clear HO487
        have BK476 := n0_
        have HO481 := n1_
        have HO490 := n2_
        have HB := n3_
        have HO493 := n4_
        clear n0_ n1_ n2_ n3_ n4_
        clear ho hb hg hat
        refine hK.out _ _ ⟨(blk_cell BK476.out 0).trans rfl, (blk_cell BK476.out 1).trans rfl⟩ (fun hHeld => ?_)
        clear hK K
        refine norm_ (a' := ?_) ?_ ?_
        rotate_left
        · show Act.put _ (some 41) _ = _
          simp only [Act.put, List.setIfInBounds_toArray, List.set_cons_zero, List.set_cons_succ, i64_w, i32_w]
          rfl
        refine pure_ (i := 16) (N := some 12) (v := ?_) (a' := ?_) #[true, true, true, true, true, true, true, true, true, true, true, true, true, true, true, true, true] rfl rfl (any_of HT_.out (by kernel_rfl)) (fun _ _ _ h => h) (Or.inl ⟨by rfl, ?_⟩) ?_ ?_
        rotate_left
        · intro w'
          go_simp
          with_reducible rfl
        rotate_left
        · simp only [Act.put, List.setIfInBounds_toArray, List.set_cons_zero, List.set_cons_succ, i64_w, i32_w]
          rfl
        refine done_ (done_of HT_.out (by kernel_rfl)) ?_
        go_upto_region 7 with (first | ((with_reducible refine gate_callee (f := 22) rfl ?_); refine goesL_ (some 49) rfl rfl Try.func22 (by kernel_rfl) rfl #[.int .i64 t478, .slice Ao16 t479.length co16, .int .i64 (Int.tmod (wrap64 (a3)) t478)] rfl (by (try simp only [List.map_toArray, List.map_cons, List.map_nil]); first | done | rfl | (simp only [List.length_drop, List.length_take]; rfl)) ?_; (with_reducible refine (graph_Reach.calls k t478 _ _ t479 (Int.tmod (wrap64 (a3)) t478) t494 _ ?side1 ?side2 A10.out).mono ?_); (case side1 => repeat (first | exact (Kd.R_reads' HO481.out).2.2 | (with_reducible refine Kd.C_alloc ?_ _) | (with_reducible refine Kd.C_drewN ?_ _) | (with_reducible refine Kd.C_drew ?_))); (case side2 => exact (Kd.R_reads' HO481.out).2.1); rintro e w26 ⟨v495, rfl, ho0, hb⟩; refine ⟨_, rfl, ?_⟩; have n0_ := Aside0.mk (Kd.R_below (by (with_reducible repeat (first | apply Kd.R_alloc | apply Kd.R_drewN | apply Kd.R_drew)); exact HO481.out) hb); have n1_ := Aside0.mk (Kd.R_below (by (with_reducible repeat (first | apply Kd.R_alloc | apply Kd.R_drewN | apply Kd.R_drew)); exact HO490.out) hb); have n2_ := Aside0.mk (Kd.R_below (by (with_reducible repeat (first | apply Kd.R_alloc | apply Kd.R_drewN | apply Kd.R_drew)); exact HO493.out) hb); have n3_ := Aside0.mk (Kd.R_lower ho0 (below_size (by repeat (first | (with_reducible first | exact HB.out | apply below_alloc | apply pw_below_drewN | apply below_drew1 | refine below_set ?_ GE476.out) | exact HB.out)))); have n4_ := Aside0.mk (blk_below (g := gb476) (o := .cells #[.int .u8 a2_0, .int .u8 a2_1] 45 (0, 0)) (by (with_reducible repeat (first | refine blk_drewN ?_ _ | refine blk_drew ?_ | refine blk_alloc ?_ _)); exact BK476.out) hb); have n5_ := Aside0.mk (below_step (by repeat (first | (with_reducible first | exact HB.out | apply below_alloc | apply pw_below_drewN | apply below_drew1 | refine below_set ?_ GE476.out) | exact HB.out)) hb); clear HO481; clear HO490; clear HO493; clear BK476; clear HB; have HO481 := n0_; have HO490 := n1_; have HO493 := n2_; have HO496 := n3_; have BK476 := n4_; have HB := n5_; clear n0_ n1_ n2_ n3_ n4_ n5_; (try clear hb); (try clear hb2); (try clear hk); (try clear hi); (try clear ho0); obtain ⟨Ao27, co27, eo27⟩ := Kd.R_slice HO493.out; subst eo27) | ((with_reducible refine gate_callee (f := 22) rfl ?_); refine goesL_ (some 53) rfl rfl Try.func22 (by kernel_rfl) rfl #[.int .i64 t478, .slice Ao27 y491.length co27, .int .i64 (Int.tmod (wrap64 (a3)) t478)] rfl (by (try simp only [List.map_toArray, List.map_cons, List.map_nil]); first | done | rfl | (simp only [List.length_drop, List.length_take]; rfl)) ?_; (with_reducible refine (graph_Reach.calls k t478 _ _ y491 (Int.tmod (wrap64 (a3)) t478) t497 _ ?side1 ?side2 A11.out).mono ?_); (case side1 => repeat (first | exact (Kd.R_reads' HO493.out).2.2 | (with_reducible refine Kd.C_alloc ?_ _) | (with_reducible refine Kd.C_drewN ?_ _) | (with_reducible refine Kd.C_drew ?_))); (case side2 => exact (Kd.R_reads' HO493.out).2.1); rintro e w28 ⟨v498, rfl, ho0, hb⟩; refine ⟨_, rfl, ?_⟩; have n0_ := Aside0.mk (Kd.R_below (by (with_reducible repeat (first | apply Kd.R_alloc | apply Kd.R_drewN | apply Kd.R_drew)); exact HO481.out) hb); have n1_ := Aside0.mk (Kd.R_below (by (with_reducible repeat (first | apply Kd.R_alloc | apply Kd.R_drewN | apply Kd.R_drew)); exact HO490.out) hb); have n2_ := Aside0.mk (Kd.R_below (by (with_reducible repeat (first | apply Kd.R_alloc | apply Kd.R_drewN | apply Kd.R_drew)); exact HO493.out) hb); have n3_ := Aside0.mk (Kd.R_elder' (by (with_reducible repeat (first | apply Kd.R_alloc | apply Kd.R_drewN | apply Kd.R_drew)); exact HO496.out) (Kd.R_base ho0) hb); have n4_ := Aside0.mk (Kd.R_lower (Kd.R_new' ho0 (Kd.R_lt (by (with_reducible repeat (first | apply Kd.R_alloc | apply Kd.R_drewN | apply Kd.R_drew)); exact HO496.out))) (below_size (by repeat (first | (with_reducible first | exact HB.out | apply below_alloc | apply pw_below_drewN | apply below_drew1 | refine below_set ?_ GE476.out) | exact HB.out)))); have n5_ := Aside0.mk (blk_below (g := gb476) (o := .cells #[.int .u8 a2_0, .int .u8 a2_1] 45 (0, 0)) (by (with_reducible repeat (first | refine blk_drewN ?_ _ | refine blk_drew ?_ | refine blk_alloc ?_ _)); exact BK476.out) hb); have n6_ := Aside0.mk (below_step (by repeat (first | (with_reducible first | exact HB.out | apply below_alloc | apply pw_below_drewN | apply below_drew1 | refine below_set ?_ GE476.out) | exact HB.out)) hb); clear HO481; clear HO490; clear HO493; clear HO496; clear BK476; clear HB; have HO481 := n0_; have HO490 := n1_; have HO493 := n2_; have HO496 := n3_; have HO499 := n4_; have BK476 := n5_; have HB := n6_; clear n0_ n1_ n2_ n3_ n4_ n5_ n6_; (try clear hb); (try clear hb2); (try clear hk); (try clear hi); (try clear ho0)))
        (try simp only [Act.put, List.setIfInBounds_toArray, List.set_cons_zero, List.set_cons_succ])
        go_cut [70] (fun v70 wc => ∃ (kq : Nat) (x70_11 : Bool), v70 = .bool x70_11 ∧ Aside0 (lambrequinlaw10_GraphMore.j0 kq t477 t478 t479 y491 t494 t497 x70_11 = some r) ∧ Aside0 (kq ≤ k) ∧ Aside0 (Kd.R k27 27 wc w.heap.size (fun k_ => some k_ ≠ ((.slice Ao27 y491.length co27) : Value).ownBlock) (.slice Ao16 t479.length co16) t479) ∧ Aside0 (Kd.R k27 27 wc w.heap.size (fun k_ => some k_ ≠ ((.slice Ao16 t479.length co16) : Value).ownBlock) (.slice Ao27 y491.length co27) y491) ∧ Aside0 (Kd.R Kd.bool 4 wc w.heap.size (fun k_ => some k_ ≠ (v498 : Value).ownBlock) v495 t494) ∧ Aside0 (Kd.R Kd.bool 4 wc w.heap.size (fun k_ => some k_ ≠ (v495 : Value).ownBlock) v498 t497) ∧ Aside0 (wc.heap[gb476]? = some (.cells #[.int .u8 a2_0, .int .u8 a2_1] 45 (0, 0))) ∧ Aside0 (Below w.heap.size w wc))
        case first =>
          have H := HC12.out
          clear HC12
          by_cases c29 : (t494.length : Int) = t478
          · rw [if_pos c29] at H
            have c29b0 : ((t494.length : Int) == t478) = true := beq_iff_eq.mpr c29
            have c29b1 : ((t494.length : Int) != t478) = false := bne_eq_false_iff_eq.mpr c29
            clear c29
            (first | rw [c29b0] | (simp only [i64_w, i32_w]; rw [c29b0]) | skip)
            by_cases c30 : (t497.length : Int) = t478
            · rw [if_pos c30] at H
              have c30b0 : ((t497.length : Int) == t478) = true := beq_iff_eq.mpr c30
              have c30b1 : ((t497.length : Int) != t478) = false := bne_eq_false_iff_eq.mpr c30
              clear c30
              obtain ⟨ji31, hji31⟩ : ∃ j_ : Int, (Int.tmod (wrap64 (a3)) t478) = j_ := ⟨_, rfl⟩
              replace H : (if 0 ≤ (ji31) then (if (ji31) < (t494.length : Int) then (lambrequinlaw10_GraphMore.j0 k t477 t478 t479 y491 t494 t497 (!(rdOf false t494 (ji31)))) else (none)) else (none)) = some r := by first | (rw [hji31] at H; exact H) | (simp only [hji31] at H ⊢; exact H)
              by_cases c32 : 0 ≤ (ji31)
              · rw [if_pos c32] at H
                have c32b0 : decide (0 ≤ (ji31)) = true := decide_eq_true c32
                clear c32
                by_cases c33 : (ji31) < (t494.length : Int)
                · rw [if_pos c33] at H
                  have c33b0 : decide ((ji31) < (t494.length : Int)) = true := decide_eq_true c33
                  clear c33
                  have H' := Aside0.mk H
                  clear H
                  obtain ⟨Ao34, co34, eo34⟩ := Kd.R_slice HO496.out
                  subst eo34
                  obtain ⟨Ao35, co35, eo35⟩ := Kd.R_slice HO499.out
                  subst eo35
                  have p500 : 0 ≤ ((ji31) : Int) := of_decide_eq_true (by first | (with_reducible assumption) | assumption)
                  have q500 : (ji31) < (t494.length : Int) := of_decide_eq_true (by first | (with_reducible assumption) | assumption)
                  obtain ⟨ad500, e500, hx500_0⟩ := Kd.at_bool (Kd.R_reads' HO496.out).2.2 (ji31) p500 q500
                  cases e500
                  replace p500 := eq_true p500
                  replace q500 := eq_true q500
                  go_wp2
                  go_meet
                  case rel => exact ⟨_, (!(rdOf false t494 (ji31))), (by first | rfl | (simp; done) | (simp only [← hji31] <;> (first | rfl | simp)) | (simp [*]; done)), H', ⟨by first | omega | exact Nat.le_refl _⟩, ⟨by (with_reducible repeat (first | apply Kd.R_alloc | apply Kd.R_drewN | apply Kd.R_drew)); exact Kd.R_mono HO481.out (fun _ hk => hk.2)⟩, ⟨by (with_reducible repeat (first | apply Kd.R_alloc | apply Kd.R_drewN | apply Kd.R_drew)); exact Kd.R_mono HO493.out (fun _ hk => hk.1)⟩, ⟨by (with_reducible repeat (first | apply Kd.R_alloc | apply Kd.R_drewN | apply Kd.R_drew)); exact Kd.R_mono HO496.out (fun _ hk => hk.2)⟩, ⟨by (with_reducible repeat (first | apply Kd.R_alloc | apply Kd.R_drewN | apply Kd.R_drew)); exact Kd.R_mono HO499.out (fun _ hk => hk.2)⟩, ⟨by (with_reducible repeat (first | refine blk_drewN ?_ _ | refine blk_drew ?_ | refine blk_alloc ?_ _)); exact BK476.out⟩, ⟨by repeat (first | (with_reducible first | exact HB.out | apply below_alloc | apply pw_below_drewN | apply below_drew1 | refine below_set ?_ GE476.out) | exact HB.out)⟩⟩
                · rw [if_neg c33] at H
                  exact absurd H (by simp)
              · rw [if_neg c32] at H
                exact absurd H (by simp)
            · rw [if_neg c30] at H
              have c30b0 : ((t497.length : Int) == t478) = false := beq_eq_false_iff_ne.mpr c30
              have c30b1 : ((t497.length : Int) != t478) = true := bne_iff_ne.mpr c30
              have H' := Aside0.mk H
              clear H
              obtain ⟨Ao36, co36, eo36⟩ := Kd.R_slice HO496.out
              subst eo36
              obtain ⟨Ao37, co37, eo37⟩ := Kd.R_slice HO499.out
              subst eo37
              go_wp2
              go_meet
              case rel => exact ⟨_, (true), (by first | rfl | (simp; done) | (simp [*]; done)), H', ⟨by first | omega | exact Nat.le_refl _⟩, ⟨by (with_reducible repeat (first | apply Kd.R_alloc | apply Kd.R_drewN | apply Kd.R_drew)); exact Kd.R_mono HO481.out (fun _ hk => hk.2)⟩, ⟨by (with_reducible repeat (first | apply Kd.R_alloc | apply Kd.R_drewN | apply Kd.R_drew)); exact Kd.R_mono HO493.out (fun _ hk => hk.1)⟩, ⟨by (with_reducible repeat (first | apply Kd.R_alloc | apply Kd.R_drewN | apply Kd.R_drew)); exact Kd.R_mono HO496.out (fun _ hk => hk.2)⟩, ⟨by (with_reducible repeat (first | apply Kd.R_alloc | apply Kd.R_drewN | apply Kd.R_drew)); exact Kd.R_mono HO499.out (fun _ hk => hk.2)⟩, ⟨by (with_reducible repeat (first | refine blk_drewN ?_ _ | refine blk_drew ?_ | refine blk_alloc ?_ _)); exact BK476.out⟩, ⟨by repeat (first | (with_reducible first | exact HB.out | apply below_alloc | apply pw_below_drewN | apply below_drew1 | refine below_set ?_ GE476.out) | exact HB.out)⟩⟩
          · rw [if_neg c29] at H
            have c29b0 : ((t494.length : Int) == t478) = false := beq_eq_false_iff_ne.mpr c29
            have c29b1 : ((t494.length : Int) != t478) = true := bne_iff_ne.mpr c29
            (first | rw [c29b0] | (simp only [i64_w, i32_w]; rw [c29b0]) | skip)
            have H' := Aside0.mk H
            clear H
            obtain ⟨Ao38, co38, eo38⟩ := Kd.R_slice HO496.out
            subst eo38
            go_wp2
            go_meet
            case rel => exact ⟨_, (true), (by first | rfl | (simp; done) | (simp [*]; done)), H', ⟨by first | omega | exact Nat.le_refl _⟩, ⟨by (with_reducible repeat (first | apply Kd.R_alloc | apply Kd.R_drewN | apply Kd.R_drew)); exact Kd.R_mono HO481.out (fun _ hk => hk.2)⟩, ⟨by (with_reducible repeat (first | apply Kd.R_alloc | apply Kd.R_drewN | apply Kd.R_drew)); exact Kd.R_mono HO493.out (fun _ hk => hk.1)⟩, ⟨by (with_reducible repeat (first | apply Kd.R_alloc | apply Kd.R_drewN | apply Kd.R_drew)); exact Kd.R_mono HO496.out (fun _ hk => hk.2)⟩, ⟨by (with_reducible repeat (first | apply Kd.R_alloc | apply Kd.R_drewN | apply Kd.R_drew)); exact Kd.R_mono HO499.out (fun _ hk => hk.2)⟩, ⟨by (with_reducible repeat (first | refine blk_drewN ?_ _ | refine blk_drew ?_ | refine blk_alloc ?_ _)); exact BK476.out⟩, ⟨by repeat (first | (with_reducible first | exact HB.out | apply below_alloc | apply pw_below_drewN | apply below_drew1 | refine below_set ?_ GE476.out) | exact HB.out)⟩⟩
        case rest =>
          clear HC12
          try clear c1
          try clear c2
          try clear p2
          try clear c3
          try clear p5
          try clear q5
          try clear hx5
          try clear p6
          try clear c7
          try clear c8
          try clear c8b0
          try clear c8b1
          try clear c9
          try clear c14
          try clear c15
          try clear c22
          try clear c29
          try clear c29b0
          try clear c29b1
          try clear c30
          try clear c30b0
          try clear c30b1
          try clear c32
          try clear c32b0
          try clear c33
          try clear c33b0
          try clear hx500_0
          try clear p500
          try clear q500
          obtain ⟨kq, x70_11, rfl, HA, HJ11, HO_11, HO_12, HO_14, HO_15, BK476, HB⟩ := hcut
          cases kq with
          | zero => exact absurd HA.out (by simp [lambrequinlaw10_GraphMore.j0])
          | succ kj11 =>
            have H := HA.out
            clear HA
            simp only [lambrequinlaw10_GraphMore.j0] at H
            by_cases c39 : x70_11 = true
            · subst c39
              have H1 : (some false) = some r := by rw [if_pos rfl] at H; exact H
              clear H
              have H := H1
              clear H1
              obtain rfl := Option.some.inj H
              go_wp2
              go_ret
              exact ⟨by first | rfl | (simp [errW_none, errW_some] <;> rfl) | (simp [*, errW_none, errW_some] <;> rfl), by repeat (first | (with_reducible first | exact HB.out | apply below_alloc | apply pw_below_drewN | apply below_drew1 | refine below_set ?_ GE476.out) | exact HB.out)⟩
            · replace c39 := Bool.eq_false_iff.mpr c39
              subst c39
              have H1 : (lambrequinlaw10_GraphMore.l0 kj11 t477 t478 t479 y491 t494 t497 0) = some r := by rw [if_neg (show ¬ (false = true) by decide)] at H; exact H
              clear H
              have H := H1
              clear H1
              have H' := Aside0.mk H
              clear H
              go_wp2
              go_loopg [16] kj11 (fun kq v16 w' => ∃ (x16_2 : Int), v16 = .int .i64 x16_2 ∧ Aside0 (lambrequinlaw10_GraphMore.l0 kq t477 t478 t479 y491 t494 t497 x16_2 = some r) ∧ Aside0 (kq ≤ kj11) ∧ Aside0 (Kd.R k27 27 w' w.heap.size (fun k_ => some k_ ≠ ((.slice Ao27 y491.length co27) : Value).ownBlock) (.slice Ao16 t479.length co16) t479) ∧ Aside0 (Kd.R k27 27 w' w.heap.size (fun k_ => some k_ ≠ ((.slice Ao16 t479.length co16) : Value).ownBlock) (.slice Ao27 y491.length co27) y491) ∧ Aside0 (Kd.R Kd.bool 4 w' w.heap.size (fun k_ => some k_ ≠ (v498 : Value).ownBlock) v495 t494) ∧ Aside0 (Kd.R Kd.bool 4 w' w.heap.size (fun k_ => some k_ ≠ (v495 : Value).ownBlock) v498 t497) ∧ Aside0 (w'.heap[gb476]? = some (.cells #[.int .u8 a2_0, .int .u8 a2_1] 45 (0, 0))) ∧ Aside0 (Below w.heap.size w w'))
              case atStart => exact ⟨(0), (by first | rfl | (simp; done) | (simp [*]; done)), H', ⟨Nat.le_refl _⟩, ⟨by (with_reducible repeat (first | apply Kd.R_alloc | apply Kd.R_drewN | apply Kd.R_drew)); exact HO_11.out⟩, ⟨by (with_reducible repeat (first | apply Kd.R_alloc | apply Kd.R_drewN | apply Kd.R_drew)); exact HO_12.out⟩, ⟨by (with_reducible repeat (first | apply Kd.R_alloc | apply Kd.R_drewN | apply Kd.R_drew)); exact HO_14.out⟩, ⟨by (with_reducible repeat (first | apply Kd.R_alloc | apply Kd.R_drewN | apply Kd.R_drew)); exact HO_15.out⟩, ⟨by (with_reducible repeat (first | refine blk_drewN ?_ _ | refine blk_drew ?_ | refine blk_alloc ?_ _)); exact BK476.out⟩, ⟨by repeat (first | (with_reducible first | exact HB.out | apply below_alloc | apply pw_below_drewN | apply below_drew1 | refine below_set ?_ GE476.out) | exact HB.out)⟩⟩
              case round =>
                clear H'
                try clear c1
                try clear c2
                try clear p2
                try clear c3
                try clear p5
                try clear q5
                try clear hx5
                try clear p6
                try clear c7
                try clear c8
                try clear c8b0
                try clear c8b1
                try clear c9
                try clear c14
                try clear c15
                try clear c22
                try clear c29
                try clear c29b0
                try clear c29b1
                try clear c30
                try clear c30b0
                try clear c30b1
                try clear c32
                try clear c32b0
                try clear c33
                try clear c33b0
                try clear c39
                try clear hx500_0
                try clear p2
                try clear p5
                try clear p500
                try clear p6
                try clear q5
                try clear q500
                obtain ⟨x16_2, rfl, HA, HK2, HO_11, HO_12, HO_14, HO_15, BK476, HB⟩ := hrel
                cases gk with
                | zero => exact absurd HA.out (by simp [lambrequinlaw10_GraphMore.l0])
                | succ k2 =>
                  have H := HA.out
                  clear HA
                  simp only [lambrequinlaw10_GraphMore.l0] at H
                  by_cases c40 : x16_2 < t478
                  · rw [if_pos c40] at H
                    have c40b0 : decide (x16_2 < t478) = true := decide_eq_true c40
                    clear c40
                    by_cases c41 : 0 ≤ x16_2
                    · rw [if_pos c41] at H
                      have c41b0 : decide (0 ≤ x16_2) = true := decide_eq_true c41
                      clear c41
                      by_cases c42 : x16_2 < (t494.length : Int)
                      · rw [if_pos c42] at H
                        have c42b0 : decide (x16_2 < (t494.length : Int)) = true := decide_eq_true c42
                        clear c42
                        obtain ⟨bq43, hbq43⟩ : ∃ b_ : Bool, b_ = (rdOf false t494 x16_2) := ⟨_, rfl⟩
                        replace H : (if bq43 = true then (if x16_2 < (t497.length : Int) then (if rdOf false t497 x16_2 = true then (lambrequinlaw10_GraphMore.l0 k2 t477 t478 t479 y491 t494 t497 (wrap64 (x16_2 + 1))) else (some false)) else (none)) else (lambrequinlaw10_GraphMore.l0 k2 t477 t478 t479 y491 t494 t497 (wrap64 (x16_2 + 1)))) = some r := by rw [← hbq43] at H; exact H
                        have Nbq43 := Aside0.mk hbq43
                        clear hbq43
                        by_cases c44 : bq43 = true
                        · subst c44
                          have H1 : (if x16_2 < (t497.length : Int) then (if rdOf false t497 x16_2 = true then (lambrequinlaw10_GraphMore.l0 k2 t477 t478 t479 y491 t494 t497 (wrap64 (x16_2 + 1))) else (some false)) else (none)) = some r := by rw [if_pos rfl] at H; exact H
                          clear H
                          have H := H1
                          clear H1
                          by_cases c45 : x16_2 < (t497.length : Int)
                          · rw [if_pos c45] at H
                            have c45b0 : decide (x16_2 < (t497.length : Int)) = true := decide_eq_true c45
                            clear c45
                            obtain ⟨bq46, hbq46⟩ : ∃ b_ : Bool, b_ = (rdOf false t497 x16_2) := ⟨_, rfl⟩
                            replace H : (if bq46 = true then (lambrequinlaw10_GraphMore.l0 k2 t477 t478 t479 y491 t494 t497 (wrap64 (x16_2 + 1))) else (some false)) = some r := by rw [← hbq46] at H; exact H
                            have Nbq46 := Aside0.mk hbq46
                            clear hbq46
                            by_cases c47 : bq46 = true
                            · subst c47
                              have H1 : (lambrequinlaw10_GraphMore.l0 k2 t477 t478 t479 y491 t494 t497 (wrap64 (x16_2 + 1))) = some r := by rw [if_pos rfl] at H; exact H
                              clear H
                              have H := H1
                              clear H1
                              have H' := Aside0.mk H
                              clear H
                              obtain ⟨Ao48, co48, eo48⟩ := Kd.R_slice HO_14.out
                              subst eo48
                              have p501 : 0 ≤ (x16_2 : Int) := of_decide_eq_true (by first | (with_reducible assumption) | assumption)
                              have q501 : x16_2 < (t494.length : Int) := of_decide_eq_true (by first | (with_reducible assumption) | assumption)
                              obtain ⟨ad501, e501, hx501_0⟩ := Kd.at_bool (Kd.R_reads' HO_14.out).2.2 x16_2 p501 q501
                              (try rw [← Nbq43.out] at hx501_0)
                              (try rw [← Nbq46.out] at hx501_0)
                              cases e501
                              replace p501 := eq_true p501
                              replace q501 := eq_true q501
                              obtain ⟨Ao49, co49, eo49⟩ := Kd.R_slice HO_15.out
                              subst eo49
                              have p502 : 0 ≤ (x16_2 : Int) := of_decide_eq_true (by first | (with_reducible assumption) | assumption)
                              have q502 : x16_2 < (t497.length : Int) := of_decide_eq_true (by first | (with_reducible assumption) | assumption)
                              obtain ⟨ad502, e502, hx502_0⟩ := Kd.at_bool (Kd.R_reads' HO_15.out).2.2 x16_2 p502 q502
                              (try rw [← Nbq43.out] at hx502_0)
                              (try rw [← Nbq46.out] at hx502_0)
                              cases e502
                              replace p502 := eq_true p502
                              replace q502 := eq_true q502
                              go_wp2
                              go_roundg k2
                              case measure => have := HJ11.out; have := HK2.out; omega
                              case rel => exact ⟨(wrap64 (x16_2 + 1)), (by first | rfl | (simp; done) | (simp [*]; done)), H', ⟨by have := HJ11.out; have := HK2.out; omega⟩, ⟨by (with_reducible repeat (first | apply Kd.R_alloc | apply Kd.R_drewN | apply Kd.R_drew)); exact HO_11.out⟩, ⟨by (with_reducible repeat (first | apply Kd.R_alloc | apply Kd.R_drewN | apply Kd.R_drew)); exact HO_12.out⟩, ⟨by (with_reducible repeat (first | apply Kd.R_alloc | apply Kd.R_drewN | apply Kd.R_drew)); exact HO_14.out⟩, ⟨by (with_reducible repeat (first | apply Kd.R_alloc | apply Kd.R_drewN | apply Kd.R_drew)); exact HO_15.out⟩, ⟨by (with_reducible repeat (first | refine blk_drewN ?_ _ | refine blk_drew ?_ | refine blk_alloc ?_ _)); exact BK476.out⟩, ⟨by repeat (first | (with_reducible first | exact HB.out | apply below_alloc | apply pw_below_drewN | apply below_drew1 | refine below_set ?_ GE476.out) | exact HB.out)⟩⟩
                            · replace c47 := Bool.eq_false_iff.mpr c47
                              subst c47
                              have H1 : (some false) = some r := by rw [if_neg (show ¬ (false = true) by decide)] at H; exact H
                              clear H
                              have H := H1
                              clear H1
                              obtain rfl := Option.some.inj H
                              obtain ⟨Ao50, co50, eo50⟩ := Kd.R_slice HO_14.out
                              subst eo50
                              have p501 : 0 ≤ (x16_2 : Int) := of_decide_eq_true (by first | (with_reducible assumption) | assumption)
                              have q501 : x16_2 < (t494.length : Int) := of_decide_eq_true (by first | (with_reducible assumption) | assumption)
                              obtain ⟨ad501, e501, hx501_0⟩ := Kd.at_bool (Kd.R_reads' HO_14.out).2.2 x16_2 p501 q501
                              (try rw [← Nbq43.out] at hx501_0)
                              (try rw [← Nbq46.out] at hx501_0)
                              cases e501
                              replace p501 := eq_true p501
                              replace q501 := eq_true q501
                              obtain ⟨Ao51, co51, eo51⟩ := Kd.R_slice HO_15.out
                              subst eo51
                              have p502 : 0 ≤ (x16_2 : Int) := of_decide_eq_true (by first | (with_reducible assumption) | assumption)
                              have q502 : x16_2 < (t497.length : Int) := of_decide_eq_true (by first | (with_reducible assumption) | assumption)
                              obtain ⟨ad502, e502, hx502_0⟩ := Kd.at_bool (Kd.R_reads' HO_15.out).2.2 x16_2 p502 q502
                              (try rw [← Nbq43.out] at hx502_0)
                              (try rw [← Nbq46.out] at hx502_0)
                              cases e502
                              replace p502 := eq_true p502
                              replace q502 := eq_true q502
                              go_wp2
                              go_ret
                              exact ⟨by first | rfl | (simp [errW_none, errW_some] <;> rfl) | (simp [*, errW_none, errW_some] <;> rfl), by repeat (first | (with_reducible first | exact HB.out | apply below_alloc | apply pw_below_drewN | apply below_drew1 | refine below_set ?_ GE476.out) | exact HB.out)⟩
                          · rw [if_neg c45] at H
                            exact absurd H (by simp)
                        · replace c44 := Bool.eq_false_iff.mpr c44
                          subst c44
                          have H1 : (lambrequinlaw10_GraphMore.l0 k2 t477 t478 t479 y491 t494 t497 (wrap64 (x16_2 + 1))) = some r := by rw [if_neg (show ¬ (false = true) by decide)] at H; exact H
                          clear H
                          have H := H1
                          clear H1
                          have H' := Aside0.mk H
                          clear H
                          obtain ⟨Ao52, co52, eo52⟩ := Kd.R_slice HO_14.out
                          subst eo52
                          have p501 : 0 ≤ (x16_2 : Int) := of_decide_eq_true (by first | (with_reducible assumption) | assumption)
                          have q501 : x16_2 < (t494.length : Int) := of_decide_eq_true (by first | (with_reducible assumption) | assumption)
                          obtain ⟨ad501, e501, hx501_0⟩ := Kd.at_bool (Kd.R_reads' HO_14.out).2.2 x16_2 p501 q501
                          (try rw [← Nbq43.out] at hx501_0)
                          cases e501
                          replace p501 := eq_true p501
                          replace q501 := eq_true q501
                          go_wp2
                          go_roundg k2
                          case measure => have := HJ11.out; have := HK2.out; omega
                          case rel => exact ⟨(wrap64 (x16_2 + 1)), (by first | rfl | (simp; done) | (simp [*]; done)), H', ⟨by have := HJ11.out; have := HK2.out; omega⟩, ⟨by (with_reducible repeat (first | apply Kd.R_alloc | apply Kd.R_drewN | apply Kd.R_drew)); exact HO_11.out⟩, ⟨by (with_reducible repeat (first | apply Kd.R_alloc | apply Kd.R_drewN | apply Kd.R_drew)); exact HO_12.out⟩, ⟨by (with_reducible repeat (first | apply Kd.R_alloc | apply Kd.R_drewN | apply Kd.R_drew)); exact HO_14.out⟩, ⟨by (with_reducible repeat (first | apply Kd.R_alloc | apply Kd.R_drewN | apply Kd.R_drew)); exact HO_15.out⟩, ⟨by (with_reducible repeat (first | refine blk_drewN ?_ _ | refine blk_drew ?_ | refine blk_alloc ?_ _)); exact BK476.out⟩, ⟨by repeat (first | (with_reducible first | exact HB.out | apply below_alloc | apply pw_below_drewN | apply below_drew1 | refine below_set ?_ GE476.out) | exact HB.out)⟩⟩
                      · rw [if_neg c42] at H
                        exact absurd H (by simp)
                    · rw [if_neg c41] at H
                      exact absurd H (by simp)
                  · rw [if_neg c40] at H
                    have c40b0 : decide (x16_2 < t478) = false := decide_eq_false c40
                    clear c40
                    replace H := Option.bind_eq_some_iff.mp H
                    obtain ⟨t503, A530, H⟩ := H
                    replace H : (if (t503.length : Int) = t478 then (lambrequinlaw10_GraphMore.l1 k2 t477 t478 t479 y491 t503 0) else (some false)) = some r := H
                    have A53 := Aside0.mk A530
                    clear A530
                    by_cases c54 : (t503.length : Int) = t478
                    · rw [if_pos c54] at H
                      have c54b0 : ((t503.length : Int) == t478) = true := beq_iff_eq.mpr c54
                      have c54b1 : ((t503.length : Int) != t478) = false := bne_eq_false_iff_eq.mpr c54
                      clear c54
                      have H' := Aside0.mk H
                      clear H
                      go_wp2_with (first | ((with_reducible refine gate_callee (f := 18) rfl ?_); refine goesL_ (some 88) rfl rfl Try.func18 (by kernel_rfl) rfl #[.int .i64 t478, .slice none 0 0] rfl (by (try simp only [List.map_toArray, List.map_cons, List.map_nil]); first | done | rfl | (simp only [List.length_drop, List.length_take]; rfl)) ?_; (refine (graph_Parts.calls t478 _ _ ([] : List (S27)) t503 _ ?side1 ?side2 A53.out).mono ?_); (case side1 => exact Kd.C_nil _ _); (case side2 => exact Nat.le_refl _); rintro e w55 ⟨v504, rfl, ho0, hb⟩; refine ⟨_, rfl, ?_⟩; have n0_ := Aside0.mk (Kd.R_below (by (with_reducible repeat (first | apply Kd.R_alloc | apply Kd.R_drewN | apply Kd.R_drew)); exact HO_11.out) hb); have n1_ := Aside0.mk (Kd.R_below (by (with_reducible repeat (first | apply Kd.R_alloc | apply Kd.R_drewN | apply Kd.R_drew)); exact HO_12.out) hb); have n2_ := Aside0.mk (Kd.R_below (by (with_reducible repeat (first | apply Kd.R_alloc | apply Kd.R_drewN | apply Kd.R_drew)); exact HO_14.out) hb); have n3_ := Aside0.mk (Kd.R_below (by (with_reducible repeat (first | apply Kd.R_alloc | apply Kd.R_drewN | apply Kd.R_drew)); exact HO_15.out) hb); have n4_ := Aside0.mk (Kd.S_lower ho0 (below_size (by repeat (first | (with_reducible first | exact HB.out | apply below_alloc | apply pw_below_drewN | apply below_drew1 | refine below_set ?_ GE476.out) | exact HB.out)))); have n5_ := Aside0.mk (blk_below (g := gb476) (o := .cells #[.int .u8 a2_0, .int .u8 a2_1] 45 (0, 0)) (by (with_reducible repeat (first | refine blk_drewN ?_ _ | refine blk_drew ?_ | refine blk_alloc ?_ _)); exact BK476.out) hb); have n6_ := Aside0.mk (below_step (by repeat (first | (with_reducible first | exact HB.out | apply below_alloc | apply pw_below_drewN | apply below_drew1 | refine below_set ?_ GE476.out) | exact HB.out)) hb); clear HO_11; clear HO_12; clear HO_14; clear HO_15; clear BK476; clear HB; have HO_11 := n0_; have HO_12 := n1_; have HO_14 := n2_; have HO_15 := n3_; have HO505 := n4_; have BK476 := n5_; have HB := n6_; clear n0_ n1_ n2_ n3_ n4_ n5_ n6_; (try clear hb); (try clear hb2); (try clear hk); (try clear hi); (try clear ho0); obtain ⟨Ao56, co56, eo56⟩ := Kd.S_slice HO505.out; subst eo56))
                      go_loopg [18] k2 (fun kq v18 w' => ∃ (x18_3 : Int), v18 = .int .i64 x18_3 ∧ Aside0 (lambrequinlaw10_GraphMore.l1 kq t477 t478 t479 y491 t503 x18_3 = some r) ∧ Aside0 (kq ≤ k2) ∧ Aside0 (Kd.R k27 27 w' w.heap.size (fun k_ => some k_ ≠ ((.slice Ao27 y491.length co27) : Value).ownBlock) (.slice Ao16 t479.length co16) t479) ∧ Aside0 (Kd.R k27 27 w' w.heap.size (fun k_ => some k_ ≠ ((.slice Ao16 t479.length co16) : Value).ownBlock) (.slice Ao27 y491.length co27) y491) ∧ Aside0 (Kd.S (Kd.slice 3 (Kd.int .i64)) 35 w' w.heap.size (fun _ => True) (.slice Ao56 t503.length co56) t503) ∧ Aside0 (w'.heap[gb476]? = some (.cells #[.int .u8 a2_0, .int .u8 a2_1] 45 (0, 0))) ∧ Aside0 (Below w.heap.size w w'))
                      case atStart => exact ⟨(0), (by first | rfl | (simp; done) | (simp [*]; done)), H', ⟨Nat.le_refl _⟩, ⟨by (with_reducible repeat (first | apply Kd.R_alloc | apply Kd.R_drewN | apply Kd.R_drew)); exact HO_11.out⟩, ⟨by (with_reducible repeat (first | apply Kd.R_alloc | apply Kd.R_drewN | apply Kd.R_drew)); exact HO_12.out⟩, ⟨by (with_reducible repeat (first | apply Kd.S_alloc | apply Kd.S_drewN | apply Kd.S_drew)); exact HO505.out⟩, ⟨by (with_reducible repeat (first | refine blk_drewN ?_ _ | refine blk_drew ?_ | refine blk_alloc ?_ _)); exact BK476.out⟩, ⟨by repeat (first | (with_reducible first | exact HB.out | apply below_alloc | apply pw_below_drewN | apply below_drew1 | refine below_set ?_ GE476.out) | exact HB.out)⟩⟩
                      case round =>
                        clear H'
                        try clear c1
                        try clear c2
                        try clear p2
                        try clear c3
                        try clear c4
                        try clear q4
                        try clear c5
                        try clear p5
                        try clear q5
                        try clear hx5
                        try clear p6
                        try clear c7
                        try clear c8
                        try clear c8b0
                        try clear c8b1
                        try clear c9
                        try clear c14
                        try clear c15
                        try clear c18
                        try clear c22
                        try clear c29
                        try clear c29b0
                        try clear c29b1
                        try clear c30
                        try clear c30b0
                        try clear c30b1
                        try clear c32
                        try clear c32b0
                        try clear c33
                        try clear c33b0
                        try clear c39
                        try clear c40
                        try clear c40b0
                        try clear c41
                        try clear c41b0
                        try clear c42
                        try clear c42b0
                        try clear q43
                        try clear c44
                        try clear c45
                        try clear c45b0
                        try clear q46
                        try clear c47
                        try clear p50
                        try clear q50
                        try clear hx50
                        try clear c54
                        try clear c54b0
                        try clear c54b1
                        try clear hx500_0
                        try clear hx501_0
                        try clear hx502_0
                        try clear p2
                        try clear p5
                        try clear p500
                        try clear p501
                        try clear p502
                        try clear p6
                        try clear q5
                        try clear q500
                        try clear q501
                        try clear q502
                        obtain ⟨x18_3, rfl, HA, HK3, HO_11, HO_12, HO_17, BK476, HB⟩ := hrel
                        cases gk with
                        | zero => exact absurd HA.out (by simp [lambrequinlaw10_GraphMore.l1])
                        | succ k3 =>
                          have H := HA.out
                          clear HA
                          simp only [lambrequinlaw10_GraphMore.l1] at H
                          by_cases c57 : x18_3 < t478
                          · rw [if_pos c57] at H
                            have c57b0 : decide (x18_3 < t478) = true := decide_eq_true c57
                            clear c57
                            by_cases c58 : 0 ≤ x18_3
                            · rw [if_pos c58] at H
                              have c58b0 : decide (0 ≤ x18_3) = true := decide_eq_true c58
                              clear c58
                              by_cases c59 : x18_3 < (t503.length : Int)
                              · rw [if_pos c59] at H
                                have c59b0 : decide (x18_3 < (t503.length : Int)) = true := decide_eq_true c59
                                clear c59
                                by_cases c60 : ((rd_L1 t503 x18_3).length : Int) = 1
                                · rw [if_pos c60] at H
                                  have c60b0 : (((rd_L1 t503 x18_3).length : Int) == 1) = true := beq_iff_eq.mpr c60
                                  have c60b1 : (((rd_L1 t503 x18_3).length : Int) != 1) = false := bne_eq_false_iff_eq.mpr c60
                                  clear c60
                                  by_cases c61 : 0 < ((rd_L1 t503 x18_3).length : Int)
                                  · rw [if_pos c61] at H
                                    have c61b0 : decide (0 < ((rd_L1 t503 x18_3).length : Int)) = true := decide_eq_true c61
                                    have c61b1 : decide (0 < (rd_L1 t503 x18_3).length) = true := decide_eq_true (by omega)
                                    clear c61
                                    by_cases c62 : (rd (rd_L1 t503 x18_3) 0) = x18_3
                                    · rw [if_pos c62] at H
                                      have c62b0 : ((rd (rd_L1 t503 x18_3) 0) == x18_3) = true := beq_iff_eq.mpr c62
                                      have c62b1 : ((rd (rd_L1 t503 x18_3) 0) != x18_3) = false := bne_eq_false_iff_eq.mpr c62
                                      clear c62
                                      have H' := Aside0.mk H
                                      clear H
                                      have p506 : 0 ≤ (x18_3 : Int) := of_decide_eq_true (by first | (with_reducible assumption) | assumption)
                                      have q506 : x18_3 < (t503.length : Int) := of_decide_eq_true (by first | (with_reducible assumption) | assumption)
                                      obtain ⟨ad506, A506_0, c506_0, e506, hx506_0, hl506_0, hi506_0⟩ := at_L1 (Kd.S_reads' HO_17.out).2.2 x18_3 p506 q506
                                      cases e506
                                      obtain ⟨ce506, hce506, hMe506, hcc506⟩ := Kd.S_get HO_17.out [] x18_3 p506 (by first | exact q506 | exact of_decide_eq_true (by first | (with_reducible assumption) | assumption) | (have e_ := (Kd.S_reads' HO_17.out).1; omega))
                                      obtain ⟨ve506_0, rfl, ge506_0⟩ := hMe506
                                      have hv506_0 := hcc506 0 _ rfl
                                      rw [Nat.add_zero, show ((Kd.slice 3 (Kd.int .i64))).sz = 1 from rfl, Nat.mul_one] at hv506_0
                                      replace hv506_0 := Option.some.inj (hv506_0.symm.trans hx506_0)
                                      rw [hv506_0] at ge506_0
                                      have HL506_0 := Aside0.mk (show Kd.R (Kd.int .i64) 3 _ _ _ _ (rd_L1 t503 x18_3) from ge506_0)
                                      clear hv506_0 ge506_0
                                      clear hcc506 hce506
                                      have HR506_0 := Aside0.mk hi506_0
                                      have HC506_0 := Aside0.mk hl506_0
                                      clear hi506_0 hl506_0
                                      replace p506 := eq_true p506
                                      replace q506 := eq_true q506
                                      have p507 : 0 ≤ (x18_3 : Int) := of_decide_eq_true (by first | (with_reducible assumption) | assumption)
                                      have q507 : x18_3 < (t503.length : Int) := of_decide_eq_true (by first | (with_reducible assumption) | assumption)
                                      obtain ⟨ad507, A507_0, c507_0, e507, hx507_0, hl507_0, hi507_0⟩ := at_L1 (Kd.S_reads' HO_17.out).2.2 x18_3 p507 q507
                                      obtain rfl : ad506 = ad507 := (by injection e507)
                                      obtain ⟨ce507, hce507, hMe507, hcc507⟩ := Kd.S_get HO_17.out [] x18_3 p507 (by first | exact q507 | exact of_decide_eq_true (by first | (with_reducible assumption) | assumption) | (have e_ := (Kd.S_reads' HO_17.out).1; omega))
                                      obtain ⟨ve507_0, rfl, ge507_0⟩ := hMe507
                                      have hv507_0 := hcc507 0 _ rfl
                                      rw [Nat.add_zero, show ((Kd.slice 3 (Kd.int .i64))).sz = 1 from rfl, Nat.mul_one] at hv507_0
                                      replace hv507_0 := Option.some.inj (hv507_0.symm.trans hx507_0)
                                      rw [hv507_0] at ge507_0
                                      have HL507_0 := Aside0.mk (show Kd.R (Kd.int .i64) 3 _ _ _ _ (rd_L1 t503 x18_3) from ge507_0)
                                      clear hv507_0 ge507_0
                                      clear hcc507 hce507
                                      have HR507_0 := Aside0.mk hi507_0
                                      have HC507_0 := Aside0.mk hl507_0
                                      clear hi507_0 hl507_0
                                      replace p507 := eq_true p507
                                      replace q507 := eq_true q507
                                      have ea_ := Option.some.inj (hx506_0.symm.trans hx507_0)
                                      injection ea_ with ea_ en_ ec_
                                      subst ea_
                                      subst ec_
                                      clear en_
                                      have p508 : 0 ≤ (0 : Int) := (by omega)
                                      have q508 : 0 < ((rd_L1 t503 x18_3).length : Int) := of_decide_eq_true (by first | (with_reducible assumption) | assumption)
                                      obtain ⟨ad508, e508, hx508_0⟩ := Kd.at_int (by repeat (first | (with_reducible exact HR507_0.out) | (with_reducible refine Kd.C_alloc ?_ _) | (with_reducible refine Kd.C_drewN ?_ _) | (with_reducible refine Kd.C_drew ?_) | exact HR507_0.out)) 0 p508 q508
                                      cases e508
                                      have qi508 : (0 < (rd_L1 t503 x18_3).length) = True := eq_true (by omega)
                                      (try rw [show ((0 : Int)).toNat = 0 from rfl] at hx508_0)
                                      (try rw [Addr.add_zero'] at hx508_0)
                                      replace p508 := eq_true p508
                                      replace q508 := eq_true q508
                                      go_wp2
                                      go_roundg k3
                                      case measure => have := HJ11.out; have := HK2.out; have := HK3.out; omega
                                      case rel => exact ⟨(wrap64 (x18_3 + 1)), (by first | rfl | (simp; done) | (simp [*]; done)), H', ⟨by have := HJ11.out; have := HK2.out; have := HK3.out; omega⟩, ⟨by (with_reducible repeat (first | apply Kd.R_alloc | apply Kd.R_drewN | apply Kd.R_drew)); exact HO_11.out⟩, ⟨by (with_reducible repeat (first | apply Kd.R_alloc | apply Kd.R_drewN | apply Kd.R_drew)); exact HO_12.out⟩, ⟨by (with_reducible repeat (first | apply Kd.S_alloc | apply Kd.S_drewN | apply Kd.S_drew)); exact HO_17.out⟩, ⟨by (with_reducible repeat (first | refine blk_drewN ?_ _ | refine blk_drew ?_ | refine blk_alloc ?_ _)); exact BK476.out⟩, ⟨by repeat (first | (with_reducible first | exact HB.out | apply below_alloc | apply pw_below_drewN | apply below_drew1 | refine below_set ?_ GE476.out) | exact HB.out)⟩⟩
                                    · rw [if_neg c62] at H
                                      have c62b0 : ((rd (rd_L1 t503 x18_3) 0) == x18_3) = false := beq_eq_false_iff_ne.mpr c62
                                      have c62b1 : ((rd (rd_L1 t503 x18_3) 0) != x18_3) = true := bne_iff_ne.mpr c62
                                      obtain rfl := Option.some.inj H
                                      have p506 : 0 ≤ (x18_3 : Int) := of_decide_eq_true (by first | (with_reducible assumption) | assumption)
                                      have q506 : x18_3 < (t503.length : Int) := of_decide_eq_true (by first | (with_reducible assumption) | assumption)
                                      obtain ⟨ad506, A506_0, c506_0, e506, hx506_0, hl506_0, hi506_0⟩ := at_L1 (Kd.S_reads' HO_17.out).2.2 x18_3 p506 q506
                                      cases e506
                                      obtain ⟨ce506, hce506, hMe506, hcc506⟩ := Kd.S_get HO_17.out [] x18_3 p506 (by first | exact q506 | exact of_decide_eq_true (by first | (with_reducible assumption) | assumption) | (have e_ := (Kd.S_reads' HO_17.out).1; omega))
                                      obtain ⟨ve506_0, rfl, ge506_0⟩ := hMe506
                                      have hv506_0 := hcc506 0 _ rfl
                                      rw [Nat.add_zero, show ((Kd.slice 3 (Kd.int .i64))).sz = 1 from rfl, Nat.mul_one] at hv506_0
                                      replace hv506_0 := Option.some.inj (hv506_0.symm.trans hx506_0)
                                      rw [hv506_0] at ge506_0
                                      have HL506_0 := Aside0.mk (show Kd.R (Kd.int .i64) 3 _ _ _ _ (rd_L1 t503 x18_3) from ge506_0)
                                      clear hv506_0 ge506_0
                                      clear hcc506 hce506
                                      have HR506_0 := Aside0.mk hi506_0
                                      have HC506_0 := Aside0.mk hl506_0
                                      clear hi506_0 hl506_0
                                      replace p506 := eq_true p506
                                      replace q506 := eq_true q506
                                      have p507 : 0 ≤ (x18_3 : Int) := of_decide_eq_true (by first | (with_reducible assumption) | assumption)
                                      have q507 : x18_3 < (t503.length : Int) := of_decide_eq_true (by first | (with_reducible assumption) | assumption)
                                      obtain ⟨ad507, A507_0, c507_0, e507, hx507_0, hl507_0, hi507_0⟩ := at_L1 (Kd.S_reads' HO_17.out).2.2 x18_3 p507 q507
                                      obtain rfl : ad506 = ad507 := (by injection e507)
                                      obtain ⟨ce507, hce507, hMe507, hcc507⟩ := Kd.S_get HO_17.out [] x18_3 p507 (by first | exact q507 | exact of_decide_eq_true (by first | (with_reducible assumption) | assumption) | (have e_ := (Kd.S_reads' HO_17.out).1; omega))
                                      obtain ⟨ve507_0, rfl, ge507_0⟩ := hMe507
                                      have hv507_0 := hcc507 0 _ rfl
                                      rw [Nat.add_zero, show ((Kd.slice 3 (Kd.int .i64))).sz = 1 from rfl, Nat.mul_one] at hv507_0
                                      replace hv507_0 := Option.some.inj (hv507_0.symm.trans hx507_0)
                                      rw [hv507_0] at ge507_0
                                      have HL507_0 := Aside0.mk (show Kd.R (Kd.int .i64) 3 _ _ _ _ (rd_L1 t503 x18_3) from ge507_0)
                                      clear hv507_0 ge507_0
                                      clear hcc507 hce507
                                      have HR507_0 := Aside0.mk hi507_0
                                      have HC507_0 := Aside0.mk hl507_0
                                      clear hi507_0 hl507_0
                                      replace p507 := eq_true p507
                                      replace q507 := eq_true q507
                                      have ea_ := Option.some.inj (hx506_0.symm.trans hx507_0)
                                      injection ea_ with ea_ en_ ec_
                                      subst ea_
                                      subst ec_
                                      clear en_
                                      have p508 : 0 ≤ (0 : Int) := (by omega)
                                      have q508 : 0 < ((rd_L1 t503 x18_3).length : Int) := of_decide_eq_true (by first | (with_reducible assumption) | assumption)
                                      obtain ⟨ad508, e508, hx508_0⟩ := Kd.at_int (by repeat (first | (with_reducible exact HR507_0.out) | (with_reducible refine Kd.C_alloc ?_ _) | (with_reducible refine Kd.C_drewN ?_ _) | (with_reducible refine Kd.C_drew ?_) | exact HR507_0.out)) 0 p508 q508
                                      cases e508
                                      have qi508 : (0 < (rd_L1 t503 x18_3).length) = True := eq_true (by omega)
                                      (try rw [show ((0 : Int)).toNat = 0 from rfl] at hx508_0)
                                      (try rw [Addr.add_zero'] at hx508_0)
                                      replace p508 := eq_true p508
                                      replace q508 := eq_true q508
                                      go_wp2
                                      go_ret
                                      exact ⟨by first | rfl | (simp [errW_none, errW_some] <;> rfl) | (simp [*, errW_none, errW_some] <;> rfl), by repeat (first | (with_reducible first | exact HB.out | apply below_alloc | apply pw_below_drewN | apply below_drew1 | refine below_set ?_ GE476.out) | exact HB.out)⟩
                                  · rw [if_neg c61] at H
                                    exact absurd H (by simp)
                                · rw [if_neg c60] at H
                                  have c60b0 : (((rd_L1 t503 x18_3).length : Int) == 1) = false := beq_eq_false_iff_ne.mpr c60
                                  have c60b1 : (((rd_L1 t503 x18_3).length : Int) != 1) = true := bne_iff_ne.mpr c60
                                  obtain rfl := Option.some.inj H
                                  have p506 : 0 ≤ (x18_3 : Int) := of_decide_eq_true (by first | (with_reducible assumption) | assumption)
                                  have q506 : x18_3 < (t503.length : Int) := of_decide_eq_true (by first | (with_reducible assumption) | assumption)
                                  obtain ⟨ad506, A506_0, c506_0, e506, hx506_0, hl506_0, hi506_0⟩ := at_L1 (Kd.S_reads' HO_17.out).2.2 x18_3 p506 q506
                                  cases e506
                                  obtain ⟨ce506, hce506, hMe506, hcc506⟩ := Kd.S_get HO_17.out [] x18_3 p506 (by first | exact q506 | exact of_decide_eq_true (by first | (with_reducible assumption) | assumption) | (have e_ := (Kd.S_reads' HO_17.out).1; omega))
                                  obtain ⟨ve506_0, rfl, ge506_0⟩ := hMe506
                                  have hv506_0 := hcc506 0 _ rfl
                                  rw [Nat.add_zero, show ((Kd.slice 3 (Kd.int .i64))).sz = 1 from rfl, Nat.mul_one] at hv506_0
                                  replace hv506_0 := Option.some.inj (hv506_0.symm.trans hx506_0)
                                  rw [hv506_0] at ge506_0
                                  have HL506_0 := Aside0.mk (show Kd.R (Kd.int .i64) 3 _ _ _ _ (rd_L1 t503 x18_3) from ge506_0)
                                  clear hv506_0 ge506_0
                                  clear hcc506 hce506
                                  have HR506_0 := Aside0.mk hi506_0
                                  have HC506_0 := Aside0.mk hl506_0
                                  clear hi506_0 hl506_0
                                  replace p506 := eq_true p506
                                  replace q506 := eq_true q506
                                  go_wp2
                                  go_ret
                                  exact ⟨by first | rfl | (simp [errW_none, errW_some] <;> rfl) | (simp [*, errW_none, errW_some] <;> rfl), by repeat (first | (with_reducible first | exact HB.out | apply below_alloc | apply pw_below_drewN | apply below_drew1 | refine below_set ?_ GE476.out) | exact HB.out)⟩
                              · rw [if_neg c59] at H
                                exact absurd H (by simp)
                            · rw [if_neg c58] at H
                              exact absurd H (by simp)
                          · rw [if_neg c57] at H
                            have c57b0 : decide (x18_3 < t478) = false := decide_eq_false c57
                            clear c57
                            by_cases c63 : t477 = true
                            · subst c63
                              have H1 : ((graph_Parts.f t478 y491).bind fun t509 => ((graph_Parts.f t478 t479).bind fun t512 => (some (decide ((t509.length : Int) ≤ (t512.length : Int)))))) = some r := by rw [if_pos rfl] at H; exact H
                              clear H
                              have H := H1
                              clear H1
                              replace H := Option.bind_eq_some_iff.mp H
                              obtain ⟨t509, A640, H⟩ := H
                              replace H : ((graph_Parts.f t478 t479).bind fun t512 => (some (decide ((t509.length : Int) ≤ (t512.length : Int))))) = some r := H
                              have A64 := Aside0.mk A640
                              clear A640
                              replace H := Option.bind_eq_some_iff.mp H
                              obtain ⟨t512, A650, H⟩ := H
                              replace H : (some (decide ((t509.length : Int) ≤ (t512.length : Int)))) = some r := H
                              have A65 := Aside0.mk A650
                              clear A650
                              obtain rfl := Option.some.inj H
                              go_wp2_with (first | (go_at_call 18; (with_reducible refine (graph_Parts.calls t478 _ _ y491 t509 _ ?side1 ?side2 A64.out).mono ?_); (case side1 => repeat (first | exact (Kd.R_reads' HO_12.out).2.2 | (with_reducible refine Kd.C_alloc ?_ _) | (with_reducible refine Kd.C_drewN ?_ _) | (with_reducible refine Kd.C_drew ?_))); (case side2 => exact (Kd.R_reads' HO_12.out).2.1); rintro e w66 ⟨v510, rfl, ho0, hb⟩; have n0_ := Aside0.mk (Kd.R_below (by (with_reducible repeat (first | apply Kd.R_alloc | apply Kd.R_drewN | apply Kd.R_drew)); exact HO_11.out) hb); have n1_ := Aside0.mk (Kd.R_below (by (with_reducible repeat (first | apply Kd.R_alloc | apply Kd.R_drewN | apply Kd.R_drew)); exact HO_12.out) hb); have n2_ := Aside0.mk (Kd.S_elder' (by (with_reducible repeat (first | apply Kd.S_alloc | apply Kd.S_drewN | apply Kd.S_drew)); exact HO_17.out) (Kd.S_base ho0) hb); have n3_ := Aside0.mk (Kd.S_lower (Kd.S_new' ho0 (Kd.S_lt (by (with_reducible repeat (first | apply Kd.S_alloc | apply Kd.S_drewN | apply Kd.S_drew)); exact HO_17.out))) (below_size (by repeat (first | (with_reducible first | exact HB.out | apply below_alloc | apply pw_below_drewN | apply below_drew1 | refine below_set ?_ GE476.out) | exact HB.out)))); have n4_ := Aside0.mk (blk_below (g := gb476) (o := .cells #[.int .u8 a2_0, .int .u8 a2_1] 45 (0, 0)) (by (with_reducible repeat (first | refine blk_drewN ?_ _ | refine blk_drew ?_ | refine blk_alloc ?_ _)); exact BK476.out) hb); have n5_ := Aside0.mk (below_step (by repeat (first | (with_reducible first | exact HB.out | apply below_alloc | apply pw_below_drewN | apply below_drew1 | refine below_set ?_ GE476.out) | exact HB.out)) hb); clear HO_11; clear HO_12; clear HO_17; clear BK476; clear HB; have HO_11 := n0_; have HO_12 := n1_; have HO_17 := n2_; have HO511 := n3_; have BK476 := n4_; have HB := n5_; clear n0_ n1_ n2_ n3_ n4_ n5_; (try clear hb); (try clear hb2); (try clear hk); (try clear hi); (try clear ho0); obtain ⟨Ao67, co67, eo67⟩ := Kd.S_slice HO511.out; subst eo67) | (go_at_call 18; (with_reducible refine (graph_Parts.calls t478 _ _ t479 t512 _ ?side1 ?side2 A65.out).mono ?_); (case side1 => repeat (first | exact (Kd.R_reads' HO_11.out).2.2 | (with_reducible refine Kd.C_alloc ?_ _) | (with_reducible refine Kd.C_drewN ?_ _) | (with_reducible refine Kd.C_drew ?_))); (case side2 => exact (Kd.R_reads' HO_11.out).2.1); rintro e w68 ⟨v513, rfl, ho0, hb⟩; have n0_ := Aside0.mk (Kd.R_below (by (with_reducible repeat (first | apply Kd.R_alloc | apply Kd.R_drewN | apply Kd.R_drew)); exact HO_11.out) hb); have n1_ := Aside0.mk (Kd.R_below (by (with_reducible repeat (first | apply Kd.R_alloc | apply Kd.R_drewN | apply Kd.R_drew)); exact HO_12.out) hb); have n2_ := Aside0.mk (Kd.S_elder' (by (with_reducible repeat (first | apply Kd.S_alloc | apply Kd.S_drewN | apply Kd.S_drew)); exact HO_17.out) (Kd.S_base ho0) hb); have n3_ := Aside0.mk (Kd.S_elder' (by (with_reducible repeat (first | apply Kd.S_alloc | apply Kd.S_drewN | apply Kd.S_drew)); exact HO511.out) (Kd.S_base ho0) hb); have n4_ := Aside0.mk (Kd.S_lower (Kd.S_new' (Kd.S_new' ho0 (Kd.S_lt (by (with_reducible repeat (first | apply Kd.S_alloc | apply Kd.S_drewN | apply Kd.S_drew)); exact HO_17.out))) (Kd.S_lt (by (with_reducible repeat (first | apply Kd.S_alloc | apply Kd.S_drewN | apply Kd.S_drew)); exact HO511.out))) (below_size (by repeat (first | (with_reducible first | exact HB.out | apply below_alloc | apply pw_below_drewN | apply below_drew1 | refine below_set ?_ GE476.out) | exact HB.out)))); have n5_ := Aside0.mk (blk_below (g := gb476) (o := .cells #[.int .u8 a2_0, .int .u8 a2_1] 45 (0, 0)) (by (with_reducible repeat (first | refine blk_drewN ?_ _ | refine blk_drew ?_ | refine blk_alloc ?_ _)); exact BK476.out) hb); have n6_ := Aside0.mk (below_step (by repeat (first | (with_reducible first | exact HB.out | apply below_alloc | apply pw_below_drewN | apply below_drew1 | refine below_set ?_ GE476.out) | exact HB.out)) hb); clear HO_11; clear HO_12; clear HO_17; clear HO511; clear BK476; clear HB; have HO_11 := n0_; have HO_12 := n1_; have HO_17 := n2_; have HO511 := n3_; have HO514 := n4_; have BK476 := n5_; have HB := n6_; clear n0_ n1_ n2_ n3_ n4_ n5_ n6_; (try clear hb); (try clear hb2); (try clear hk); (try clear hi); (try clear ho0); obtain ⟨Ao69, co69, eo69⟩ := Kd.S_slice HO514.out; subst eo69))
                              go_ret
                              exact ⟨by first | rfl | (simp [errW_none, errW_some] <;> rfl) | (simp [*, errW_none, errW_some] <;> rfl), by repeat (first | (with_reducible first | exact HB.out | apply below_alloc | apply pw_below_drewN | apply below_drew1 | refine below_set ?_ GE476.out) | exact HB.out)⟩
                            · replace c63 := Bool.eq_false_iff.mpr c63
                              subst c63
                              have H1 : (some false) = some r := by rw [if_neg (show ¬ (false = true) by decide)] at H; exact H
                              clear H
                              have H := H1
                              clear H1
                              obtain rfl := Option.some.inj H
                              go_wp2
                              go_ret
                              exact ⟨by first | rfl | (simp [errW_none, errW_some] <;> rfl) | (simp [*, errW_none, errW_some] <;> rfl), by repeat (first | (with_reducible first | exact HB.out | apply below_alloc | apply pw_below_drewN | apply below_drew1 | refine below_set ?_ GE476.out) | exact HB.out)⟩
                    · rw [if_neg c54] at H
                      have c54b0 : ((t503.length : Int) == t478) = false := beq_eq_false_iff_ne.mpr c54
                      have c54b1 : ((t503.length : Int) != t478) = true := bne_iff_ne.mpr c54
                      obtain rfl := Option.some.inj H
                      go_wp2_with (first | ((with_reducible refine gate_callee (f := 18) rfl ?_); refine goesL_ (some 88) rfl rfl Try.func18 (by kernel_rfl) rfl #[.int .i64 t478, .slice none 0 0] rfl (by (try simp only [List.map_toArray, List.map_cons, List.map_nil]); first | done | rfl | (simp only [List.length_drop, List.length_take]; rfl)) ?_; (refine (graph_Parts.calls t478 _ _ ([] : List (S27)) t503 _ ?side1 ?side2 A53.out).mono ?_); (case side1 => exact Kd.C_nil _ _); (case side2 => exact Nat.le_refl _); rintro e w70 ⟨v504, rfl, ho0, hb⟩; refine ⟨_, rfl, ?_⟩; have n0_ := Aside0.mk (Kd.R_below (by (with_reducible repeat (first | apply Kd.R_alloc | apply Kd.R_drewN | apply Kd.R_drew)); exact HO_11.out) hb); have n1_ := Aside0.mk (Kd.R_below (by (with_reducible repeat (first | apply Kd.R_alloc | apply Kd.R_drewN | apply Kd.R_drew)); exact HO_12.out) hb); have n2_ := Aside0.mk (Kd.R_below (by (with_reducible repeat (first | apply Kd.R_alloc | apply Kd.R_drewN | apply Kd.R_drew)); exact HO_14.out) hb); have n3_ := Aside0.mk (Kd.R_below (by (with_reducible repeat (first | apply Kd.R_alloc | apply Kd.R_drewN | apply Kd.R_drew)); exact HO_15.out) hb); have n4_ := Aside0.mk (Kd.S_lower ho0 (below_size (by repeat (first | (with_reducible first | exact HB.out | apply below_alloc | apply pw_below_drewN | apply below_drew1 | refine below_set ?_ GE476.out) | exact HB.out)))); have n5_ := Aside0.mk (blk_below (g := gb476) (o := .cells #[.int .u8 a2_0, .int .u8 a2_1] 45 (0, 0)) (by (with_reducible repeat (first | refine blk_drewN ?_ _ | refine blk_drew ?_ | refine blk_alloc ?_ _)); exact BK476.out) hb); have n6_ := Aside0.mk (below_step (by repeat (first | (with_reducible first | exact HB.out | apply below_alloc | apply pw_below_drewN | apply below_drew1 | refine below_set ?_ GE476.out) | exact HB.out)) hb); clear HO_11; clear HO_12; clear HO_14; clear HO_15; clear BK476; clear HB; have HO_11 := n0_; have HO_12 := n1_; have HO_14 := n2_; have HO_15 := n3_; have HO505 := n4_; have BK476 := n5_; have HB := n6_; clear n0_ n1_ n2_ n3_ n4_ n5_ n6_; (try clear hb); (try clear hb2); (try clear hk); (try clear hi); (try clear ho0); obtain ⟨Ao71, co71, eo71⟩ := Kd.S_slice HO505.out; subst eo71))
                      go_ret
                      exact ⟨by first | rfl | (simp [errW_none, errW_some] <;> rfl) | (simp [*, errW_none, errW_some] <;> rfl), by repeat (first | (with_reducible first | exact HB.out | apply below_alloc | apply pw_below_drewN | apply below_drew1 | refine below_set ?_ GE476.out) | exact HB.out)⟩
      · rw [if_neg c9] at H
        exact absurd H (by simp)
  · rw [if_neg c7] at H
    exact absurd H (by simp)

end Go.Proofs.Ytngmdccheaidkaa.Pr
