-- printed by this session's own turn of print (wip/tools/mkprint.py)
import Derived.Test.YtmacollhnnachaaF
import Derived.Test.YtmacollhnnachaaF15
import Derived.Test.YtmacollhnnachaaF16
import Derived.Test.YtmacollhnnachaaFEq0
import Derived.Test.YtmacollhnnachaaGRun
namespace Go.Proofs.Ytmacollhnnachaa.Pr
open Go.RowKit Go.Proofs.YtmacollhnnachaaW.PrintWords Go.Proofs.YtmacollhnnachaaW.PrintLast Go.Proofs.YtmacollhnnachaaW.PrintMore
attribute [local go_sem] max2_int min2_int max_two min_two max_three min_three max_four min_four   -- for this text's walks alone
set_option linter.unusedVariables false
set_option linter.unusedSimpArgs false

attribute [local go_sem high] eqA35
/-! ### lambrequinlaw22_InterpMore: function 3 -/
mutual
def lambrequinlaw22_InterpMore.j0 : Nat → Bool → List (S33) → List (S33) → List (S33) → Bool → Option (Bool)
  | 0, _, _, _, _, _ => none
  | k + 1, x5, x6, x7, x8, x63 => if x63 = true then (some false) else (lambrequinlaw22_InterpMore.l0 k x5 x6 x7 x8 0)
def lambrequinlaw22_InterpMore.l0 : Nat → Bool → List (S33) → List (S33) → List (S33) → Int → Option (Bool)
  | 0, _, _, _, _, _ => none
  | k + 1, x5, x6, x7, x8, x9 => if x9 < (x6.length : Int) then (if 0 ≤ x9 then (if x9 < (x7.length : Int) then (if ((rd_T33 x6 x9).f0) = ((rd_T33 x7 x9).f0) then (if x9 < (x8.length : Int) then (if ((rd_T33 x6 x9).f0) = ((rd_T33 x8 x9).f0) then (if (((rd_T33 x6 x9).f1).length : Int) = (((rd_T33 x7 x9).f1).length : Int) then (lambrequinlaw22_InterpMore.j2 k x5 x6 x7 x8 x9 ((((rd_T33 x6 x9).f1).length : Int) != (((rd_T33 x8 x9).f1).length : Int))) else (lambrequinlaw22_InterpMore.j2 k x5 x6 x7 x8 x9 true)) else (lambrequinlaw22_InterpMore.j2 k x5 x6 x7 x8 x9 true)) else (none)) else (lambrequinlaw22_InterpMore.j2 k x5 x6 x7 x8 x9 true)) else (none)) else (none)) else (some x5)
def lambrequinlaw22_InterpMore.j2 : Nat → Bool → List (S33) → List (S33) → List (S33) → Int → Bool → Option (Bool)
  | 0, _, _, _, _, _, _ => none
  | k + 1, x5, x6, x7, x8, x9, x123 => if x123 = true then (some false) else (lambrequinlaw22_InterpMore.l1 k x5 x6 x7 x8 x9 0)
def lambrequinlaw22_InterpMore.l1 : Nat → Bool → List (S33) → List (S33) → List (S33) → Int → Int → Option (Bool)
  | 0, _, _, _, _, _, _ => none
  | k + 1, x5, x6, x7, x8, x9, x10 => if 0 ≤ x9 then (if x9 < (x6.length : Int) then (if x10 < (((rd_T33 x6 x9).f1).length : Int) then (if 0 ≤ x10 then (if x9 < (x7.length : Int) then (if x10 < (((rd_T33 x7 x9).f1).length : Int) then (if (!((((rd_T35 ((rd_T33 x6 x9).f1) x10).f0).toList) == (((rd_T35 ((rd_T33 x7 x9).f1) x10).f0).toList)) || (!(((rd_T35 ((rd_T33 x6 x9).f1) x10).f1) == ((rd_T35 ((rd_T33 x7 x9).f1) x10).f1)) || (!(((rd_T35 ((rd_T33 x6 x9).f1) x10).f2) == ((rd_T35 ((rd_T33 x7 x9).f1) x10).f2)) || (!(((rd_T35 ((rd_T33 x6 x9).f1) x10).f3) == ((rd_T35 ((rd_T33 x7 x9).f1) x10).f3)))))) = true then (some false) else (if x9 < (x8.length : Int) then (if x10 < (((rd_T33 x8 x9).f1).length : Int) then (if (!((((rd_T35 ((rd_T33 x6 x9).f1) x10).f0).toList) == (((rd_T35 ((rd_T33 x8 x9).f1) x10).f0).toList)) || (!(((rd_T35 ((rd_T33 x6 x9).f1) x10).f1) == ((rd_T35 ((rd_T33 x8 x9).f1) x10).f1)) || (!(((rd_T35 ((rd_T33 x6 x9).f1) x10).f2) == ((rd_T35 ((rd_T33 x8 x9).f1) x10).f2)) || (!(((rd_T35 ((rd_T33 x6 x9).f1) x10).f3) == ((rd_T35 ((rd_T33 x8 x9).f1) x10).f3)))))) = true then (some false) else (lambrequinlaw22_InterpMore.l1 k x5 x6 x7 x8 x9 (wrap64 (x10 + 1)))) else (none)) else (none))) else (none)) else (none)) else (none)) else (lambrequinlaw22_InterpMore.l0 k x5 x6 x7 x8 (wrap64 (x9 + 1)))) else (none)) else (none)
end
def lambrequinlaw22_InterpMore.f (k : Nat) (l0_0 : List (S38)) (l0_1 : List Int) (l0_2 : List Bool) (a0_3 : Int) (a1 : Int) : Option (Bool) := (lambrequinlaw22_shown.f).bind fun t312 => ((lambrequinlaw22_few.f l0_0 l0_1 l0_2 a0_3).bind fun t313 => (if t313 = true then ((interp_Run.f l0_0 l0_1 l0_2 a0_3).bind fun t314 => ((interp_Run.f l0_0 l0_1 l0_2 (wrap64 ((mx a0_3 0) + (wrap64 (Int.tmod a1 20))))).bind fun t317 => ((some (([] : List Int) : List Int)).bind fun y320 => (if y320.length + l0_1.length < 17592186044416 then ((some (y320 ++ l0_1 : List Int)).bind fun y323 => ((some (([0, 0] : List Int) : List Int)).bind fun y326 => (if y323.length + y326.length < 17592186044416 then ((interp_Run.f l0_0 (y323 ++ y326) l0_2 a0_3).bind fun t332 => (if (t314.length : Int) > (t317.length : Int) then (lambrequinlaw22_InterpMore.j0 k t312 t314 t317 t332 true) else (lambrequinlaw22_InterpMore.j0 k t312 t314 t317 t332 ((t314.length : Int) != (t332.length : Int))))) else (none)))) else (none))))) else (some t312)))
theorem lambrequinlaw22_InterpMore.mono_l : ∀ k, (∀ y0 y1 y2 y3 y4, LeO (lambrequinlaw22_InterpMore.j0 k y0 y1 y2 y3 y4) (lambrequinlaw22_InterpMore.j0 (k + 1) y0 y1 y2 y3 y4)) ∧ (∀ y0 y1 y2 y3 y4, LeO (lambrequinlaw22_InterpMore.l0 k y0 y1 y2 y3 y4) (lambrequinlaw22_InterpMore.l0 (k + 1) y0 y1 y2 y3 y4)) ∧ (∀ y0 y1 y2 y3 y4 y5, LeO (lambrequinlaw22_InterpMore.j2 k y0 y1 y2 y3 y4 y5) (lambrequinlaw22_InterpMore.j2 (k + 1) y0 y1 y2 y3 y4 y5)) ∧ (∀ y0 y1 y2 y3 y4 y5, LeO (lambrequinlaw22_InterpMore.l1 k y0 y1 y2 y3 y4 y5) (lambrequinlaw22_InterpMore.l1 (k + 1) y0 y1 y2 y3 y4 y5))
  | 0 => ⟨fun _ _ _ _ _ r h => by simp [lambrequinlaw22_InterpMore.j0] at h, fun _ _ _ _ _ r h => by simp [lambrequinlaw22_InterpMore.l0] at h, fun _ _ _ _ _ _ r h => by simp [lambrequinlaw22_InterpMore.j2] at h, fun _ _ _ _ _ _ r h => by simp [lambrequinlaw22_InterpMore.l1] at h⟩
  | k + 1 => by
    obtain ⟨ih0, ih1, ih2, ih3⟩ := lambrequinlaw22_InterpMore.mono_l k
    refine ⟨?_, ?_, ?_, ?_⟩
    · intro y0 y1 y2 y3 y4
      unfold lambrequinlaw22_InterpMore.j0
      repeat' first
      | (with_reducible exact ih0 _ _ _ _ _)
      | (with_reducible exact ih1 _ _ _ _ _)
      | (with_reducible exact ih2 _ _ _ _ _ _)
      | (with_reducible exact ih3 _ _ _ _ _ _)
      | (with_reducible exact LeO.refl _)
      | (with_reducible exact LeO.none _)
      | (with_reducible refine LeO.ite ?_ ?_)
      | (with_reducible refine LeO.bind ?_ (fun _ => ?_))
      | exact ih0 _ _ _ _ _
      | exact ih1 _ _ _ _ _
      | exact ih2 _ _ _ _ _ _
      | exact ih3 _ _ _ _ _ _
      | exact LeO.none _
      | refine LeO.ite ?_ ?_
      | refine LeO.bind ?_ (fun _ => ?_)
    · intro y0 y1 y2 y3 y4
      unfold lambrequinlaw22_InterpMore.l0
      repeat' first
      | (with_reducible exact ih0 _ _ _ _ _)
      | (with_reducible exact ih1 _ _ _ _ _)
      | (with_reducible exact ih2 _ _ _ _ _ _)
      | (with_reducible exact ih3 _ _ _ _ _ _)
      | (with_reducible exact LeO.refl _)
      | (with_reducible exact LeO.none _)
      | (with_reducible refine LeO.ite ?_ ?_)
      | (with_reducible refine LeO.bind ?_ (fun _ => ?_))
      | exact ih0 _ _ _ _ _
      | exact ih1 _ _ _ _ _
      | exact ih2 _ _ _ _ _ _
      | exact ih3 _ _ _ _ _ _
      | exact LeO.none _
      | refine LeO.ite ?_ ?_
      | refine LeO.bind ?_ (fun _ => ?_)
    · intro y0 y1 y2 y3 y4 y5
      unfold lambrequinlaw22_InterpMore.j2
      repeat' first
      | (with_reducible exact ih0 _ _ _ _ _)
      | (with_reducible exact ih1 _ _ _ _ _)
      | (with_reducible exact ih2 _ _ _ _ _ _)
      | (with_reducible exact ih3 _ _ _ _ _ _)
      | (with_reducible exact LeO.refl _)
      | (with_reducible exact LeO.none _)
      | (with_reducible refine LeO.ite ?_ ?_)
      | (with_reducible refine LeO.bind ?_ (fun _ => ?_))
      | exact ih0 _ _ _ _ _
      | exact ih1 _ _ _ _ _
      | exact ih2 _ _ _ _ _ _
      | exact ih3 _ _ _ _ _ _
      | exact LeO.none _
      | refine LeO.ite ?_ ?_
      | refine LeO.bind ?_ (fun _ => ?_)
    · intro y0 y1 y2 y3 y4 y5
      unfold lambrequinlaw22_InterpMore.l1
      repeat' first
      | (with_reducible exact ih0 _ _ _ _ _)
      | (with_reducible exact ih1 _ _ _ _ _)
      | (with_reducible exact ih2 _ _ _ _ _ _)
      | (with_reducible exact ih3 _ _ _ _ _ _)
      | (with_reducible exact LeO.refl _)
      | (with_reducible exact LeO.none _)
      | (with_reducible refine LeO.ite ?_ ?_)
      | (with_reducible refine LeO.bind ?_ (fun _ => ?_))
      | exact ih0 _ _ _ _ _
      | exact ih1 _ _ _ _ _
      | exact ih2 _ _ _ _ _ _
      | exact ih3 _ _ _ _ _ _
      | exact LeO.none _
      | refine LeO.ite ?_ ?_
      | refine LeO.bind ?_ (fun _ => ?_)
theorem lambrequinlaw22_InterpMore.mono : ∀ a0 a1 a2 a3 a4 k, LeO (lambrequinlaw22_InterpMore.f k a0 a1 a2 a3 a4) (lambrequinlaw22_InterpMore.f (k + 1) a0 a1 a2 a3 a4) := by
  intro a0 a1 a2 a3 a4 k
  obtain ⟨ih0, ih1, ih2, ih3⟩ := lambrequinlaw22_InterpMore.mono_l k
  unfold lambrequinlaw22_InterpMore.f
  repeat' first
      | (with_reducible exact ih0 _ _ _ _ _)
      | (with_reducible exact ih1 _ _ _ _ _)
      | (with_reducible exact ih2 _ _ _ _ _ _)
      | (with_reducible exact ih3 _ _ _ _ _ _)
      | (with_reducible exact LeO.refl _)
      | (with_reducible exact LeO.none _)
      | (with_reducible refine LeO.ite ?_ ?_)
      | (with_reducible refine LeO.bind ?_ (fun _ => ?_))
      | exact ih0 _ _ _ _ _
      | exact ih1 _ _ _ _ _
      | exact ih2 _ _ _ _ _ _
      | exact ih3 _ _ _ _ _ _
      | exact LeO.none _
      | refine LeO.ite ?_ ?_
      | refine LeO.bind ?_ (fun _ => ?_)
def lambrequinlaw22_InterpMore.T6 : Bool × List (List Nat × List Nat) := (true, [([], []), ([0], [0]), ([], []), ([], []), ([3], [3]), ([2, 4], [2, 4]), ([], []), ([5, 6, 5], [5, 6]), ([], []), ([8], [8]), ([], []), ([10], [10]), ([1, 7, 9, 11, 7], [1, 7, 9, 11]), ([12, 12, 0, 1, 2, 3, 4, 5, 6, 7, 8, 9, 10, 11, 12], [12])])
def lambrequinlaw22_InterpMore.B6 : List Nat := [0, 1, 0, 0, 8, 28, 0, 124, 0, 256, 0, 1024, 4095, 8191]
theorem lambrequinlaw22_InterpMore.tab6 : rtab .any (opsOf Try.f3 6) = lambrequinlaw22_InterpMore.T6 := by kernel_rfl
theorem lambrequinlaw22_InterpMore.bits6 : waitsOk lambrequinlaw22_InterpMore.T6.2 lambrequinlaw22_InterpMore.B6 = true := by kernel_rfl
set_option maxHeartbeats 8000000 in
set_option maxRecDepth 100000 in
theorem lambrequinlaw22_InterpMore.calls (k : Nat) (A0_0 : Option Addr) (c0_0 : Nat) (l0_0 : List (S38)) (A0_1 : Option Addr) (c0_1 : Nat) (l0_1 : List Int) (A0_2 : Option Addr) (c0_2 : Nat) (l0_2 : List Bool) (a0_3 : Int) (a1 : Int) (r : Bool) (w : World) (hr0_0 : Kd.C k38 w A0_0 l0_0.length l0_0) (hc0_0 : l0_0.length ≤ c0_0) (hr0_1 : Kd.C (Kd.int .i64) w A0_1 l0_1.length l0_1) (hc0_1 : l0_1.length ≤ c0_1) (hr0_2 : Kd.C Kd.bool w A0_2 l0_2.length l0_2) (hc0_2 : l0_2.length ≤ c0_2) (h : lambrequinlaw22_InterpMore.f k l0_0 l0_1 l0_2 a0_3 a1 = some r) :
    Calls Try.prog 3 #[.agg #[.slice A0_0 l0_0.length c0_0, .slice A0_1 l0_1.length c0_1, .slice A0_2 l0_2.length c0_2, .int .i64 a0_3], .int .u8 a1] w fun e w' => e = .returned (.bool r) ∧ Below w.heap.size w w' := by
  have hu26 := Try.underlying26
  have hu35 := Try.underlying35
  have HR0_0 := Aside0.mk hr0_0
  have HC0_0 := Aside0.mk hc0_0
  clear hr0_0 hc0_0
  have HR0_1 := Aside0.mk hr0_1
  have HC0_1 := Aside0.mk hc0_1
  clear hr0_1 hc0_1
  have HR0_2 := Aside0.mk hr0_2
  have HC0_2 := Aside0.mk hc0_2
  clear hr0_2 hc0_2
  have HB := Aside0.mk (Below.refl w.heap.size w)
  have H : ((lambrequinlaw22_shown.f).bind fun t312 => ((lambrequinlaw22_few.f l0_0 l0_1 l0_2 a0_3).bind fun t313 => (if t313 = true then ((interp_Run.f l0_0 l0_1 l0_2 a0_3).bind fun t314 => ((interp_Run.f l0_0 l0_1 l0_2 (wrap64 ((mx a0_3 0) + (wrap64 (Int.tmod a1 20))))).bind fun t317 => ((some (([] : List Int) : List Int)).bind fun y320 => (if y320.length + l0_1.length < 17592186044416 then ((some (y320 ++ l0_1 : List Int)).bind fun y323 => ((some (([0, 0] : List Int) : List Int)).bind fun y326 => (if y323.length + y326.length < 17592186044416 then ((interp_Run.f l0_0 (y323 ++ y326) l0_2 a0_3).bind fun t332 => (if (t314.length : Int) > (t317.length : Int) then (lambrequinlaw22_InterpMore.j0 k t312 t314 t317 t332 true) else (lambrequinlaw22_InterpMore.j0 k t312 t314 t317 t332 ((t314.length : Int) != (t332.length : Int))))) else (none)))) else (none))))) else (some t312)))) = some r := h
  clear h
  replace H := Option.bind_eq_some_iff.mp H
  obtain ⟨t312, A30, H⟩ := H
  replace H : ((lambrequinlaw22_few.f l0_0 l0_1 l0_2 a0_3).bind fun t313 => (if t313 = true then ((interp_Run.f l0_0 l0_1 l0_2 a0_3).bind fun t314 => ((interp_Run.f l0_0 l0_1 l0_2 (wrap64 ((mx a0_3 0) + (wrap64 (Int.tmod a1 20))))).bind fun t317 => ((some (([] : List Int) : List Int)).bind fun y320 => (if y320.length + l0_1.length < 17592186044416 then ((some (y320 ++ l0_1 : List Int)).bind fun y323 => ((some (([0, 0] : List Int) : List Int)).bind fun y326 => (if y323.length + y326.length < 17592186044416 then ((interp_Run.f l0_0 (y323 ++ y326) l0_2 a0_3).bind fun t332 => (if (t314.length : Int) > (t317.length : Int) then (lambrequinlaw22_InterpMore.j0 k t312 t314 t317 t332 true) else (lambrequinlaw22_InterpMore.j0 k t312 t314 t317 t332 ((t314.length : Int) != (t332.length : Int))))) else (none)))) else (none))))) else (some t312))) = some r := H
  have A3 := Aside0.mk A30
  clear A30
  replace H := Option.bind_eq_some_iff.mp H
  obtain ⟨t313, A40, H⟩ := H
  replace H : (if t313 = true then ((interp_Run.f l0_0 l0_1 l0_2 a0_3).bind fun t314 => ((interp_Run.f l0_0 l0_1 l0_2 (wrap64 ((mx a0_3 0) + (wrap64 (Int.tmod a1 20))))).bind fun t317 => ((some (([] : List Int) : List Int)).bind fun y320 => (if y320.length + l0_1.length < 17592186044416 then ((some (y320 ++ l0_1 : List Int)).bind fun y323 => ((some (([0, 0] : List Int) : List Int)).bind fun y326 => (if y323.length + y326.length < 17592186044416 then ((interp_Run.f l0_0 (y323 ++ y326) l0_2 a0_3).bind fun t332 => (if (t314.length : Int) > (t317.length : Int) then (lambrequinlaw22_InterpMore.j0 k t312 t314 t317 t332 true) else (lambrequinlaw22_InterpMore.j0 k t312 t314 t317 t332 ((t314.length : Int) != (t332.length : Int))))) else (none)))) else (none))))) else (some t312)) = some r := H
  have A4 := Aside0.mk A40
  clear A40
  by_cases c5 : t313 = true
  · subst c5
    have H1 : ((interp_Run.f l0_0 l0_1 l0_2 a0_3).bind fun t314 => ((interp_Run.f l0_0 l0_1 l0_2 (wrap64 ((mx a0_3 0) + (wrap64 (Int.tmod a1 20))))).bind fun t317 => ((some (([] : List Int) : List Int)).bind fun y320 => (if y320.length + l0_1.length < 17592186044416 then ((some (y320 ++ l0_1 : List Int)).bind fun y323 => ((some (([0, 0] : List Int) : List Int)).bind fun y326 => (if y323.length + y326.length < 17592186044416 then ((interp_Run.f l0_0 (y323 ++ y326) l0_2 a0_3).bind fun t332 => (if (t314.length : Int) > (t317.length : Int) then (lambrequinlaw22_InterpMore.j0 k t312 t314 t317 t332 true) else (lambrequinlaw22_InterpMore.j0 k t312 t314 t317 t332 ((t314.length : Int) != (t332.length : Int))))) else (none)))) else (none))))) = some r := by rw [if_pos rfl] at H; exact H
    clear H
    have H := H1
    clear H1
    replace H := Option.bind_eq_some_iff.mp H
    obtain ⟨t314, A60, H⟩ := H
    replace H : ((interp_Run.f l0_0 l0_1 l0_2 (wrap64 ((mx a0_3 0) + (wrap64 (Int.tmod a1 20))))).bind fun t317 => ((some (([] : List Int) : List Int)).bind fun y320 => (if y320.length + l0_1.length < 17592186044416 then ((some (y320 ++ l0_1 : List Int)).bind fun y323 => ((some (([0, 0] : List Int) : List Int)).bind fun y326 => (if y323.length + y326.length < 17592186044416 then ((interp_Run.f l0_0 (y323 ++ y326) l0_2 a0_3).bind fun t332 => (if (t314.length : Int) > (t317.length : Int) then (lambrequinlaw22_InterpMore.j0 k t312 t314 t317 t332 true) else (lambrequinlaw22_InterpMore.j0 k t312 t314 t317 t332 ((t314.length : Int) != (t332.length : Int))))) else (none)))) else (none)))) = some r := H
    have A6 := Aside0.mk A60
    clear A60
    obtain ⟨ji7, hji7⟩ : ∃ j_ : Int, (mx a0_3 0) = j_ := ⟨_, rfl⟩
    replace H : ((interp_Run.f l0_0 l0_1 l0_2 (wrap64 ((ji7) + (wrap64 (Int.tmod a1 20))))).bind fun t317 => ((some (([] : List Int) : List Int)).bind fun y320 => (if y320.length + l0_1.length < 17592186044416 then ((some (y320 ++ l0_1 : List Int)).bind fun y323 => ((some (([0, 0] : List Int) : List Int)).bind fun y326 => (if y323.length + y326.length < 17592186044416 then ((interp_Run.f l0_0 (y323 ++ y326) l0_2 a0_3).bind fun t332 => (if (t314.length : Int) > (t317.length : Int) then (lambrequinlaw22_InterpMore.j0 k t312 t314 t317 t332 true) else (lambrequinlaw22_InterpMore.j0 k t312 t314 t317 t332 ((t314.length : Int) != (t332.length : Int))))) else (none)))) else (none)))) = some r := by first | (rw [hji7] at H; exact H) | (simp only [hji7] at H ⊢; exact H)
    (try rw [hji7] at A3)
    (try rw [hji7] at A4)
    (try rw [hji7] at A6)
    (try (have hji7l : 0 ≤ ji7 := by (rw [← hji7]; unfold mx; (repeat' split) <;> omega)))
    (try (have hji7m : 0 ≤ ji7 := by omega))
    have hji7_ : (if a0_3 < 0 then 0 else a0_3) = ji7 := hji7
    replace H := Option.bind_eq_some_iff.mp H
    obtain ⟨t317, A80, H⟩ := H
    replace H : ((some (([] : List Int) : List Int)).bind fun y320 => (if y320.length + l0_1.length < 17592186044416 then ((some (y320 ++ l0_1 : List Int)).bind fun y323 => ((some (([0, 0] : List Int) : List Int)).bind fun y326 => (if y323.length + y326.length < 17592186044416 then ((interp_Run.f l0_0 (y323 ++ y326) l0_2 a0_3).bind fun t332 => (if (t314.length : Int) > (t317.length : Int) then (lambrequinlaw22_InterpMore.j0 k t312 t314 t317 t332 true) else (lambrequinlaw22_InterpMore.j0 k t312 t314 t317 t332 ((t314.length : Int) != (t332.length : Int))))) else (none)))) else (none))) = some r := H
    have A8 := Aside0.mk A80
    clear A80
    obtain ⟨y320, hy320⟩ : ∃ y_ : List Int, y_ = (([] : List Int)) := ⟨_, rfl⟩
    replace H : (if y320.length + l0_1.length < 17592186044416 then ((some (y320 ++ l0_1 : List Int)).bind fun y323 => ((some (([0, 0] : List Int) : List Int)).bind fun y326 => (if y323.length + y326.length < 17592186044416 then ((interp_Run.f l0_0 (y323 ++ y326) l0_2 a0_3).bind fun t332 => (if (t314.length : Int) > (t317.length : Int) then (lambrequinlaw22_InterpMore.j0 k t312 t314 t317 t332 true) else (lambrequinlaw22_InterpMore.j0 k t312 t314 t317 t332 ((t314.length : Int) != (t332.length : Int))))) else (none)))) else (none)) = some r := by first | (rw [hy320]; with_reducible exact H) | (have H2_ := (Option.bind_some _ _).symm.trans H; rw [hy320]; with_reducible exact H2_) | (have H2_ := (Option.bind_some _ _).symm.trans H; with_reducible exact H2_) | with_reducible exact H | (rw [hy320]; exact H) | exact H
    have Ny320 := Aside0.mk hy320
    clear hy320
    by_cases c9 : y320.length + l0_1.length < 17592186044416
    · rw [if_pos c9] at H
      have LMc9 := Aside0.mk c9
      clear c9
      obtain ⟨y323, hy323⟩ : ∃ y_ : List Int, y_ = (y320 ++ l0_1) := ⟨_, rfl⟩
      replace H : ((some (([0, 0] : List Int) : List Int)).bind fun y326 => (if y323.length + y326.length < 17592186044416 then ((interp_Run.f l0_0 (y323 ++ y326) l0_2 a0_3).bind fun t332 => (if (t314.length : Int) > (t317.length : Int) then (lambrequinlaw22_InterpMore.j0 k t312 t314 t317 t332 true) else (lambrequinlaw22_InterpMore.j0 k t312 t314 t317 t332 ((t314.length : Int) != (t332.length : Int))))) else (none))) = some r := by first | (rw [hy323]; with_reducible exact H) | (have H2_ := (Option.bind_some _ _).symm.trans H; rw [hy323]; with_reducible exact H2_) | (have H2_ := (Option.bind_some _ _).symm.trans H; with_reducible exact H2_) | with_reducible exact H | (rw [hy323]; exact H) | exact H
      have Ny323 := Aside0.mk hy323
      clear hy323
      obtain ⟨y326, hy326⟩ : ∃ y_ : List Int, y_ = (([0, 0] : List Int)) := ⟨_, rfl⟩
      replace H : (if y323.length + y326.length < 17592186044416 then ((interp_Run.f l0_0 (y323 ++ y326) l0_2 a0_3).bind fun t332 => (if (t314.length : Int) > (t317.length : Int) then (lambrequinlaw22_InterpMore.j0 k t312 t314 t317 t332 true) else (lambrequinlaw22_InterpMore.j0 k t312 t314 t317 t332 ((t314.length : Int) != (t332.length : Int))))) else (none)) = some r := by first | (rw [hy326]; with_reducible exact H) | (have H2_ := (Option.bind_some _ _).symm.trans H; rw [hy326]; with_reducible exact H2_) | (have H2_ := (Option.bind_some _ _).symm.trans H; with_reducible exact H2_) | with_reducible exact H | (rw [hy326]; exact H) | exact H
      have Ny326 := Aside0.mk hy326
      clear hy326
      by_cases c10 : y323.length + y326.length < 17592186044416
      · rw [if_pos c10] at H
        have LMc10 := Aside0.mk c10
        clear c10
        obtain ⟨y329, hy329⟩ : ∃ y_ : List Int, y_ = (y323 ++ y326) := ⟨_, rfl⟩
        replace H : ((interp_Run.f l0_0 y329 l0_2 a0_3).bind fun t332 => (if (t314.length : Int) > (t317.length : Int) then (lambrequinlaw22_InterpMore.j0 k t312 t314 t317 t332 true) else (lambrequinlaw22_InterpMore.j0 k t312 t314 t317 t332 ((t314.length : Int) != (t332.length : Int))))) = some r := by first | (rw [hy329]; with_reducible exact H) | (have H2_ := (Option.bind_some _ _).symm.trans H; rw [hy329]; with_reducible exact H2_) | (have H2_ := (Option.bind_some _ _).symm.trans H; with_reducible exact H2_) | with_reducible exact H | (rw [hy329]; exact H) | exact H
        have Ny329 := Aside0.mk hy329
        clear hy329
        replace H := Option.bind_eq_some_iff.mp H
        obtain ⟨t332, A110, H⟩ := H
        replace H : (if (t314.length : Int) > (t317.length : Int) then (lambrequinlaw22_InterpMore.j0 k t312 t314 t317 t332 true) else (lambrequinlaw22_InterpMore.j0 k t312 t314 t317 t332 ((t314.length : Int) != (t332.length : Int)))) = some r := H
        have A11 := Aside0.mk A110
        clear A110
        have HC12 := Aside0.mk H
        clear H
        go_enter Try.func3, Try.ntmps3
        try go_wp2_with (first | ((with_reducible refine gate_dst (N := 2) rfl ?_); (try (refine gate_guard (by rfl) ?_; dsimp only)); refine box_event ?hg (N := 2) ?hd (cs := #[.slice A0_0 l0_0.length c0_0, .slice A0_1 l0_1.length c0_1, .slice A0_2 l0_2.length c0_2, .int .i64 a0_3]) (t := 26) ?hr ?_; (case hd => rfl); (case hg => rfl); (case hr => first | (go_simp; done) | (go_simp; rfl)); intro gb311 hg w13 hbox hb; have n0_ := Aside0.mk (below_step (by repeat (first | (with_reducible first | exact HB.out | apply below_alloc | apply pw_below_drewN | apply below_drew1) | exact HB.out)) hb); have n1_ := Aside0.mk (hbox); have n2_ := Aside0.mk ((by rw [hg]; exact (below_size (by repeat (first | (with_reducible first | exact HB.out | apply below_alloc | apply pw_below_drewN | apply below_drew1) | exact HB.out))) : w.heap.size ≤ gb311)); have n3_ := Aside0.mk ((by rw [hg]; exact (below_size (by repeat (first | (with_reducible first | exact HB.out | apply below_alloc | apply pw_below_drewN | apply below_drew1) | exact HB.out))) : w.heap.size ≤ gb311)); clear HB; have HB := n0_; have BK311 := n1_; have GW311 := n2_; have GE311 := n3_; clear n0_ n1_ n2_ n3_; clear hb hbox hg) | ((with_reducible refine gate_callee (f := 15) rfl ?_); refine goesL_ (some 11) rfl rfl Try.func15 (by kernel_rfl) rfl #[] rfl (by (try simp only [List.map_toArray, List.map_cons, List.map_nil]); first | done | rfl | (simp only [List.length_drop, List.length_take]; rfl)) ?_; (with_reducible refine (lambrequinlaw22_shown.calls  t312 _ A3.out).mono ?_); rintro e w14 ⟨rfl, hb⟩; refine ⟨_, rfl, ?_⟩; have n0_ := Aside0.mk (blk_below (g := gb311) (o := .cells #[.slice A0_0 l0_0.length c0_0, .slice A0_1 l0_1.length c0_1, .slice A0_2 l0_2.length c0_2, .int .i64 a0_3] 26 (0, 0)) (by (with_reducible repeat (first | refine blk_drewN ?_ _ | refine blk_drew ?_ | refine blk_alloc ?_ _)); exact BK311.out) hb); have n1_ := Aside0.mk (below_step (by repeat (first | (with_reducible first | exact HB.out | apply below_alloc | apply pw_below_drewN | apply below_drew1 | refine below_set ?_ GE311.out) | exact HB.out)) hb); clear BK311; clear HB; have BK311 := n0_; have HB := n1_; clear n0_ n1_; (try clear hb); (try clear hb2); (try clear hk); (try clear hi); have hcz15_0 : w14.cell? ⟨gb311, 0, none⟩ = some (.slice A0_0 l0_0.length c0_0) := (blk_cell BK311.out 0).trans rfl; have hcz15_1 : w14.cell? ⟨gb311, 1, none⟩ = some (.slice A0_1 l0_1.length c0_1) := (blk_cell BK311.out 1).trans rfl; have hcz15_2 : w14.cell? ⟨gb311, 2, none⟩ = some (.slice A0_2 l0_2.length c0_2) := (blk_cell BK311.out 2).trans rfl; have hcz15_3 : w14.cell? ⟨gb311, 3, none⟩ = some (.int .i64 a0_3) := (blk_cell BK311.out 3).trans rfl; have hfz15_0 := blk_frozen BK311.out 0; have hfz15_1 := blk_frozen BK311.out 1; have hfz15_2 := blk_frozen BK311.out 2; have hfz15_3 := blk_frozen BK311.out 3) | ((with_reducible refine gate_callee (f := 16) rfl ?_); refine goesL_ (some 13) rfl rfl Try.func16 (by kernel_rfl) rfl #[.agg #[.slice A0_0 l0_0.length c0_0, .slice A0_1 l0_1.length c0_1, .slice A0_2 l0_2.length c0_2, .int .i64 a0_3]] rfl (by (try simp only [List.map_toArray, List.map_cons, List.map_nil]); first | done | rfl | (simp only [List.length_drop, List.length_take]; rfl)) ?_; (with_reducible refine (lambrequinlaw22_few.calls _ _ l0_0 _ _ l0_1 _ _ l0_2 a0_3 true _ ?side1 ?side2 ?side3 ?side4 ?side5 ?side6 A4.out).mono ?_); (case side1 => repeat (first | exact (Kd.C_below HR0_0.out HB.out) | (with_reducible refine Kd.C_alloc ?_ _) | (with_reducible refine Kd.C_drewN ?_ _) | (with_reducible refine Kd.C_drew ?_))); (case side2 => exact HC0_0.out); (case side3 => repeat (first | exact (Kd.C_below HR0_1.out HB.out) | (with_reducible refine Kd.C_alloc ?_ _) | (with_reducible refine Kd.C_drewN ?_ _) | (with_reducible refine Kd.C_drew ?_))); (case side4 => exact HC0_1.out); (case side5 => repeat (first | exact (Kd.C_below HR0_2.out HB.out) | (with_reducible refine Kd.C_alloc ?_ _) | (with_reducible refine Kd.C_drewN ?_ _) | (with_reducible refine Kd.C_drew ?_))); (case side6 => exact HC0_2.out); rintro e w16 ⟨rfl, hb⟩; refine ⟨_, rfl, ?_⟩; have n0_ := Aside0.mk (blk_below (g := gb311) (o := .cells #[.slice A0_0 l0_0.length c0_0, .slice A0_1 l0_1.length c0_1, .slice A0_2 l0_2.length c0_2, .int .i64 a0_3] 26 (0, 0)) (by (with_reducible repeat (first | refine blk_drewN ?_ _ | refine blk_drew ?_ | refine blk_alloc ?_ _)); exact BK311.out) hb); have n1_ := Aside0.mk (below_step (by repeat (first | (with_reducible first | exact HB.out | apply below_alloc | apply pw_below_drewN | apply below_drew1 | refine below_set ?_ GE311.out) | exact HB.out)) hb); clear BK311; clear HB; have BK311 := n0_; have HB := n1_; clear n0_ n1_; (try clear hb); (try clear hb2); (try clear hk); (try clear hi); have hcz17_0 : w16.cell? ⟨gb311, 0, none⟩ = some (.slice A0_0 l0_0.length c0_0) := (blk_cell BK311.out 0).trans rfl; have hcz17_1 : w16.cell? ⟨gb311, 1, none⟩ = some (.slice A0_1 l0_1.length c0_1) := (blk_cell BK311.out 1).trans rfl; have hcz17_2 : w16.cell? ⟨gb311, 2, none⟩ = some (.slice A0_2 l0_2.length c0_2) := (blk_cell BK311.out 2).trans rfl; have hcz17_3 : w16.cell? ⟨gb311, 3, none⟩ = some (.int .i64 a0_3) := (blk_cell BK311.out 3).trans rfl; have hfz17_0 := blk_frozen BK311.out 0; have hfz17_1 := blk_frozen BK311.out 1; have hfz17_2 := blk_frozen BK311.out 2; have hfz17_3 := blk_frozen BK311.out 3) | ((with_reducible refine gate_callee (f := 17) rfl ?_); refine goesL_ (some 24) rfl rfl Try.func17 (by kernel_rfl) rfl #[.slice A0_0 l0_0.length c0_0, .slice A0_1 l0_1.length c0_1, .slice A0_2 l0_2.length c0_2, .int .i64 a0_3] rfl (by (try simp only [List.map_toArray, List.map_cons, List.map_nil]); first | done | rfl | (simp only [List.length_drop, List.length_take]; rfl)) ?_; (with_reducible refine (interp_Run.calls _ _ l0_0 _ _ l0_1 _ _ l0_2 a0_3 t314 _ ?side1 ?side2 ?side3 ?side4 ?side5 ?side6 A6.out).mono ?_); (case side1 => repeat (first | exact (Kd.C_below HR0_0.out HB.out) | (with_reducible refine Kd.C_alloc ?_ _) | (with_reducible refine Kd.C_drewN ?_ _) | (with_reducible refine Kd.C_drew ?_))); (case side2 => exact HC0_0.out); (case side3 => repeat (first | exact (Kd.C_below HR0_1.out HB.out) | (with_reducible refine Kd.C_alloc ?_ _) | (with_reducible refine Kd.C_drewN ?_ _) | (with_reducible refine Kd.C_drew ?_))); (case side4 => exact HC0_1.out); (case side5 => repeat (first | exact (Kd.C_below HR0_2.out HB.out) | (with_reducible refine Kd.C_alloc ?_ _) | (with_reducible refine Kd.C_drewN ?_ _) | (with_reducible refine Kd.C_drew ?_))); (case side6 => exact HC0_2.out); rintro e w18 ⟨v315, rfl, ho0, hb⟩; refine ⟨_, rfl, ?_⟩; have n0_ := Aside0.mk (Kd.S_lower ho0 (below_size (by repeat (first | (with_reducible first | exact HB.out | apply below_alloc | apply pw_below_drewN | apply below_drew1 | refine below_set ?_ GE311.out) | exact HB.out)))); have n1_ := Aside0.mk (blk_below (g := gb311) (o := .cells #[.slice A0_0 l0_0.length c0_0, .slice A0_1 l0_1.length c0_1, .slice A0_2 l0_2.length c0_2, .int .i64 a0_3] 26 (0, 0)) (by (with_reducible repeat (first | refine blk_drewN ?_ _ | refine blk_drew ?_ | refine blk_alloc ?_ _)); exact BK311.out) hb); have n2_ := Aside0.mk (below_step (by repeat (first | (with_reducible first | exact HB.out | apply below_alloc | apply pw_below_drewN | apply below_drew1 | refine below_set ?_ GE311.out) | exact HB.out)) hb); clear BK311; clear HB; have HO316 := n0_; have BK311 := n1_; have HB := n2_; clear n0_ n1_ n2_; (try clear hb); (try clear hb2); (try clear hk); (try clear hi); (try clear ho0); have hcz19_0 : w18.cell? ⟨gb311, 0, none⟩ = some (.slice A0_0 l0_0.length c0_0) := (blk_cell BK311.out 0).trans rfl; have hcz19_1 : w18.cell? ⟨gb311, 1, none⟩ = some (.slice A0_1 l0_1.length c0_1) := (blk_cell BK311.out 1).trans rfl; have hcz19_2 : w18.cell? ⟨gb311, 2, none⟩ = some (.slice A0_2 l0_2.length c0_2) := (blk_cell BK311.out 2).trans rfl; have hcz19_3 : w18.cell? ⟨gb311, 3, none⟩ = some (.int .i64 a0_3) := (blk_cell BK311.out 3).trans rfl; have hfz19_0 := blk_frozen BK311.out 0; have hfz19_1 := blk_frozen BK311.out 1; have hfz19_2 := blk_frozen BK311.out 2; have hfz19_3 := blk_frozen BK311.out 3) | ((with_reducible refine gate_callee (f := 17) rfl ?_); refine goesL_ (some 38) rfl rfl Try.func17 (by kernel_rfl) rfl #[.slice A0_0 l0_0.length c0_0, .slice A0_1 l0_1.length c0_1, .slice A0_2 l0_2.length c0_2, .int .i64 (wrap64 ((ji7) + (wrap64 (Int.tmod a1 20))))] rfl (by (try simp only [List.map_toArray, List.map_cons, List.map_nil]); first | done | (simp only [hji7]; rfl) | rfl | (simp only [List.length_drop, List.length_take]; rfl)) ?_; (with_reducible refine (interp_Run.calls _ _ l0_0 _ _ l0_1 _ _ l0_2 (wrap64 ((ji7) + (wrap64 (Int.tmod a1 20)))) t317 _ ?side1 ?side2 ?side3 ?side4 ?side5 ?side6 A8.out).mono ?_); (case side1 => repeat (first | exact (Kd.C_below HR0_0.out HB.out) | (with_reducible refine Kd.C_alloc ?_ _) | (with_reducible refine Kd.C_drewN ?_ _) | (with_reducible refine Kd.C_drew ?_))); (case side2 => exact HC0_0.out); (case side3 => repeat (first | exact (Kd.C_below HR0_1.out HB.out) | (with_reducible refine Kd.C_alloc ?_ _) | (with_reducible refine Kd.C_drewN ?_ _) | (with_reducible refine Kd.C_drew ?_))); (case side4 => exact HC0_1.out); (case side5 => repeat (first | exact (Kd.C_below HR0_2.out HB.out) | (with_reducible refine Kd.C_alloc ?_ _) | (with_reducible refine Kd.C_drewN ?_ _) | (with_reducible refine Kd.C_drew ?_))); (case side6 => exact HC0_2.out); rintro e w20 ⟨v318, rfl, ho0, hb⟩; refine ⟨_, rfl, ?_⟩; have n0_ := Aside0.mk (Kd.S_elder' (by (with_reducible repeat (first | apply Kd.S_alloc | apply Kd.S_drewN | apply Kd.S_drew)); exact HO316.out) (Kd.S_base ho0) hb); have n1_ := Aside0.mk (Kd.S_lower (Kd.S_new' ho0 (Kd.S_lt (by (with_reducible repeat (first | apply Kd.S_alloc | apply Kd.S_drewN | apply Kd.S_drew)); exact HO316.out))) (below_size (by repeat (first | (with_reducible first | exact HB.out | apply below_alloc | apply pw_below_drewN | apply below_drew1 | refine below_set ?_ GE311.out) | exact HB.out)))); have n2_ := Aside0.mk (blk_below (g := gb311) (o := .cells #[.slice A0_0 l0_0.length c0_0, .slice A0_1 l0_1.length c0_1, .slice A0_2 l0_2.length c0_2, .int .i64 a0_3] 26 (0, 0)) (by (with_reducible repeat (first | refine blk_drewN ?_ _ | refine blk_drew ?_ | refine blk_alloc ?_ _)); exact BK311.out) hb); have n3_ := Aside0.mk (below_step (by repeat (first | (with_reducible first | exact HB.out | apply below_alloc | apply pw_below_drewN | apply below_drew1 | refine below_set ?_ GE311.out) | exact HB.out)) hb); clear HO316; clear BK311; clear HB; have HO316 := n0_; have HO319 := n1_; have BK311 := n2_; have HB := n3_; clear n0_ n1_ n2_ n3_; (try clear hb); (try clear hb2); (try clear hk); (try clear hi); (try clear ho0)))
        have n0_ := Aside0.mk (Kd.S_drew HO316.out)
        have n1_ := Aside0.mk (Kd.S_drew HO319.out)
        have n2_ := Aside0.mk (blk_drew BK311.out)
        have n3_ := Aside0.mk (below_drew1 HB.out)
        clear HO316
        clear HO319
        clear BK311
        clear HB
        have HO316 := n0_
        have HO319 := n1_
        have BK311 := n2_
        have HB := n3_
        clear n0_ n1_ n2_ n3_
        refine start_ (n := 14) (S := fun w' => w'.cell? ⟨gb311, 0, none⟩ = some (.slice A0_0 l0_0.length c0_0) ∧ w'.cell? ⟨gb311, 1, none⟩ = some (.slice A0_1 l0_1.length c0_1) ∧ w'.cell? ⟨gb311, 2, none⟩ = some (.slice A0_2 l0_2.length c0_2) ∧ w'.cell? ⟨gb311, 3, none⟩ = some (.int .i64 a0_3)) (ds := []) #[false, false, false, false, false, false, false, false, false, false, false, false, false, false] (by kernel_rfl) rfl rfl ⟨(blk_cell BK311.out 0).trans rfl, (blk_cell BK311.out 1).trans rfl, (blk_cell BK311.out 2).trans rfl, (blk_cell BK311.out 3).trans rfl⟩ (fun hHeld => ?_); refine with_tabW lambrequinlaw22_InterpMore.tab6 lambrequinlaw22_InterpMore.bits6 (fun HT_ HW_ => ?_)
        generalize w20.drew = w21 at HO316 HO319 BK311 HB hHeld ⊢
        refine pure_ (i := 0) (N := some 39) (v := ?_) (a' := ?_) #[true, false, false, false, false, false, false, false, false, false, false, false, false, false] rfl rfl (any_of HT_.out (by kernel_rfl)) (fun _ _ _ h => h) (Or.inl ⟨by rfl, ?_⟩) ?_ ?_
        rotate_left
        · intro w'
          go_simp
          with_reducible rfl
        rotate_left
        · simp only [Act.put, List.setIfInBounds_toArray, List.set_cons_zero, List.set_cons_succ, i64_w, i32_w]
          rfl
        refine pure_ (i := 3) (N := some 42) (v := ?_) (a' := ?_) #[true, false, false, true, false, false, false, false, false, false, false, false, false, false] rfl rfl (any_of HT_.out (by kernel_rfl)) (fun _ _ _ h => h) (Or.inl ⟨by rfl, ?_⟩) ?_ ?_
        rotate_left
        · intro w'
          go_simp
          with_reducible rfl
        rotate_left
        · simp only [Act.put, List.setIfInBounds_toArray, List.set_cons_zero, List.set_cons_succ, i64_w, i32_w]
          rfl
        refine pure_ (i := 8) (N := some 47) (v := ?_) (a' := ?_) #[true, false, false, true, false, false, false, false, true, false, false, false, false, false] rfl rfl (any_of HT_.out (by kernel_rfl)) (fun _ _ _ h => h) (Or.inl ⟨by rfl, ?_⟩) ?_ ?_
        rotate_left
        · intro w'
          go_simp
          with_reducible rfl
        rotate_left
        · simp only [Act.put, List.setIfInBounds_toArray, List.set_cons_zero, List.set_cons_succ, i64_w, i32_w]
          rfl
        refine pure_ (i := 10) (N := some 49) (v := ?_) (a' := ?_) #[true, false, false, true, false, false, false, false, true, false, true, false, false, false] rfl rfl (any_of HT_.out (by kernel_rfl)) (fun _ _ _ h => h) (Or.inl ⟨by rfl, ?_⟩) ?_ ?_
        rotate_left
        · intro w'
          go_simp
          with_reducible rfl
        rotate_left
        · simp only [Act.put, List.setIfInBounds_toArray, List.set_cons_zero, List.set_cons_succ, i64_w, i32_w]
          rfl
        refine take_ (i := 1) (N := some 40) (v := ?_) (a' := ?_) #[true, true, false, true, false, false, false, false, true, false, true, false, false, false] rfl rfl (take_ofW HT_.out HW_.out (by kernel_rfl)) (fun _ _ _ h => h) (Or.inl ⟨by rfl, ?_⟩) hHeld ?_ ?_
        rotate_left
        · rintro w' ⟨s0, s1, s2, s3⟩
          go_simp
          with_reducible rfl
        rotate_left
        · simp only [Act.put, List.setIfInBounds_toArray, List.set_cons_zero, List.set_cons_succ, i64_w, i32_w]
          rfl
        refine take_ (i := 4) (N := some 43) (v := ?_) (a' := ?_) #[true, true, false, true, true, false, false, false, true, false, true, false, false, false] rfl rfl (take_ofW HT_.out HW_.out (by kernel_rfl)) (fun _ _ _ h => h) (Or.inl ⟨by rfl, ?_⟩) hHeld ?_ ?_
        rotate_left
        · rintro w' ⟨s0, s1, s2, s3⟩
          go_simp
          with_reducible rfl
        rotate_left
        · simp only [Act.put, List.setIfInBounds_toArray, List.set_cons_zero, List.set_cons_succ, i64_w, i32_w]
          rfl
        refine take_ (i := 9) (N := some 48) (v := ?_) (a' := ?_) #[true, true, false, true, true, false, false, false, true, true, true, false, false, false] rfl rfl (take_ofW HT_.out HW_.out (by kernel_rfl)) (fun _ _ _ h => h) (Or.inl ⟨by rfl, ?_⟩) hHeld ?_ ?_
        rotate_left
        · rintro w' ⟨s0, s1, s2, s3⟩
          go_simp
          with_reducible rfl
        rotate_left
        · simp only [Act.put, List.setIfInBounds_toArray, List.set_cons_zero, List.set_cons_succ, i64_w, i32_w]
          rfl
        refine take_ (i := 11) (N := some 50) (v := ?_) (a' := ?_) #[true, true, false, true, true, false, false, false, true, true, true, true, false, false] rfl rfl (take_ofW HT_.out HW_.out (by kernel_rfl)) (fun _ _ _ h => h) (Or.inl ⟨by rfl, ?_⟩) hHeld ?_ ?_
        rotate_left
        · rintro w' ⟨s0, s1, s2, s3⟩
          go_simp
          with_reducible rfl
        rotate_left
        · simp only [Act.put, List.setIfInBounds_toArray, List.set_cons_zero, List.set_cons_succ, i64_w, i32_w]
          rfl
        refine join_ (σ := Value × Value × Value) 3 #[true, true, true, true, true, true, true, false, true, true, true, true, false, false] (fun s_ => [(41, s_.1), (44, s_.2.1), (45, s_.2.2)]) (fun s_ w' => (w'.cell? ⟨gb311, 0, none⟩ = some (.slice A0_0 l0_0.length c0_0) ∧ w'.cell? ⟨gb311, 1, none⟩ = some (.slice A0_1 l0_1.length c0_1) ∧ w'.cell? ⟨gb311, 2, none⟩ = some (.slice A0_2 l0_2.length c0_2) ∧ w'.cell? ⟨gb311, 3, none⟩ = some (.int .i64 a0_3)) ∧ (Kd.S k33 33 w' w.heap.size (fun k_ => some k_ ≠ (v318 : Value).ownBlock) v315 t314) ∧ (Kd.S k33 33 w' w.heap.size (fun k_ => some k_ ≠ (v315 : Value).ownBlock) v318 t317) ∧ (Kd.R (Kd.int .i64) 2 w' w.heap.size (fun k_ => some k_ ≠ (s_.2.2 : Value).ownBlock) s_.2.1 y323) ∧ (Kd.R (Kd.int .i64) 2 w' w.heap.size (fun k_ => some k_ ≠ (s_.2.1 : Value).ownBlock) s_.2.2 y326) ∧ (w'.heap[gb311]? = some (.cells #[.slice A0_0 l0_0.length c0_0, .slice A0_1 l0_1.length c0_1, .slice A0_2 l0_2.length c0_2, .int .i64 a0_3] 26 (0, 0))) ∧ (Below w.heap.size w w')) ?_ ?_
        rotate_left
        · intro hCont
          refine two_ (i := 2) (j := 6) (Ni := some 41) (Nj := some 45) #[true, true, true, true, true, false, false, false, true, true, true, true, false, false] #[true, true, false, true, true, false, true, false, true, true, true, true, false, false] rfl rfl rfl rfl (two_of HT_.out (by kernel_rfl)) (by decide) (by decide) (fun K hK => ?_) (fun K hK => ?_)
          · skip
            refine Kd.R_lit_step (Kd.int .i64) _ 2 ?hg (N := 41) ?hd (xs := ([] : List Int)) (inner := []) (ok := fun _ => True) (okp := fun _ => True) ?hr ?hp (fun _ hk => hk) trivial (Below.refl _ _) (Nat.le_refl _) (by simp) ?_; (case hd => rfl); (case hg => rfl); (case hr => first | (go_simp; done) | (go_simp; rfl)); (case hp => exact (Reps.none _ _))
            intro v321 w22 ho23 hb hg_ hnew_
            clear hg_ hnew_
            (first | rw [← Ny320.out] at ho23 | (simp only [Int.reduceToNat] at ho23; rw [← Ny320.out] at ho23))
            have n0_ := Aside0.mk (Kd.S_below (by (with_reducible repeat (first | apply Kd.S_alloc | apply Kd.S_drewN | apply Kd.S_drew)); exact HO316.out) hb)
            have n1_ := Aside0.mk (Kd.S_below (by (with_reducible repeat (first | apply Kd.S_alloc | apply Kd.S_drewN | apply Kd.S_drew)); exact HO319.out) hb)
            have n2_ := Aside0.mk (Kd.R_lower ho23 (below_size (by repeat (first | (with_reducible first | exact HB.out | apply below_alloc | apply pw_below_drewN | apply below_drew1 | refine below_set ?_ GE311.out) | exact HB.out))))
            have n3_ := Aside0.mk (blk_below (g := gb311) (o := .cells #[.slice A0_0 l0_0.length c0_0, .slice A0_1 l0_1.length c0_1, .slice A0_2 l0_2.length c0_2, .int .i64 a0_3] 26 (0, 0)) (by (with_reducible repeat (first | refine blk_drewN ?_ _ | refine blk_drew ?_ | refine blk_alloc ?_ _)); exact BK311.out) hb)
            have n4_ := Aside0.mk (below_step (by repeat (first | (with_reducible first | exact HB.out | apply below_alloc | apply pw_below_drewN | apply below_drew1 | refine below_set ?_ GE311.out) | exact HB.out)) hb)
            clear HO316
            clear HO319
            clear BK311
            clear HB
            have HO316 := n0_
            have HO319 := n1_
            have HO322 := n2_
            have BK311 := n3_
            have HB := n4_
            clear n0_ n1_ n2_ n3_ n4_
            clear hb ho23
            refine hK.out _ _ ⟨(blk_cell BK311.out 0).trans rfl, (blk_cell BK311.out 1).trans rfl, (blk_cell BK311.out 2).trans rfl, (blk_cell BK311.out 3).trans rfl⟩ (fun hHeld => ?_)
            clear hK K
            refine norm_ (a' := ?_) ?_ ?_
            rotate_left
            · show Act.put _ (some 41) _ = _
              simp only [Act.put, List.setIfInBounds_toArray, List.set_cons_zero, List.set_cons_succ, i64_w, i32_w]
              rfl
            refine two_ (i := 5) (j := 6) (Ni := some 44) (Nj := some 45) #[true, true, true, true, true, true, false, false, true, true, true, true, false, false] #[true, true, true, true, true, false, true, false, true, true, true, true, false, false] rfl rfl rfl rfl (two_of HT_.out (by kernel_rfl)) (by decide) (by decide) (fun K hK => ?_) (fun K hK => ?_)
            · skip
              refine Kd.R_append_rows_step (Kd.int .i64) (w0 := w) w.heap.size (by rfl) (.tmp 41) (.tmp 43) 23 2 (.int .i64 0) 8 rfl Try.underlying23 info2 rfl (by decide) (by omega) v321 y320 l0_1 _ _ _ (fun _ => True) (fun _ => False) rfl rfl ?aO ?aR (fun _ _ h => h) (fun _ h => h.elim) ?aF ?aB ?aS ?aL ?_
              (case aR => repeat (first | exact (Kd.C_below HR0_1.out HB.out) | (with_reducible refine Kd.C_alloc ?_ _) | (with_reducible refine Kd.C_drewN ?_ _) | (with_reducible refine Kd.C_drew ?_)))
              (case aB => exact (by repeat (first | (with_reducible first | exact HB.out | apply below_alloc | apply pw_below_drewN | apply below_drew1 | refine below_set ?_ GE311.out) | exact HB.out)))
              (case aF => exact (fun _ _ => trivial))
              (case aO => exact (by (with_reducible repeat (first | apply Kd.R_alloc | apply Kd.R_drewN | apply Kd.R_drew)); exact HO322.out))
              (case aS => exact (below_size (by repeat (first | (with_reducible first | exact HB.out | apply below_alloc | apply pw_below_drewN | apply below_drew1 | refine below_set ?_ GE311.out) | exact HB.out))))
              (case aL => have := LMc9.out; omega)
              intro v324 w24 ho hb hg hat
              rw [← Ny323.out] at ho
              have n0_ := Aside0.mk (blk_grown (g := gb311) (o := .cells #[.slice A0_0 l0_0.length c0_0, .slice A0_1 l0_1.length c0_1, .slice A0_2 l0_2.length c0_2, .int .i64 a0_3] 26 (0, 0)) (by (with_reducible repeat (first | refine blk_drewN ?_ _ | refine blk_drew ?_ | refine blk_alloc ?_ _)); exact BK311.out) hg (Kd.R_ne HO322.out BK311.out (by decide)))
              have n1_ := Aside0.mk (Kd.S_over' (by (with_reducible repeat (first | apply Kd.S_alloc | apply Kd.S_drewN | apply Kd.S_drew)); exact HO316.out) (Kd.R_typed (by (with_reducible repeat (first | apply Kd.R_alloc | apply Kd.R_drewN | apply Kd.R_drew)); exact HO322.out)) (by decide) hg)
              have n2_ := Aside0.mk (Kd.S_over' (by (with_reducible repeat (first | apply Kd.S_alloc | apply Kd.S_drewN | apply Kd.S_drew)); exact HO319.out) (Kd.R_typed (by (with_reducible repeat (first | apply Kd.R_alloc | apply Kd.R_drewN | apply Kd.R_drew)); exact HO322.out)) (by decide) hg)
              have n3_ := Aside0.mk (hb)
              have n4_ := Aside0.mk (ho)
              clear BK311
              clear HO316
              clear HO319
              clear HB
              clear HO322
              have BK311 := n0_
              have HO316 := n1_
              have HO319 := n2_
              have HB := n3_
              have HO325 := n4_
              clear n0_ n1_ n2_ n3_ n4_
              clear ho hb hg hat
              refine hK.out _ _ ⟨(blk_cell BK311.out 0).trans rfl, (blk_cell BK311.out 1).trans rfl, (blk_cell BK311.out 2).trans rfl, (blk_cell BK311.out 3).trans rfl⟩ (fun hHeld => ?_)
              clear hK K
              refine norm_ (a' := ?_) ?_ ?_
              rotate_left
              · show Act.put _ (some 44) _ = _
                simp only [Act.put, List.setIfInBounds_toArray, List.set_cons_zero, List.set_cons_succ, i64_w, i32_w]
                rfl
              refine one_ (i := 6) (N := some 45) #[true, true, true, true, true, true, true, false, true, true, true, true, false, false] rfl rfl (one_of HT_.out (by kernel_rfl)) (by decide) (fun K hK => ?_)
              refine Kd.R_lit_step (Kd.int .i64) _ 2 ?hg (N := 45) ?hd (xs := ([0, 0] : List Int)) (inner := [.int .i64 0, .int .i64 0]) (ok := fun _ => True) (okp := fun _ => True) ?hr ?hp (fun _ hk => hk) trivial (Below.refl _ _) (Nat.le_refl _) (by simp) ?_; (case hd => rfl); (case hg => rfl); (case hr => first | (go_simp; done) | (go_simp; rfl)); (case hp => exact (Reps.one (show Kd.M (Kd.int .i64) _ _ _ 0 [.int .i64 0] from rfl) (Reps.one (show Kd.M (Kd.int .i64) _ _ _ 0 [.int .i64 0] from rfl) (Reps.none _ _))))
              intro v327 w25 ho26 hb hg_ hnew_
              clear hg_ hnew_
              (first | rw [← Ny326.out] at ho26 | (simp only [Int.reduceToNat] at ho26; rw [← Ny326.out] at ho26))
              have n0_ := Aside0.mk (Kd.S_below (by (with_reducible repeat (first | apply Kd.S_alloc | apply Kd.S_drewN | apply Kd.S_drew)); exact HO316.out) hb)
              have n1_ := Aside0.mk (Kd.S_below (by (with_reducible repeat (first | apply Kd.S_alloc | apply Kd.S_drewN | apply Kd.S_drew)); exact HO319.out) hb)
              have n2_ := Aside0.mk (Kd.R_elder' (by (with_reducible repeat (first | apply Kd.R_alloc | apply Kd.R_drewN | apply Kd.R_drew)); exact HO325.out) (Kd.R_base ho26) hb)
              have n3_ := Aside0.mk (Kd.R_lower (Kd.R_new' ho26 (Kd.R_lt (by (with_reducible repeat (first | apply Kd.R_alloc | apply Kd.R_drewN | apply Kd.R_drew)); exact HO325.out))) (below_size (by repeat (first | (with_reducible first | exact HB.out | apply below_alloc | apply pw_below_drewN | apply below_drew1 | refine below_set ?_ GE311.out) | exact HB.out))))
              have n4_ := Aside0.mk (blk_below (g := gb311) (o := .cells #[.slice A0_0 l0_0.length c0_0, .slice A0_1 l0_1.length c0_1, .slice A0_2 l0_2.length c0_2, .int .i64 a0_3] 26 (0, 0)) (by (with_reducible repeat (first | refine blk_drewN ?_ _ | refine blk_drew ?_ | refine blk_alloc ?_ _)); exact BK311.out) hb)
              have n5_ := Aside0.mk (below_step (by repeat (first | (with_reducible first | exact HB.out | apply below_alloc | apply pw_below_drewN | apply below_drew1 | refine below_set ?_ GE311.out) | exact HB.out)) hb)
              clear HO316
              clear HO319
              clear HO325
              clear BK311
              clear HB
              have HO316 := n0_
              have HO319 := n1_
              have HO325 := n2_
              have HO328 := n3_
              have BK311 := n4_
              have HB := n5_
              clear n0_ n1_ n2_ n3_ n4_ n5_
              clear hb ho26
              refine hK.out _ _ ⟨(blk_cell BK311.out 0).trans rfl, (blk_cell BK311.out 1).trans rfl, (blk_cell BK311.out 2).trans rfl, (blk_cell BK311.out 3).trans rfl⟩ (fun hHeld => ?_)
              clear hK K
              refine norm_ (a' := ?_) ?_ ?_
              rotate_left
              · show Act.put _ (some 45) _ = _
                simp only [Act.put, List.setIfInBounds_toArray, List.set_cons_zero, List.set_cons_succ, i64_w, i32_w]
                rfl
              exact norm_ (by simp only [putAll, Act.put, List.setIfInBounds_toArray, List.set_cons_zero, List.set_cons_succ]) (hCont (v321, v324, v327) _ ⟨hHeld, (by (with_reducible repeat (first | apply Kd.S_alloc | apply Kd.S_drewN | apply Kd.S_drew)); exact Kd.S_mono HO316.out (fun _ hk => hk.2)), (by (with_reducible repeat (first | apply Kd.S_alloc | apply Kd.S_drewN | apply Kd.S_drew)); exact Kd.S_mono HO319.out (fun _ hk => hk.2)), (by (with_reducible repeat (first | apply Kd.R_alloc | apply Kd.R_drewN | apply Kd.R_drew)); exact Kd.R_mono HO325.out (fun _ hk => hk.2)), (by (with_reducible repeat (first | apply Kd.R_alloc | apply Kd.R_drewN | apply Kd.R_drew)); exact Kd.R_mono HO328.out (fun _ hk => hk.2)), (by (with_reducible repeat (first | refine blk_drewN ?_ _ | refine blk_drew ?_ | refine blk_alloc ?_ _)); exact BK311.out), (by repeat (first | (with_reducible first | exact HB.out | apply below_alloc | apply pw_below_drewN | apply below_drew1 | refine below_set ?_ GE311.out) | exact HB.out))⟩)
            · skip
              refine Kd.R_lit_step (Kd.int .i64) _ 2 ?hg (N := 45) ?hd (xs := ([0, 0] : List Int)) (inner := [.int .i64 0, .int .i64 0]) (ok := fun _ => True) (okp := fun _ => True) ?hr ?hp (fun _ hk => hk) trivial (Below.refl _ _) (Nat.le_refl _) (by simp) ?_; (case hd => rfl); (case hg => rfl); (case hr => first | (go_simp; done) | (go_simp; rfl)); (case hp => exact (Reps.one (show Kd.M (Kd.int .i64) _ _ _ 0 [.int .i64 0] from rfl) (Reps.one (show Kd.M (Kd.int .i64) _ _ _ 0 [.int .i64 0] from rfl) (Reps.none _ _))))
              intro v327 w24 ho25 hb hg_ hnew_
              clear hg_ hnew_
              (first | rw [← Ny326.out] at ho25 | (simp only [Int.reduceToNat] at ho25; rw [← Ny326.out] at ho25))
              have n0_ := Aside0.mk (Kd.S_below (by (with_reducible repeat (first | apply Kd.S_alloc | apply Kd.S_drewN | apply Kd.S_drew)); exact HO316.out) hb)
              have n1_ := Aside0.mk (Kd.S_below (by (with_reducible repeat (first | apply Kd.S_alloc | apply Kd.S_drewN | apply Kd.S_drew)); exact HO319.out) hb)
              have n2_ := Aside0.mk (Kd.R_elder' (by (with_reducible repeat (first | apply Kd.R_alloc | apply Kd.R_drewN | apply Kd.R_drew)); exact HO322.out) (Kd.R_base ho25) hb)
              have n3_ := Aside0.mk (Kd.R_lower (Kd.R_new' ho25 (Kd.R_lt (by (with_reducible repeat (first | apply Kd.R_alloc | apply Kd.R_drewN | apply Kd.R_drew)); exact HO322.out))) (below_size (by repeat (first | (with_reducible first | exact HB.out | apply below_alloc | apply pw_below_drewN | apply below_drew1 | refine below_set ?_ GE311.out) | exact HB.out))))
              have n4_ := Aside0.mk (blk_below (g := gb311) (o := .cells #[.slice A0_0 l0_0.length c0_0, .slice A0_1 l0_1.length c0_1, .slice A0_2 l0_2.length c0_2, .int .i64 a0_3] 26 (0, 0)) (by (with_reducible repeat (first | refine blk_drewN ?_ _ | refine blk_drew ?_ | refine blk_alloc ?_ _)); exact BK311.out) hb)
              have n5_ := Aside0.mk (below_step (by repeat (first | (with_reducible first | exact HB.out | apply below_alloc | apply pw_below_drewN | apply below_drew1 | refine below_set ?_ GE311.out) | exact HB.out)) hb)
              clear HO316
              clear HO319
              clear HO322
              clear BK311
              clear HB
              have HO316 := n0_
              have HO319 := n1_
              have HO322 := n2_
              have HO328 := n3_
              have BK311 := n4_
              have HB := n5_
              clear n0_ n1_ n2_ n3_ n4_ n5_
              clear hb ho25
              refine hK.out _ _ ⟨(blk_cell BK311.out 0).trans rfl, (blk_cell BK311.out 1).trans rfl, (blk_cell BK311.out 2).trans rfl, (blk_cell BK311.out 3).trans rfl⟩ (fun hHeld => ?_)
              clear hK K
              refine norm_ (a' := ?_) ?_ ?_
              rotate_left
              · show Act.put _ (some 45) _ = _
                simp only [Act.put, List.setIfInBounds_toArray, List.set_cons_zero, List.set_cons_succ, i64_w, i32_w]
                rfl
              refine one_ (i := 5) (N := some 44) #[true, true, true, true, true, true, true, false, true, true, true, true, false, false] rfl rfl (one_of HT_.out (by kernel_rfl)) (by decide) (fun K hK => ?_)
              refine Kd.R_append_rows_step (Kd.int .i64) (w0 := w) w.heap.size (by rfl) (.tmp 41) (.tmp 43) 23 2 (.int .i64 0) 8 rfl Try.underlying23 info2 rfl (by decide) (by omega) v321 y320 l0_1 _ _ _ (fun k_ => some k_ ≠ (v327 : Value).ownBlock) (fun _ => False) rfl rfl ?aO ?aR (fun _ _ h => h) (fun _ h => h.elim) ?aF ?aB ?aS ?aL ?_
              (case aR => repeat (first | exact (Kd.C_below HR0_1.out HB.out) | (with_reducible refine Kd.C_alloc ?_ _) | (with_reducible refine Kd.C_drewN ?_ _) | (with_reducible refine Kd.C_drew ?_)))
              (case aB => exact (by repeat (first | (with_reducible first | exact HB.out | apply below_alloc | apply pw_below_drewN | apply below_drew1 | refine below_set ?_ GE311.out) | exact HB.out)))
              (case aF => exact (fun k_ hk => Kd.fresh' (Kd.R_lt (by (with_reducible repeat (first | apply Kd.R_alloc | apply Kd.R_drewN | apply Kd.R_drew)); exact HO328.out)) k_ hk))
              (case aO => exact (by (with_reducible repeat (first | apply Kd.R_alloc | apply Kd.R_drewN | apply Kd.R_drew)); exact Kd.R_mono HO322.out (fun _ hk => hk.2)))
              (case aS => exact (below_size (by repeat (first | (with_reducible first | exact HB.out | apply below_alloc | apply pw_below_drewN | apply below_drew1 | refine below_set ?_ GE311.out) | exact HB.out))))
              (case aL => have := LMc9.out; omega)
              intro v324 w26 ho hb hg hat
              rw [← Ny323.out] at ho
              have n0_ := Aside0.mk (blk_grown (g := gb311) (o := .cells #[.slice A0_0 l0_0.length c0_0, .slice A0_1 l0_1.length c0_1, .slice A0_2 l0_2.length c0_2, .int .i64 a0_3] 26 (0, 0)) (by (with_reducible repeat (first | refine blk_drewN ?_ _ | refine blk_drew ?_ | refine blk_alloc ?_ _)); exact BK311.out) hg (Kd.R_ne HO322.out BK311.out (by decide)))
              have n1_ := Aside0.mk (Kd.S_over' (by (with_reducible repeat (first | apply Kd.S_alloc | apply Kd.S_drewN | apply Kd.S_drew)); exact HO316.out) (Kd.R_typed (by (with_reducible repeat (first | apply Kd.R_alloc | apply Kd.R_drewN | apply Kd.R_drew)); exact HO322.out)) (by decide) hg)
              have n2_ := Aside0.mk (Kd.S_over' (by (with_reducible repeat (first | apply Kd.S_alloc | apply Kd.S_drewN | apply Kd.S_drew)); exact HO319.out) (Kd.R_typed (by (with_reducible repeat (first | apply Kd.R_alloc | apply Kd.R_drewN | apply Kd.R_drew)); exact HO322.out)) (by decide) hg)
              have n3_ := Aside0.mk (Kd.R_after (ok := (fun _ => True)) (by (with_reducible repeat (first | apply Kd.R_alloc | apply Kd.R_drewN | apply Kd.R_drew)); exact HO328.out) hg hat)
              have n4_ := Aside0.mk (hb)
              have n5_ := Aside0.mk (ho)
              clear BK311
              clear HO316
              clear HO319
              clear HO328
              clear HB
              clear HO322
              have BK311 := n0_
              have HO316 := n1_
              have HO319 := n2_
              have HO328 := n3_
              have HB := n4_
              have HO325 := n5_
              clear n0_ n1_ n2_ n3_ n4_ n5_
              clear ho hb hg hat
              refine hK.out _ _ ⟨(blk_cell BK311.out 0).trans rfl, (blk_cell BK311.out 1).trans rfl, (blk_cell BK311.out 2).trans rfl, (blk_cell BK311.out 3).trans rfl⟩ (fun hHeld => ?_)
              clear hK K
              refine norm_ (a' := ?_) ?_ ?_
              rotate_left
              · show Act.put _ (some 44) _ = _
                simp only [Act.put, List.setIfInBounds_toArray, List.set_cons_zero, List.set_cons_succ, i64_w, i32_w]
                rfl
              exact norm_ (by simp only [putAll, Act.put, List.setIfInBounds_toArray, List.set_cons_zero, List.set_cons_succ]) (hCont (v321, v324, v327) _ ⟨hHeld, (by (with_reducible repeat (first | apply Kd.S_alloc | apply Kd.S_drewN | apply Kd.S_drew)); exact Kd.S_mono HO316.out (fun _ hk => hk.2)), (by (with_reducible repeat (first | apply Kd.S_alloc | apply Kd.S_drewN | apply Kd.S_drew)); exact Kd.S_mono HO319.out (fun _ hk => hk.2)), (by (with_reducible repeat (first | apply Kd.R_alloc | apply Kd.R_drewN | apply Kd.R_drew)); exact HO325.out), (by (with_reducible repeat (first | apply Kd.R_alloc | apply Kd.R_drewN | apply Kd.R_drew)); exact Kd.R_mono HO328.out (fun _ hk => hk.2)), (by (with_reducible repeat (first | refine blk_drewN ?_ _ | refine blk_drew ?_ | refine blk_alloc ?_ _)); exact BK311.out), (by repeat (first | (with_reducible first | exact HB.out | apply below_alloc | apply pw_below_drewN | apply below_drew1 | refine below_set ?_ GE311.out) | exact HB.out))⟩)
          · skip
            refine Kd.R_lit_step (Kd.int .i64) _ 2 ?hg (N := 45) ?hd (xs := ([0, 0] : List Int)) (inner := [.int .i64 0, .int .i64 0]) (ok := fun _ => True) (okp := fun _ => True) ?hr ?hp (fun _ hk => hk) trivial (Below.refl _ _) (Nat.le_refl _) (by simp) ?_; (case hd => rfl); (case hg => rfl); (case hr => first | (go_simp; done) | (go_simp; rfl)); (case hp => exact (Reps.one (show Kd.M (Kd.int .i64) _ _ _ 0 [.int .i64 0] from rfl) (Reps.one (show Kd.M (Kd.int .i64) _ _ _ 0 [.int .i64 0] from rfl) (Reps.none _ _))))
            intro v327 w22 ho23 hb hg_ hnew_
            clear hg_ hnew_
            (first | rw [← Ny326.out] at ho23 | (simp only [Int.reduceToNat] at ho23; rw [← Ny326.out] at ho23))
            have n0_ := Aside0.mk (Kd.S_below (by (with_reducible repeat (first | apply Kd.S_alloc | apply Kd.S_drewN | apply Kd.S_drew)); exact HO316.out) hb)
            have n1_ := Aside0.mk (Kd.S_below (by (with_reducible repeat (first | apply Kd.S_alloc | apply Kd.S_drewN | apply Kd.S_drew)); exact HO319.out) hb)
            have n2_ := Aside0.mk (Kd.R_lower ho23 (below_size (by repeat (first | (with_reducible first | exact HB.out | apply below_alloc | apply pw_below_drewN | apply below_drew1 | refine below_set ?_ GE311.out) | exact HB.out))))
            have n3_ := Aside0.mk (blk_below (g := gb311) (o := .cells #[.slice A0_0 l0_0.length c0_0, .slice A0_1 l0_1.length c0_1, .slice A0_2 l0_2.length c0_2, .int .i64 a0_3] 26 (0, 0)) (by (with_reducible repeat (first | refine blk_drewN ?_ _ | refine blk_drew ?_ | refine blk_alloc ?_ _)); exact BK311.out) hb)
            have n4_ := Aside0.mk (below_step (by repeat (first | (with_reducible first | exact HB.out | apply below_alloc | apply pw_below_drewN | apply below_drew1 | refine below_set ?_ GE311.out) | exact HB.out)) hb)
            clear HO316
            clear HO319
            clear BK311
            clear HB
            have HO316 := n0_
            have HO319 := n1_
            have HO328 := n2_
            have BK311 := n3_
            have HB := n4_
            clear n0_ n1_ n2_ n3_ n4_
            clear hb ho23
            refine hK.out _ _ ⟨(blk_cell BK311.out 0).trans rfl, (blk_cell BK311.out 1).trans rfl, (blk_cell BK311.out 2).trans rfl, (blk_cell BK311.out 3).trans rfl⟩ (fun hHeld => ?_)
            clear hK K
            refine norm_ (a' := ?_) ?_ ?_
            rotate_left
            · show Act.put _ (some 45) _ = _
              simp only [Act.put, List.setIfInBounds_toArray, List.set_cons_zero, List.set_cons_succ, i64_w, i32_w]
              rfl
            refine one_ (i := 2) (N := some 41) #[true, true, true, true, true, false, true, false, true, true, true, true, false, false] rfl rfl (one_of HT_.out (by kernel_rfl)) (by decide) (fun K hK => ?_)
            refine Kd.R_lit_step (Kd.int .i64) _ 2 ?hg (N := 41) ?hd (xs := ([] : List Int)) (inner := []) (ok := fun _ => True) (okp := fun _ => True) ?hr ?hp (fun _ hk => hk) trivial (Below.refl _ _) (Nat.le_refl _) (by simp) ?_; (case hd => rfl); (case hg => rfl); (case hr => first | (go_simp; done) | (go_simp; rfl)); (case hp => exact (Reps.none _ _))
            intro v321 w24 ho25 hb hg_ hnew_
            clear hg_ hnew_
            (first | rw [← Ny320.out] at ho25 | (simp only [Int.reduceToNat] at ho25; rw [← Ny320.out] at ho25))
            have n0_ := Aside0.mk (Kd.S_below (by (with_reducible repeat (first | apply Kd.S_alloc | apply Kd.S_drewN | apply Kd.S_drew)); exact HO316.out) hb)
            have n1_ := Aside0.mk (Kd.S_below (by (with_reducible repeat (first | apply Kd.S_alloc | apply Kd.S_drewN | apply Kd.S_drew)); exact HO319.out) hb)
            have n2_ := Aside0.mk (Kd.R_elder' (by (with_reducible repeat (first | apply Kd.R_alloc | apply Kd.R_drewN | apply Kd.R_drew)); exact HO328.out) (Kd.R_base ho25) hb)
            have n3_ := Aside0.mk (Kd.R_lower (Kd.R_new' ho25 (Kd.R_lt (by (with_reducible repeat (first | apply Kd.R_alloc | apply Kd.R_drewN | apply Kd.R_drew)); exact HO328.out))) (below_size (by repeat (first | (with_reducible first | exact HB.out | apply below_alloc | apply pw_below_drewN | apply below_drew1 | refine below_set ?_ GE311.out) | exact HB.out))))
            have n4_ := Aside0.mk (blk_below (g := gb311) (o := .cells #[.slice A0_0 l0_0.length c0_0, .slice A0_1 l0_1.length c0_1, .slice A0_2 l0_2.length c0_2, .int .i64 a0_3] 26 (0, 0)) (by (with_reducible repeat (first | refine blk_drewN ?_ _ | refine blk_drew ?_ | refine blk_alloc ?_ _)); exact BK311.out) hb)
            have n5_ := Aside0.mk (below_step (by repeat (first | (with_reducible first | exact HB.out | apply below_alloc | apply pw_below_drewN | apply below_drew1 | refine below_set ?_ GE311.out) | exact HB.out)) hb)
            clear HO316
            clear HO319
            clear HO328
            clear BK311
            clear HB
            have HO316 := n0_
            have HO319 := n1_
            have HO328 := n2_
            have HO322 := n3_
            have BK311 := n4_
            have HB := n5_
            clear n0_ n1_ n2_ n3_ n4_ n5_
            clear hb ho25
            refine hK.out _ _ ⟨(blk_cell BK311.out 0).trans rfl, (blk_cell BK311.out 1).trans rfl, (blk_cell BK311.out 2).trans rfl, (blk_cell BK311.out 3).trans rfl⟩ (fun hHeld => ?_)
            clear hK K
            refine norm_ (a' := ?_) ?_ ?_
            rotate_left
            · show Act.put _ (some 41) _ = _
              simp only [Act.put, List.setIfInBounds_toArray, List.set_cons_zero, List.set_cons_succ, i64_w, i32_w]
              rfl
            refine one_ (i := 5) (N := some 44) #[true, true, true, true, true, true, true, false, true, true, true, true, false, false] rfl rfl (one_of HT_.out (by kernel_rfl)) (by decide) (fun K hK => ?_)
            refine Kd.R_append_rows_step (Kd.int .i64) (w0 := w) w.heap.size (by rfl) (.tmp 41) (.tmp 43) 23 2 (.int .i64 0) 8 rfl Try.underlying23 info2 rfl (by decide) (by omega) v321 y320 l0_1 _ _ _ (fun k_ => some k_ ≠ (v327 : Value).ownBlock) (fun _ => False) rfl rfl ?aO ?aR (fun _ _ h => h) (fun _ h => h.elim) ?aF ?aB ?aS ?aL ?_
            (case aR => repeat (first | exact (Kd.C_below HR0_1.out HB.out) | (with_reducible refine Kd.C_alloc ?_ _) | (with_reducible refine Kd.C_drewN ?_ _) | (with_reducible refine Kd.C_drew ?_)))
            (case aB => exact (by repeat (first | (with_reducible first | exact HB.out | apply below_alloc | apply pw_below_drewN | apply below_drew1 | refine below_set ?_ GE311.out) | exact HB.out)))
            (case aF => exact (fun k_ hk => Kd.fresh' (Kd.R_lt (by (with_reducible repeat (first | apply Kd.R_alloc | apply Kd.R_drewN | apply Kd.R_drew)); exact HO328.out)) k_ hk))
            (case aO => exact (by (with_reducible repeat (first | apply Kd.R_alloc | apply Kd.R_drewN | apply Kd.R_drew)); exact Kd.R_mono HO322.out (fun _ hk => hk.2)))
            (case aS => exact (below_size (by repeat (first | (with_reducible first | exact HB.out | apply below_alloc | apply pw_below_drewN | apply below_drew1 | refine below_set ?_ GE311.out) | exact HB.out))))
            (case aL => have := LMc9.out; omega)
            intro v324 w26 ho hb hg hat
            rw [← Ny323.out] at ho
            have n0_ := Aside0.mk (blk_grown (g := gb311) (o := .cells #[.slice A0_0 l0_0.length c0_0, .slice A0_1 l0_1.length c0_1, .slice A0_2 l0_2.length c0_2, .int .i64 a0_3] 26 (0, 0)) (by (with_reducible repeat (first | refine blk_drewN ?_ _ | refine blk_drew ?_ | refine blk_alloc ?_ _)); exact BK311.out) hg (Kd.R_ne HO322.out BK311.out (by decide)))
            have n1_ := Aside0.mk (Kd.S_over' (by (with_reducible repeat (first | apply Kd.S_alloc | apply Kd.S_drewN | apply Kd.S_drew)); exact HO316.out) (Kd.R_typed (by (with_reducible repeat (first | apply Kd.R_alloc | apply Kd.R_drewN | apply Kd.R_drew)); exact HO322.out)) (by decide) hg)
            have n2_ := Aside0.mk (Kd.S_over' (by (with_reducible repeat (first | apply Kd.S_alloc | apply Kd.S_drewN | apply Kd.S_drew)); exact HO319.out) (Kd.R_typed (by (with_reducible repeat (first | apply Kd.R_alloc | apply Kd.R_drewN | apply Kd.R_drew)); exact HO322.out)) (by decide) hg)
            have n3_ := Aside0.mk (Kd.R_after (ok := (fun _ => True)) (by (with_reducible repeat (first | apply Kd.R_alloc | apply Kd.R_drewN | apply Kd.R_drew)); exact HO328.out) hg hat)
            have n4_ := Aside0.mk (hb)
            have n5_ := Aside0.mk (ho)
            clear BK311
            clear HO316
            clear HO319
            clear HO328
            clear HB
            clear HO322
            have BK311 := n0_
            have HO316 := n1_
            have HO319 := n2_
            have HO328 := n3_
            have HB := n4_
            have HO325 := n5_
            clear n0_ n1_ n2_ n3_ n4_ n5_
            clear ho hb hg hat
            refine hK.out _ _ ⟨(blk_cell BK311.out 0).trans rfl, (blk_cell BK311.out 1).trans rfl, (blk_cell BK311.out 2).trans rfl, (blk_cell BK311.out 3).trans rfl⟩ (fun hHeld => ?_)
            clear hK K
            refine norm_ (a' := ?_) ?_ ?_
            rotate_left
            · show Act.put _ (some 44) _ = _
              simp only [Act.put, List.setIfInBounds_toArray, List.set_cons_zero, List.set_cons_succ, i64_w, i32_w]
              rfl
            exact norm_ (by simp only [putAll, Act.put, List.setIfInBounds_toArray, List.set_cons_zero, List.set_cons_succ]) (hCont (v321, v324, v327) _ ⟨hHeld, (by (with_reducible repeat (first | apply Kd.S_alloc | apply Kd.S_drewN | apply Kd.S_drew)); exact Kd.S_mono HO316.out (fun _ hk => hk.2)), (by (with_reducible repeat (first | apply Kd.S_alloc | apply Kd.S_drewN | apply Kd.S_drew)); exact Kd.S_mono HO319.out (fun _ hk => hk.2)), (by (with_reducible repeat (first | apply Kd.R_alloc | apply Kd.R_drewN | apply Kd.R_drew)); exact HO325.out), (by (with_reducible repeat (first | apply Kd.R_alloc | apply Kd.R_drewN | apply Kd.R_drew)); exact Kd.R_mono HO328.out (fun _ hk => hk.2)), (by (with_reducible repeat (first | refine blk_drewN ?_ _ | refine blk_drew ?_ | refine blk_alloc ?_ _)); exact BK311.out), (by repeat (first | (with_reducible first | exact HB.out | apply below_alloc | apply pw_below_drewN | apply below_drew1 | refine below_set ?_ GE311.out) | exact HB.out))⟩)
        rintro ⟨v321, v324, v327⟩ w27 ⟨hS_, h0_, h1_, h2_, h3_, h4_, h5_⟩
        have n0_ : Aside0 (Kd.S k33 33 w27 w.heap.size (fun k_ => some k_ ≠ (v318 : Value).ownBlock) v315 t314) := ⟨h0_⟩
        have n1_ : Aside0 (Kd.S k33 33 w27 w.heap.size (fun k_ => some k_ ≠ (v315 : Value).ownBlock) v318 t317) := ⟨h1_⟩
        have n2_ : Aside0 (Kd.R (Kd.int .i64) 2 w27 w.heap.size (fun k_ => some k_ ≠ (v327 : Value).ownBlock) v324 y323) := ⟨h2_⟩
        have n3_ : Aside0 (Kd.R (Kd.int .i64) 2 w27 w.heap.size (fun k_ => some k_ ≠ (v324 : Value).ownBlock) v327 y326) := ⟨h3_⟩
        have n4_ : Aside0 (w27.heap[gb311]? = some (.cells #[.slice A0_0 l0_0.length c0_0, .slice A0_1 l0_1.length c0_1, .slice A0_2 l0_2.length c0_2, .int .i64 a0_3] 26 (0, 0))) := ⟨h4_⟩
        have n5_ : Aside0 (Below w.heap.size w w27) := ⟨h5_⟩
        clear HO316
        clear HO319
        clear BK311
        clear HB
        clear h0_ h1_ h2_ h3_ h4_ h5_
        have HO316 := n0_
        have HO319 := n1_
        have HO325 := n2_
        have HO328 := n3_
        have BK311 := n4_
        have HB := n5_
        clear n0_ n1_ n2_ n3_ n4_ n5_
        have hHeld : w27.cell? ⟨gb311, 0, none⟩ = some (.slice A0_0 l0_0.length c0_0) ∧ w27.cell? ⟨gb311, 1, none⟩ = some (.slice A0_1 l0_1.length c0_1) ∧ w27.cell? ⟨gb311, 2, none⟩ = some (.slice A0_2 l0_2.length c0_2) ∧ w27.cell? ⟨gb311, 3, none⟩ = some (.int .i64 a0_3) := hS_
        obtain ⟨Ao29, co29, eo29⟩ := Kd.R_slice HO328.out
        (first | subst eo29 | (injection eo29 with f1_ f2_ f3_; have f4_ := f1_.symm; have f5_ := f3_.symm; clear f1_ f2_ f3_; subst f4_; subst f5_))
        refine norm_ (a' := ?_) ?_ ?_
        rotate_left
        · simp only [putAll, Act.put, List.setIfInBounds_toArray, List.set_cons_zero, List.set_cons_succ]
          rfl
        refine one_ (i := 7) (N := some 46) #[true, true, true, true, true, true, true, true, true, true, true, true, false, false] rfl rfl (one_of HT_.out (by kernel_rfl)) (by decide) (fun K hK => ?_)
        refine Kd.R_append_rows_step (Kd.int .i64) (w0 := w) w.heap.size (by rfl) (.tmp 44) (.tmp 45) 23 2 (.int .i64 0) 8 rfl Try.underlying23 info2 rfl (by decide) (by omega) v324 y323 y326 _ _ _ (fun k_ => some k_ ≠ (.slice Ao29 y326.length co29 : Value).ownBlock) (fun _ => False) rfl rfl ?aO ?aR (fun _ _ h => h) (fun _ h => h.elim) ?aF ?aB ?aS ?aL ?_
        (case aR => repeat (first | exact (Kd.R_reads' HO328.out).2.2 | (with_reducible refine Kd.C_alloc ?_ _) | (with_reducible refine Kd.C_drewN ?_ _) | (with_reducible refine Kd.C_drew ?_)))
        (case aB => exact (by repeat (first | (with_reducible first | exact HB.out | apply below_alloc | apply pw_below_drewN | apply below_drew1 | refine below_set ?_ GE311.out) | exact HB.out)))
        (case aF => exact (fun k_ hk => Kd.fresh' (Kd.R_lt (by (with_reducible repeat (first | apply Kd.R_alloc | apply Kd.R_drewN | apply Kd.R_drew)); exact HO328.out)) k_ hk))
        (case aO => exact (by (with_reducible repeat (first | apply Kd.R_alloc | apply Kd.R_drewN | apply Kd.R_drew)); exact HO325.out))
        (case aS => exact (below_size (by repeat (first | (with_reducible first | exact HB.out | apply below_alloc | apply pw_below_drewN | apply below_drew1 | refine below_set ?_ GE311.out) | exact HB.out))))
        (case aL => have := LMc10.out; omega)
        intro v330 w28 ho hb hg hat
        rw [← Ny329.out] at ho
        have n0_ := Aside0.mk (blk_grown (g := gb311) (o := .cells #[.slice A0_0 l0_0.length c0_0, .slice A0_1 l0_1.length c0_1, .slice A0_2 l0_2.length c0_2, .int .i64 a0_3] 26 (0, 0)) (by (with_reducible repeat (first | refine blk_drewN ?_ _ | refine blk_drew ?_ | refine blk_alloc ?_ _)); exact BK311.out) hg (Kd.R_ne HO325.out BK311.out (by decide)))
        have n1_ := Aside0.mk (Kd.S_over' (by (with_reducible repeat (first | apply Kd.S_alloc | apply Kd.S_drewN | apply Kd.S_drew)); exact HO316.out) (Kd.R_typed (by (with_reducible repeat (first | apply Kd.R_alloc | apply Kd.R_drewN | apply Kd.R_drew)); exact HO325.out)) (by decide) hg)
        have n2_ := Aside0.mk (Kd.S_over' (by (with_reducible repeat (first | apply Kd.S_alloc | apply Kd.S_drewN | apply Kd.S_drew)); exact HO319.out) (Kd.R_typed (by (with_reducible repeat (first | apply Kd.R_alloc | apply Kd.R_drewN | apply Kd.R_drew)); exact HO325.out)) (by decide) hg)
        have n3_ := Aside0.mk (Kd.R_after (ok := (fun _ => True)) (by (with_reducible repeat (first | apply Kd.R_alloc | apply Kd.R_drewN | apply Kd.R_drew)); exact Kd.R_mono HO328.out (fun _ hk => ⟨trivial, hk⟩)) hg hat)
        have n4_ := Aside0.mk (hb)
        have n5_ := Aside0.mk (ho)
        clear BK311
        clear HO316
        clear HO319
        clear HO328
        clear HB
        clear HO325
        have BK311 := n0_
        have HO316 := n1_
        have HO319 := n2_
        have HO328 := n3_
        have HB := n4_
        have HO331 := n5_
        clear n0_ n1_ n2_ n3_ n4_ n5_
        clear ho hb hg hat
        obtain ⟨Ao30, co30, eo30⟩ := Kd.R_slice HO331.out
        (first | subst eo30 | (injection eo30 with f1_ f2_ f3_; have f4_ := f1_.symm; have f5_ := f3_.symm; clear f1_ f2_ f3_; subst f4_; subst f5_))
        refine hK.out _ _ ⟨(blk_cell BK311.out 0).trans rfl, (blk_cell BK311.out 1).trans rfl, (blk_cell BK311.out 2).trans rfl, (blk_cell BK311.out 3).trans rfl⟩ (fun hHeld => ?_)
        clear hK K
        refine norm_ (a' := ?_) ?_ ?_
        rotate_left
        · show Act.put _ (some 46) _ = _
          simp only [Act.put, List.setIfInBounds_toArray, List.set_cons_zero, List.set_cons_succ, i64_w, i32_w]
          rfl
        refine one_ (i := 12) (N := some 51) #[true, true, true, true, true, true, true, true, true, true, true, true, true, false] rfl rfl (one_of HT_.out (by kernel_rfl)) (by decide) (fun K hK => ?_)
        refine goes_ Try.func17 (by kernel_rfl) rfl #[.slice A0_0 l0_0.length c0_0, .slice Ao30 y329.length co30, .slice A0_2 l0_2.length c0_2, .int .i64 a0_3] (by rfl) rfl rfl (by (try simp only [List.map_toArray, List.map_cons, List.map_nil]); first | done | rfl | (simp only [List.length_drop, List.length_take]; rfl)) ?_
        with_reducible refine (interp_Run.calls _ _ l0_0 _ _ y329 _ _ l0_2 a0_3 t332 _ ?side1 ?side2 ?side3 ?side4 ?side5 ?side6 A11.out).mono ?_
        (case side1 => repeat (first | exact (Kd.C_below HR0_0.out HB.out) | (with_reducible refine Kd.C_alloc ?_ _) | (with_reducible refine Kd.C_drewN ?_ _) | (with_reducible refine Kd.C_drew ?_)))
        (case side2 => exact HC0_0.out)
        (case side3 => repeat (first | exact (Kd.R_reads' HO331.out).2.2 | (with_reducible refine Kd.C_alloc ?_ _) | (with_reducible refine Kd.C_drewN ?_ _) | (with_reducible refine Kd.C_drew ?_)))
        (case side4 => exact (Kd.R_reads' HO331.out).2.1)
        (case side5 => repeat (first | exact (Kd.C_below HR0_2.out HB.out) | (with_reducible refine Kd.C_alloc ?_ _) | (with_reducible refine Kd.C_drewN ?_ _) | (with_reducible refine Kd.C_drew ?_)))
        (case side6 => exact HC0_2.out)
        rintro e w31 ⟨v333, rfl, ho0, hb⟩
        refine ⟨_, rfl, ?_⟩
        have n0_ := Aside0.mk (Kd.S_elder' (by (with_reducible repeat (first | apply Kd.S_alloc | apply Kd.S_drewN | apply Kd.S_drew)); exact HO316.out) (Kd.S_base ho0) hb)
        have n1_ := Aside0.mk (Kd.S_elder' (by (with_reducible repeat (first | apply Kd.S_alloc | apply Kd.S_drewN | apply Kd.S_drew)); exact HO319.out) (Kd.S_base ho0) hb)
        have n2_ := Aside0.mk (Kd.R_below (by (with_reducible repeat (first | apply Kd.R_alloc | apply Kd.R_drewN | apply Kd.R_drew)); exact HO328.out) hb)
        have n3_ := Aside0.mk (Kd.R_below (by (with_reducible repeat (first | apply Kd.R_alloc | apply Kd.R_drewN | apply Kd.R_drew)); exact HO331.out) hb)
        have n4_ := Aside0.mk (Kd.S_lower (Kd.S_new' (Kd.S_new' ho0 (Kd.S_lt (by (with_reducible repeat (first | apply Kd.S_alloc | apply Kd.S_drewN | apply Kd.S_drew)); exact HO316.out))) (Kd.S_lt (by (with_reducible repeat (first | apply Kd.S_alloc | apply Kd.S_drewN | apply Kd.S_drew)); exact HO319.out))) (below_size (by repeat (first | (with_reducible first | exact HB.out | apply below_alloc | apply pw_below_drewN | apply below_drew1 | refine below_set ?_ GE311.out) | exact HB.out))))
        have n5_ := Aside0.mk (blk_below (g := gb311) (o := .cells #[.slice A0_0 l0_0.length c0_0, .slice A0_1 l0_1.length c0_1, .slice A0_2 l0_2.length c0_2, .int .i64 a0_3] 26 (0, 0)) (by (with_reducible repeat (first | refine blk_drewN ?_ _ | refine blk_drew ?_ | refine blk_alloc ?_ _)); exact BK311.out) hb)
        have n6_ := Aside0.mk (below_step (by repeat (first | (with_reducible first | exact HB.out | apply below_alloc | apply pw_below_drewN | apply below_drew1 | refine below_set ?_ GE311.out) | exact HB.out)) hb)
        clear HO316
        clear HO319
        clear HO328
        clear HO331
        clear BK311
        clear HB
        have HO316 := n0_
        have HO319 := n1_
        have HO328 := n2_
        have HO331 := n3_
        have HO334 := n4_
        have BK311 := n5_
        have HB := n6_
        clear n0_ n1_ n2_ n3_ n4_ n5_ n6_
        (try clear hb)
        (try clear hb2)
        (try clear hk)
        (try clear hi)
        (try clear ho0)
        refine hK.out _ _ ⟨(blk_cell BK311.out 0).trans rfl, (blk_cell BK311.out 1).trans rfl, (blk_cell BK311.out 2).trans rfl, (blk_cell BK311.out 3).trans rfl⟩ (fun hHeld => ?_)
        clear hK K
        refine norm_ (a' := ?_) ?_ ?_
        rotate_left
        · show Act.put _ (some 51) _ = _
          simp only [Act.put, List.setIfInBounds_toArray, List.set_cons_zero, List.set_cons_succ, i64_w, i32_w]
          rfl
        refine pure_ (i := 13) (N := some 8) (v := ?_) (a' := ?_) #[true, true, true, true, true, true, true, true, true, true, true, true, true, true] rfl rfl (any_of HT_.out (by kernel_rfl)) (fun _ _ _ h => h) (Or.inl ⟨by rfl, ?_⟩) ?_ ?_
        rotate_left
        · intro w'
          go_simp
          with_reducible rfl
        rotate_left
        · simp only [Act.put, List.setIfInBounds_toArray, List.set_cons_zero, List.set_cons_succ, i64_w, i32_w]
          rfl
        refine done_ (done_of HT_.out (by kernel_rfl)) ?_
        go_upto_region 7 with (fail)
        go_cut [63] (fun v63 wc => ∃ (kq : Nat) (x63_11 : Bool), v63 = .bool x63_11 ∧ Aside0 (lambrequinlaw22_InterpMore.j0 kq t312 t314 t317 t332 x63_11 = some r) ∧ Aside0 (kq ≤ k) ∧ Aside0 (Kd.S k33 33 wc w.heap.size (fun k_ => some k_ ≠ (v318 : Value).ownBlock ∧ some k_ ≠ (v333 : Value).ownBlock) v315 t314) ∧ Aside0 (Kd.S k33 33 wc w.heap.size (fun k_ => some k_ ≠ (v315 : Value).ownBlock ∧ some k_ ≠ (v333 : Value).ownBlock) v318 t317) ∧ Aside0 (Kd.S k33 33 wc w.heap.size (fun k_ => some k_ ≠ (v315 : Value).ownBlock ∧ some k_ ≠ (v318 : Value).ownBlock) v333 t332) ∧ Aside0 (wc.heap[gb311]? = some (.cells #[(.slice A0_0 l0_0.length c0_0), (.slice A0_1 l0_1.length c0_1), (.slice A0_2 l0_2.length c0_2), .int .i64 a0_3] 26 (0, 0))) ∧ Aside0 (Below w.heap.size w wc))
        case first =>
          have H := HC12.out
          clear HC12
          by_cases c32 : (t314.length : Int) > (t317.length : Int)
          · rw [if_pos c32] at H
            have c32b0 : decide ((t317.length : Int) < (t314.length : Int)) = true := decide_eq_true c32
            have c32b1 : decide (t317.length < t314.length) = true := decide_eq_true (Int.ofNat_lt.mp c32)
            clear c32
            (first | rw [c32b0] | (simp only [i64_w, i32_w]; rw [c32b0]) | skip)
            have H' := Aside0.mk H
            clear H
            obtain ⟨Ao33, co33, eo33⟩ := Kd.S_slice HO316.out
            subst eo33
            obtain ⟨Ao34, co34, eo34⟩ := Kd.S_slice HO319.out
            subst eo34
            go_wp2
            repeat (go_quiet (fail); try go_wp2)
            go_meet
            case rel => exact ⟨_, (true), (by first | rfl | (simp; done) | (simp [*]; done)), H', ⟨by first | omega | exact Nat.le_refl _⟩, ⟨by (with_reducible repeat (first | apply Kd.S_alloc | apply Kd.S_drewN | apply Kd.S_drew)); exact HO316.out⟩, ⟨by (with_reducible repeat (first | apply Kd.S_alloc | apply Kd.S_drewN | apply Kd.S_drew)); exact HO319.out⟩, ⟨by (with_reducible repeat (first | apply Kd.S_alloc | apply Kd.S_drewN | apply Kd.S_drew)); exact Kd.S_mono HO334.out (fun _ hk => ⟨hk.1.2, hk.2⟩)⟩, ⟨by (with_reducible repeat (first | refine blk_drewN ?_ _ | refine blk_drew ?_ | refine blk_alloc ?_ _)); exact BK311.out⟩, ⟨by repeat (first | (with_reducible first | exact HB.out | apply below_alloc | apply pw_below_drewN | apply below_drew1 | refine below_set ?_ GE311.out) | exact HB.out)⟩⟩
          · rw [if_neg c32] at H
            have c32b0 : decide ((t317.length : Int) < (t314.length : Int)) = false := decide_eq_false c32
            have c32b1 : decide (t317.length < t314.length) = false := decide_eq_false (fun h => c32 (Int.ofNat_lt.mpr h))
            clear c32
            (first | rw [c32b0] | (simp only [i64_w, i32_w]; rw [c32b0]) | skip)
            have H' := Aside0.mk H
            clear H
            obtain ⟨Ao35, co35, eo35⟩ := Kd.S_slice HO316.out
            subst eo35
            obtain ⟨Ao36, co36, eo36⟩ := Kd.S_slice HO319.out
            subst eo36
            obtain ⟨Ao37, co37, eo37⟩ := Kd.S_slice HO334.out
            subst eo37
            go_wp2
            repeat (go_quiet (fail); try go_wp2)
            go_meet
            case rel => exact ⟨_, (((t314.length : Int) != (t332.length : Int))), (by first | rfl | (simp; done) | (simp [*]; done)), H', ⟨by first | omega | exact Nat.le_refl _⟩, ⟨by (with_reducible repeat (first | apply Kd.S_alloc | apply Kd.S_drewN | apply Kd.S_drew)); exact HO316.out⟩, ⟨by (with_reducible repeat (first | apply Kd.S_alloc | apply Kd.S_drewN | apply Kd.S_drew)); exact HO319.out⟩, ⟨by (with_reducible repeat (first | apply Kd.S_alloc | apply Kd.S_drewN | apply Kd.S_drew)); exact Kd.S_mono HO334.out (fun _ hk => ⟨hk.1.2, hk.2⟩)⟩, ⟨by (with_reducible repeat (first | refine blk_drewN ?_ _ | refine blk_drew ?_ | refine blk_alloc ?_ _)); exact BK311.out⟩, ⟨by repeat (first | (with_reducible first | exact HB.out | apply below_alloc | apply pw_below_drewN | apply below_drew1 | refine below_set ?_ GE311.out) | exact HB.out)⟩⟩
        case rest =>
          clear HC12
          try clear c1
          try clear p2
          try clear c3
          try clear c5
          try clear p6
          try clear c9
          try clear c10
          try clear c15
          try clear c16
          try clear c17
          try clear c32
          try clear c32b0
          try clear c32b1
          try clear hcz15_0
          try clear hcz15_1
          try clear hcz15_2
          try clear hcz15_3
          try clear hcz17_0
          try clear hcz17_1
          try clear hcz17_2
          try clear hcz17_3
          try clear hcz19_0
          try clear hcz19_1
          try clear hcz19_2
          try clear hcz19_3
          try clear hfz15_0
          try clear hfz15_1
          try clear hfz15_2
          try clear hfz15_3
          try clear hfz17_0
          try clear hfz17_1
          try clear hfz17_2
          try clear hfz17_3
          try clear hfz19_0
          try clear hfz19_1
          try clear hfz19_2
          try clear hfz19_3
          obtain ⟨kq, x63_11, rfl, HA, HJ11, HO_6, HO_7, HO_8, BK311, HB⟩ := hcut
          cases kq with
          | zero => exact absurd HA.out (by simp [lambrequinlaw22_InterpMore.j0])
          | succ kj11 =>
            have H := HA.out
            clear HA
            simp only [lambrequinlaw22_InterpMore.j0] at H
            by_cases c38 : x63_11 = true
            · subst c38
              have H1 : (some false) = some r := by rw [if_pos rfl] at H; exact H
              clear H
              have H := H1
              clear H1
              obtain rfl := Option.some.inj H
              go_wp2
              repeat (go_quiet (fail); try go_wp2)
              go_ret
              exact ⟨by first | rfl | (simp [errW_none, errW_some] <;> rfl) | (simp only [← hji7]; first | rfl | (simp [errW_none, errW_some] <;> rfl)) | (simp [*, errW_none, errW_some] <;> rfl), by repeat (first | (with_reducible first | exact HB.out | apply below_alloc | apply pw_below_drewN | apply below_drew1 | refine below_set ?_ GE311.out) | exact HB.out)⟩
            · replace c38 := Bool.eq_false_iff.mpr c38
              subst c38
              have H1 : (lambrequinlaw22_InterpMore.l0 kj11 t312 t314 t317 t332 0) = some r := by rw [if_neg (show ¬ (false = true) by decide)] at H; exact H
              clear H
              have H := H1
              clear H1
              have H' := Aside0.mk H
              clear H
              go_wp2
              repeat (go_quiet (fail); try go_wp2)
              go_loopg [9] kj11 (fun kq v9 w' => ∃ (x9_2 : Int), v9 = .int .i64 x9_2 ∧ Aside0 (lambrequinlaw22_InterpMore.l0 kq t312 t314 t317 t332 x9_2 = some r) ∧ Aside0 (kq ≤ kj11) ∧ Aside0 (Kd.S k33 33 w' w.heap.size (fun k_ => some k_ ≠ (v318 : Value).ownBlock ∧ some k_ ≠ (v333 : Value).ownBlock) v315 t314) ∧ Aside0 (Kd.S k33 33 w' w.heap.size (fun k_ => some k_ ≠ (v315 : Value).ownBlock ∧ some k_ ≠ (v333 : Value).ownBlock) v318 t317) ∧ Aside0 (Kd.S k33 33 w' w.heap.size (fun k_ => some k_ ≠ (v315 : Value).ownBlock ∧ some k_ ≠ (v318 : Value).ownBlock) v333 t332) ∧ Aside0 (w'.heap[gb311]? = some (.cells #[(.slice A0_0 l0_0.length c0_0), (.slice A0_1 l0_1.length c0_1), (.slice A0_2 l0_2.length c0_2), .int .i64 a0_3] 26 (0, 0))) ∧ Aside0 (Below w.heap.size w w'))
              case atStart => exact ⟨(0), (by first | rfl | (simp; done) | (simp [*]; done)), H', ⟨Nat.le_refl _⟩, ⟨by (with_reducible repeat (first | apply Kd.S_alloc | apply Kd.S_drewN | apply Kd.S_drew)); exact HO_6.out⟩, ⟨by (with_reducible repeat (first | apply Kd.S_alloc | apply Kd.S_drewN | apply Kd.S_drew)); exact HO_7.out⟩, ⟨by (with_reducible repeat (first | apply Kd.S_alloc | apply Kd.S_drewN | apply Kd.S_drew)); exact HO_8.out⟩, ⟨by (with_reducible repeat (first | refine blk_drewN ?_ _ | refine blk_drew ?_ | refine blk_alloc ?_ _)); exact BK311.out⟩, ⟨by repeat (first | (with_reducible first | exact HB.out | apply below_alloc | apply pw_below_drewN | apply below_drew1 | refine below_set ?_ GE311.out) | exact HB.out)⟩⟩
              case round =>
                clear H'
                try clear c1
                try clear p2
                try clear c3
                try clear c5
                try clear p6
                try clear c9
                try clear c10
                try clear c15
                try clear c16
                try clear c17
                try clear c32
                try clear c32b0
                try clear c32b1
                try clear c38
                try clear hcz15_0
                try clear hcz15_1
                try clear hcz15_2
                try clear hcz15_3
                try clear hcz17_0
                try clear hcz17_1
                try clear hcz17_2
                try clear hcz17_3
                try clear hcz19_0
                try clear hcz19_1
                try clear hcz19_2
                try clear hcz19_3
                try clear hfz15_0
                try clear hfz15_1
                try clear hfz15_2
                try clear hfz15_3
                try clear hfz17_0
                try clear hfz17_1
                try clear hfz17_2
                try clear hfz17_3
                try clear hfz19_0
                try clear hfz19_1
                try clear hfz19_2
                try clear hfz19_3
                try clear p2
                try clear p6
                obtain ⟨x9_2, rfl, HA, HK2, HO_6, HO_7, HO_8, BK311, HB⟩ := hrel
                cases gk with
                | zero => exact absurd HA.out (by simp [lambrequinlaw22_InterpMore.l0])
                | succ k2 =>
                  have H := HA.out
                  clear HA
                  simp only [lambrequinlaw22_InterpMore.l0] at H
                  by_cases c39 : x9_2 < (t314.length : Int)
                  · rw [if_pos c39] at H
                    have c39b0 : decide (x9_2 < (t314.length : Int)) = true := decide_eq_true c39
                    clear c39
                    have HC40 := Aside0.mk H
                    clear H
                    obtain ⟨Ao41, co41, eo41⟩ := Kd.S_slice HO_6.out
                    subst eo41
                    go_upto_region 12 with (fail)
                    repeat (go_quiet (fail); go_upto_region 12 with (fail))
                    go_cut [123] (fun v123 wc => ∃ (kq : Nat) (x123_39 : Bool), v123 = .bool x123_39 ∧ Aside0 (lambrequinlaw22_InterpMore.j2 kq t312 t314 t317 t332 x9_2 x123_39 = some r) ∧ Aside0 (kq ≤ k2) ∧ Aside0 (Kd.S k33 33 wc w.heap.size (fun k_ => some k_ ≠ (v318 : Value).ownBlock ∧ some k_ ≠ (v333 : Value).ownBlock) (.slice Ao41 t314.length co41) t314) ∧ Aside0 (Kd.S k33 33 wc w.heap.size (fun k_ => some k_ ≠ ((.slice Ao41 t314.length co41) : Value).ownBlock ∧ some k_ ≠ (v333 : Value).ownBlock) v318 t317) ∧ Aside0 (Kd.S k33 33 wc w.heap.size (fun k_ => some k_ ≠ ((.slice Ao41 t314.length co41) : Value).ownBlock ∧ some k_ ≠ (v318 : Value).ownBlock) v333 t332) ∧ Aside0 (wc.heap[gb311]? = some (.cells #[(.slice A0_0 l0_0.length c0_0), (.slice A0_1 l0_1.length c0_1), (.slice A0_2 l0_2.length c0_2), .int .i64 a0_3] 26 (0, 0))) ∧ Aside0 (Below w.heap.size w wc))
                    case first =>
                      have H := HC40.out
                      clear HC40
                      by_cases c42 : 0 ≤ x9_2
                      · rw [if_pos c42] at H
                        have c42b0 : decide (0 ≤ x9_2) = true := decide_eq_true c42
                        clear c42
                        (first | rw [c42b0] | (simp only [i64_w, i32_w]; rw [c42b0]) | skip)
                        by_cases c43 : x9_2 < (t317.length : Int)
                        · rw [if_pos c43] at H
                          have c43b0 : decide (x9_2 < (t317.length : Int)) = true := decide_eq_true c43
                          clear c43
                          by_cases c44 : ((rd_T33 t314 x9_2).f0) = ((rd_T33 t317 x9_2).f0)
                          · rw [if_pos c44] at H
                            have c44b0 : (((rd_T33 t314 x9_2).f0) == ((rd_T33 t317 x9_2).f0)) = true := beq_iff_eq.mpr c44
                            have c44b1 : (((rd_T33 t314 x9_2).f0) != ((rd_T33 t317 x9_2).f0)) = false := bne_eq_false_iff_eq.mpr c44
                            clear c44
                            by_cases c45 : x9_2 < (t332.length : Int)
                            · rw [if_pos c45] at H
                              have c45b0 : decide (x9_2 < (t332.length : Int)) = true := decide_eq_true c45
                              clear c45
                              by_cases c46 : ((rd_T33 t314 x9_2).f0) = ((rd_T33 t332 x9_2).f0)
                              · rw [if_pos c46] at H
                                have c46b0 : (((rd_T33 t314 x9_2).f0) == ((rd_T33 t332 x9_2).f0)) = true := beq_iff_eq.mpr c46
                                have c46b1 : (((rd_T33 t314 x9_2).f0) != ((rd_T33 t332 x9_2).f0)) = false := bne_eq_false_iff_eq.mpr c46
                                clear c46
                                by_cases c47 : (((rd_T33 t314 x9_2).f1).length : Int) = (((rd_T33 t317 x9_2).f1).length : Int)
                                · rw [if_pos c47] at H
                                  have c47b0 : ((((rd_T33 t314 x9_2).f1).length : Int) == (((rd_T33 t317 x9_2).f1).length : Int)) = true := beq_iff_eq.mpr c47
                                  have c47b1 : ((((rd_T33 t314 x9_2).f1).length : Int) != (((rd_T33 t317 x9_2).f1).length : Int)) = false := bne_eq_false_iff_eq.mpr c47
                                  have c47b2 : (((rd_T33 t314 x9_2).f1).length == ((rd_T33 t317 x9_2).f1).length) = true := by first | simpa using c47 | (simp at c47 ⊢; omega)
                                  clear c47
                                  have H' := Aside0.mk H
                                  clear H
                                  have p335 : 0 ≤ (x9_2 : Int) := of_decide_eq_true (by first | (with_reducible assumption) | assumption)
                                  have q335 : x9_2 < (t314.length : Int) := of_decide_eq_true (by first | (with_reducible assumption) | assumption)
                                  obtain ⟨ad335, A335_1, c335_1, e335, hx335_0, hx335_1, hl335_1, hi335_1⟩ := at_T33 (Kd.S_reads' HO_6.out).2.2 x9_2 p335 q335
                                  cases e335
                                  obtain ⟨ce335, hce335, hMe335, hcc335⟩ := Kd.S_get HO_6.out z33 x9_2 p335 (by first | exact q335 | exact of_decide_eq_true (by first | (with_reducible assumption) | assumption) | (have e_ := (Kd.S_reads' HO_6.out).1; omega))
                                  obtain ⟨ve335_1, rfl, ge335_1⟩ := k33_openM hMe335
                                  have hv335_1 := hcc335 1 _ rfl
                                  rw [add_field _ _ 1 (by omega)] at hv335_1
                                  replace hv335_1 := Option.some.inj (hv335_1.symm.trans hx335_1)
                                  rw [hv335_1] at ge335_1
                                  have HL335_1 := Aside0.mk (show Kd.R k35 35 _ _ _ _ ((rd_T33 t314 x9_2).f1) from ge335_1)
                                  clear hv335_1 ge335_1
                                  clear hcc335 hce335
                                  have HR335_1 := Aside0.mk hi335_1
                                  have HC335_1 := Aside0.mk hl335_1
                                  clear hi335_1 hl335_1
                                  replace p335 := eq_true p335
                                  replace q335 := eq_true q335
                                  obtain ⟨Ao48, co48, eo48⟩ := Kd.S_slice HO_7.out
                                  subst eo48
                                  have p336 : 0 ≤ (x9_2 : Int) := of_decide_eq_true (by first | (with_reducible assumption) | assumption)
                                  have q336 : x9_2 < (t317.length : Int) := of_decide_eq_true (by first | (with_reducible assumption) | assumption)
                                  obtain ⟨ad336, A336_1, c336_1, e336, hx336_0, hx336_1, hl336_1, hi336_1⟩ := at_T33 (Kd.S_reads' HO_7.out).2.2 x9_2 p336 q336
                                  cases e336
                                  obtain ⟨ce336, hce336, hMe336, hcc336⟩ := Kd.S_get HO_7.out z33 x9_2 p336 (by first | exact q336 | exact of_decide_eq_true (by first | (with_reducible assumption) | assumption) | (have e_ := (Kd.S_reads' HO_7.out).1; omega))
                                  obtain ⟨ve336_1, rfl, ge336_1⟩ := k33_openM hMe336
                                  have hv336_1 := hcc336 1 _ rfl
                                  rw [add_field _ _ 1 (by omega)] at hv336_1
                                  replace hv336_1 := Option.some.inj (hv336_1.symm.trans hx336_1)
                                  rw [hv336_1] at ge336_1
                                  have HL336_1 := Aside0.mk (show Kd.R k35 35 _ _ _ _ ((rd_T33 t317 x9_2).f1) from ge336_1)
                                  clear hv336_1 ge336_1
                                  clear hcc336 hce336
                                  have HR336_1 := Aside0.mk hi336_1
                                  have HC336_1 := Aside0.mk hl336_1
                                  clear hi336_1 hl336_1
                                  replace p336 := eq_true p336
                                  replace q336 := eq_true q336
                                  have p337 : 0 ≤ (x9_2 : Int) := of_decide_eq_true (by first | (with_reducible assumption) | assumption)
                                  have q337 : x9_2 < (t314.length : Int) := of_decide_eq_true (by first | (with_reducible assumption) | assumption)
                                  obtain ⟨ad337, A337_1, c337_1, e337, hx337_0, hx337_1, hl337_1, hi337_1⟩ := at_T33 (Kd.S_reads' HO_6.out).2.2 x9_2 p337 q337
                                  obtain rfl : ad335 = ad337 := (by injection e337)
                                  obtain ⟨ce337, hce337, hMe337, hcc337⟩ := Kd.S_get HO_6.out z33 x9_2 p337 (by first | exact q337 | exact of_decide_eq_true (by first | (with_reducible assumption) | assumption) | (have e_ := (Kd.S_reads' HO_6.out).1; omega))
                                  obtain ⟨ve337_1, rfl, ge337_1⟩ := k33_openM hMe337
                                  have hv337_1 := hcc337 1 _ rfl
                                  rw [add_field _ _ 1 (by omega)] at hv337_1
                                  replace hv337_1 := Option.some.inj (hv337_1.symm.trans hx337_1)
                                  rw [hv337_1] at ge337_1
                                  have HL337_1 := Aside0.mk (show Kd.R k35 35 _ _ _ _ ((rd_T33 t314 x9_2).f1) from ge337_1)
                                  clear hv337_1 ge337_1
                                  clear hcc337 hce337
                                  have HR337_1 := Aside0.mk hi337_1
                                  have HC337_1 := Aside0.mk hl337_1
                                  clear hi337_1 hl337_1
                                  replace p337 := eq_true p337
                                  replace q337 := eq_true q337
                                  have ea_ := Option.some.inj (hx335_1.symm.trans hx337_1)
                                  injection ea_ with ea_ en_ ec_
                                  subst ea_
                                  subst ec_
                                  clear en_
                                  obtain ⟨Ao49, co49, eo49⟩ := Kd.S_slice HO_8.out
                                  subst eo49
                                  have p338 : 0 ≤ (x9_2 : Int) := of_decide_eq_true (by first | (with_reducible assumption) | assumption)
                                  have q338 : x9_2 < (t332.length : Int) := of_decide_eq_true (by first | (with_reducible assumption) | assumption)
                                  obtain ⟨ad338, A338_1, c338_1, e338, hx338_0, hx338_1, hl338_1, hi338_1⟩ := at_T33 (Kd.S_reads' HO_8.out).2.2 x9_2 p338 q338
                                  cases e338
                                  obtain ⟨ce338, hce338, hMe338, hcc338⟩ := Kd.S_get HO_8.out z33 x9_2 p338 (by first | exact q338 | exact of_decide_eq_true (by first | (with_reducible assumption) | assumption) | (have e_ := (Kd.S_reads' HO_8.out).1; omega))
                                  obtain ⟨ve338_1, rfl, ge338_1⟩ := k33_openM hMe338
                                  have hv338_1 := hcc338 1 _ rfl
                                  rw [add_field _ _ 1 (by omega)] at hv338_1
                                  replace hv338_1 := Option.some.inj (hv338_1.symm.trans hx338_1)
                                  rw [hv338_1] at ge338_1
                                  have HL338_1 := Aside0.mk (show Kd.R k35 35 _ _ _ _ ((rd_T33 t332 x9_2).f1) from ge338_1)
                                  clear hv338_1 ge338_1
                                  clear hcc338 hce338
                                  have HR338_1 := Aside0.mk hi338_1
                                  have HC338_1 := Aside0.mk hl338_1
                                  clear hi338_1 hl338_1
                                  replace p338 := eq_true p338
                                  replace q338 := eq_true q338
                                  have p339 : 0 ≤ (x9_2 : Int) := of_decide_eq_true (by first | (with_reducible assumption) | assumption)
                                  have q339 : x9_2 < (t314.length : Int) := of_decide_eq_true (by first | (with_reducible assumption) | assumption)
                                  obtain ⟨ad339, A339_1, c339_1, e339, hx339_0, hx339_1, hl339_1, hi339_1⟩ := at_T33 (Kd.S_reads' HO_6.out).2.2 x9_2 p339 q339
                                  obtain rfl : ad335 = ad339 := (by injection e339)
                                  obtain ⟨ce339, hce339, hMe339, hcc339⟩ := Kd.S_get HO_6.out z33 x9_2 p339 (by first | exact q339 | exact of_decide_eq_true (by first | (with_reducible assumption) | assumption) | (have e_ := (Kd.S_reads' HO_6.out).1; omega))
                                  obtain ⟨ve339_1, rfl, ge339_1⟩ := k33_openM hMe339
                                  have hv339_1 := hcc339 1 _ rfl
                                  rw [add_field _ _ 1 (by omega)] at hv339_1
                                  replace hv339_1 := Option.some.inj (hv339_1.symm.trans hx339_1)
                                  rw [hv339_1] at ge339_1
                                  have HL339_1 := Aside0.mk (show Kd.R k35 35 _ _ _ _ ((rd_T33 t314 x9_2).f1) from ge339_1)
                                  clear hv339_1 ge339_1
                                  clear hcc339 hce339
                                  have HR339_1 := Aside0.mk hi339_1
                                  have HC339_1 := Aside0.mk hl339_1
                                  clear hi339_1 hl339_1
                                  replace p339 := eq_true p339
                                  replace q339 := eq_true q339
                                  have ea_ := Option.some.inj (hx335_1.symm.trans hx339_1)
                                  injection ea_ with ea_ en_ ec_
                                  subst ea_
                                  subst ec_
                                  clear en_
                                  have p340 : 0 ≤ (x9_2 : Int) := of_decide_eq_true (by first | (with_reducible assumption) | assumption)
                                  have q340 : x9_2 < (t317.length : Int) := of_decide_eq_true (by first | (with_reducible assumption) | assumption)
                                  obtain ⟨ad340, A340_1, c340_1, e340, hx340_0, hx340_1, hl340_1, hi340_1⟩ := at_T33 (Kd.S_reads' HO_7.out).2.2 x9_2 p340 q340
                                  obtain rfl : ad336 = ad340 := (by injection e340)
                                  obtain ⟨ce340, hce340, hMe340, hcc340⟩ := Kd.S_get HO_7.out z33 x9_2 p340 (by first | exact q340 | exact of_decide_eq_true (by first | (with_reducible assumption) | assumption) | (have e_ := (Kd.S_reads' HO_7.out).1; omega))
                                  obtain ⟨ve340_1, rfl, ge340_1⟩ := k33_openM hMe340
                                  have hv340_1 := hcc340 1 _ rfl
                                  rw [add_field _ _ 1 (by omega)] at hv340_1
                                  replace hv340_1 := Option.some.inj (hv340_1.symm.trans hx340_1)
                                  rw [hv340_1] at ge340_1
                                  have HL340_1 := Aside0.mk (show Kd.R k35 35 _ _ _ _ ((rd_T33 t317 x9_2).f1) from ge340_1)
                                  clear hv340_1 ge340_1
                                  clear hcc340 hce340
                                  have HR340_1 := Aside0.mk hi340_1
                                  have HC340_1 := Aside0.mk hl340_1
                                  clear hi340_1 hl340_1
                                  replace p340 := eq_true p340
                                  replace q340 := eq_true q340
                                  have ea_ := Option.some.inj (hx336_1.symm.trans hx340_1)
                                  injection ea_ with ea_ en_ ec_
                                  subst ea_
                                  subst ec_
                                  clear en_
                                  have p341 : 0 ≤ (x9_2 : Int) := of_decide_eq_true (by first | (with_reducible assumption) | assumption)
                                  have q341 : x9_2 < (t314.length : Int) := of_decide_eq_true (by first | (with_reducible assumption) | assumption)
                                  obtain ⟨ad341, A341_1, c341_1, e341, hx341_0, hx341_1, hl341_1, hi341_1⟩ := at_T33 (Kd.S_reads' HO_6.out).2.2 x9_2 p341 q341
                                  obtain rfl : ad335 = ad341 := (by injection e341)
                                  obtain ⟨ce341, hce341, hMe341, hcc341⟩ := Kd.S_get HO_6.out z33 x9_2 p341 (by first | exact q341 | exact of_decide_eq_true (by first | (with_reducible assumption) | assumption) | (have e_ := (Kd.S_reads' HO_6.out).1; omega))
                                  obtain ⟨ve341_1, rfl, ge341_1⟩ := k33_openM hMe341
                                  have hv341_1 := hcc341 1 _ rfl
                                  rw [add_field _ _ 1 (by omega)] at hv341_1
                                  replace hv341_1 := Option.some.inj (hv341_1.symm.trans hx341_1)
                                  rw [hv341_1] at ge341_1
                                  have HL341_1 := Aside0.mk (show Kd.R k35 35 _ _ _ _ ((rd_T33 t314 x9_2).f1) from ge341_1)
                                  clear hv341_1 ge341_1
                                  clear hcc341 hce341
                                  have HR341_1 := Aside0.mk hi341_1
                                  have HC341_1 := Aside0.mk hl341_1
                                  clear hi341_1 hl341_1
                                  replace p341 := eq_true p341
                                  replace q341 := eq_true q341
                                  have ea_ := Option.some.inj (hx335_1.symm.trans hx341_1)
                                  injection ea_ with ea_ en_ ec_
                                  subst ea_
                                  subst ec_
                                  clear en_
                                  have p342 : 0 ≤ (x9_2 : Int) := of_decide_eq_true (by first | (with_reducible assumption) | assumption)
                                  have q342 : x9_2 < (t332.length : Int) := of_decide_eq_true (by first | (with_reducible assumption) | assumption)
                                  obtain ⟨ad342, A342_1, c342_1, e342, hx342_0, hx342_1, hl342_1, hi342_1⟩ := at_T33 (Kd.S_reads' HO_8.out).2.2 x9_2 p342 q342
                                  obtain rfl : ad338 = ad342 := (by injection e342)
                                  obtain ⟨ce342, hce342, hMe342, hcc342⟩ := Kd.S_get HO_8.out z33 x9_2 p342 (by first | exact q342 | exact of_decide_eq_true (by first | (with_reducible assumption) | assumption) | (have e_ := (Kd.S_reads' HO_8.out).1; omega))
                                  obtain ⟨ve342_1, rfl, ge342_1⟩ := k33_openM hMe342
                                  have hv342_1 := hcc342 1 _ rfl
                                  rw [add_field _ _ 1 (by omega)] at hv342_1
                                  replace hv342_1 := Option.some.inj (hv342_1.symm.trans hx342_1)
                                  rw [hv342_1] at ge342_1
                                  have HL342_1 := Aside0.mk (show Kd.R k35 35 _ _ _ _ ((rd_T33 t332 x9_2).f1) from ge342_1)
                                  clear hv342_1 ge342_1
                                  clear hcc342 hce342
                                  have HR342_1 := Aside0.mk hi342_1
                                  have HC342_1 := Aside0.mk hl342_1
                                  clear hi342_1 hl342_1
                                  replace p342 := eq_true p342
                                  replace q342 := eq_true q342
                                  have ea_ := Option.some.inj (hx338_1.symm.trans hx342_1)
                                  injection ea_ with ea_ en_ ec_
                                  subst ea_
                                  subst ec_
                                  clear en_
                                  go_wp2
                                  repeat (go_quiet (fail); try go_wp2)
                                  go_meet
                                  case rel => exact ⟨_, (((((rd_T33 t314 x9_2).f1).length : Int) != (((rd_T33 t332 x9_2).f1).length : Int))), (by first | rfl | (simp; done) | (simp [*]; done)), H', ⟨by have := HJ11.out; have := HK2.out; first | omega | exact Nat.le_refl _⟩, ⟨by (with_reducible repeat (first | apply Kd.S_alloc | apply Kd.S_drewN | apply Kd.S_drew)); exact HO_6.out⟩, ⟨by (with_reducible repeat (first | apply Kd.S_alloc | apply Kd.S_drewN | apply Kd.S_drew)); exact HO_7.out⟩, ⟨by (with_reducible repeat (first | apply Kd.S_alloc | apply Kd.S_drewN | apply Kd.S_drew)); exact HO_8.out⟩, ⟨by (with_reducible repeat (first | refine blk_drewN ?_ _ | refine blk_drew ?_ | refine blk_alloc ?_ _)); exact BK311.out⟩, ⟨by repeat (first | (with_reducible first | exact HB.out | apply below_alloc | apply pw_below_drewN | apply below_drew1 | refine below_set ?_ GE311.out) | exact HB.out)⟩⟩
                                · rw [if_neg c47] at H
                                  have c47b0 : ((((rd_T33 t314 x9_2).f1).length : Int) == (((rd_T33 t317 x9_2).f1).length : Int)) = false := beq_eq_false_iff_ne.mpr c47
                                  have c47b1 : ((((rd_T33 t314 x9_2).f1).length : Int) != (((rd_T33 t317 x9_2).f1).length : Int)) = true := bne_iff_ne.mpr c47
                                  have c47b2 : (((rd_T33 t314 x9_2).f1).length == ((rd_T33 t317 x9_2).f1).length) = false := by first | simpa using c47 | (simp at c47 ⊢; omega)
                                  have H' := Aside0.mk H
                                  clear H
                                  have p335 : 0 ≤ (x9_2 : Int) := of_decide_eq_true (by first | (with_reducible assumption) | assumption)
                                  have q335 : x9_2 < (t314.length : Int) := of_decide_eq_true (by first | (with_reducible assumption) | assumption)
                                  obtain ⟨ad335, A335_1, c335_1, e335, hx335_0, hx335_1, hl335_1, hi335_1⟩ := at_T33 (Kd.S_reads' HO_6.out).2.2 x9_2 p335 q335
                                  cases e335
                                  obtain ⟨ce335, hce335, hMe335, hcc335⟩ := Kd.S_get HO_6.out z33 x9_2 p335 (by first | exact q335 | exact of_decide_eq_true (by first | (with_reducible assumption) | assumption) | (have e_ := (Kd.S_reads' HO_6.out).1; omega))
                                  obtain ⟨ve335_1, rfl, ge335_1⟩ := k33_openM hMe335
                                  have hv335_1 := hcc335 1 _ rfl
                                  rw [add_field _ _ 1 (by omega)] at hv335_1
                                  replace hv335_1 := Option.some.inj (hv335_1.symm.trans hx335_1)
                                  rw [hv335_1] at ge335_1
                                  have HL335_1 := Aside0.mk (show Kd.R k35 35 _ _ _ _ ((rd_T33 t314 x9_2).f1) from ge335_1)
                                  clear hv335_1 ge335_1
                                  clear hcc335 hce335
                                  have HR335_1 := Aside0.mk hi335_1
                                  have HC335_1 := Aside0.mk hl335_1
                                  clear hi335_1 hl335_1
                                  replace p335 := eq_true p335
                                  replace q335 := eq_true q335
                                  obtain ⟨Ao50, co50, eo50⟩ := Kd.S_slice HO_7.out
                                  subst eo50
                                  have p336 : 0 ≤ (x9_2 : Int) := of_decide_eq_true (by first | (with_reducible assumption) | assumption)
                                  have q336 : x9_2 < (t317.length : Int) := of_decide_eq_true (by first | (with_reducible assumption) | assumption)
                                  obtain ⟨ad336, A336_1, c336_1, e336, hx336_0, hx336_1, hl336_1, hi336_1⟩ := at_T33 (Kd.S_reads' HO_7.out).2.2 x9_2 p336 q336
                                  cases e336
                                  obtain ⟨ce336, hce336, hMe336, hcc336⟩ := Kd.S_get HO_7.out z33 x9_2 p336 (by first | exact q336 | exact of_decide_eq_true (by first | (with_reducible assumption) | assumption) | (have e_ := (Kd.S_reads' HO_7.out).1; omega))
                                  obtain ⟨ve336_1, rfl, ge336_1⟩ := k33_openM hMe336
                                  have hv336_1 := hcc336 1 _ rfl
                                  rw [add_field _ _ 1 (by omega)] at hv336_1
                                  replace hv336_1 := Option.some.inj (hv336_1.symm.trans hx336_1)
                                  rw [hv336_1] at ge336_1
                                  have HL336_1 := Aside0.mk (show Kd.R k35 35 _ _ _ _ ((rd_T33 t317 x9_2).f1) from ge336_1)
                                  clear hv336_1 ge336_1
                                  clear hcc336 hce336
                                  have HR336_1 := Aside0.mk hi336_1
                                  have HC336_1 := Aside0.mk hl336_1
                                  clear hi336_1 hl336_1
                                  replace p336 := eq_true p336
                                  replace q336 := eq_true q336
                                  have p337 : 0 ≤ (x9_2 : Int) := of_decide_eq_true (by first | (with_reducible assumption) | assumption)
                                  have q337 : x9_2 < (t314.length : Int) := of_decide_eq_true (by first | (with_reducible assumption) | assumption)
                                  obtain ⟨ad337, A337_1, c337_1, e337, hx337_0, hx337_1, hl337_1, hi337_1⟩ := at_T33 (Kd.S_reads' HO_6.out).2.2 x9_2 p337 q337
                                  obtain rfl : ad335 = ad337 := (by injection e337)
                                  obtain ⟨ce337, hce337, hMe337, hcc337⟩ := Kd.S_get HO_6.out z33 x9_2 p337 (by first | exact q337 | exact of_decide_eq_true (by first | (with_reducible assumption) | assumption) | (have e_ := (Kd.S_reads' HO_6.out).1; omega))
                                  obtain ⟨ve337_1, rfl, ge337_1⟩ := k33_openM hMe337
                                  have hv337_1 := hcc337 1 _ rfl
                                  rw [add_field _ _ 1 (by omega)] at hv337_1
                                  replace hv337_1 := Option.some.inj (hv337_1.symm.trans hx337_1)
                                  rw [hv337_1] at ge337_1
                                  have HL337_1 := Aside0.mk (show Kd.R k35 35 _ _ _ _ ((rd_T33 t314 x9_2).f1) from ge337_1)
                                  clear hv337_1 ge337_1
                                  clear hcc337 hce337
                                  have HR337_1 := Aside0.mk hi337_1
                                  have HC337_1 := Aside0.mk hl337_1
                                  clear hi337_1 hl337_1
                                  replace p337 := eq_true p337
                                  replace q337 := eq_true q337
                                  have ea_ := Option.some.inj (hx335_1.symm.trans hx337_1)
                                  injection ea_ with ea_ en_ ec_
                                  subst ea_
                                  subst ec_
                                  clear en_
                                  obtain ⟨Ao51, co51, eo51⟩ := Kd.S_slice HO_8.out
                                  subst eo51
                                  have p338 : 0 ≤ (x9_2 : Int) := of_decide_eq_true (by first | (with_reducible assumption) | assumption)
                                  have q338 : x9_2 < (t332.length : Int) := of_decide_eq_true (by first | (with_reducible assumption) | assumption)
                                  obtain ⟨ad338, A338_1, c338_1, e338, hx338_0, hx338_1, hl338_1, hi338_1⟩ := at_T33 (Kd.S_reads' HO_8.out).2.2 x9_2 p338 q338
                                  cases e338
                                  obtain ⟨ce338, hce338, hMe338, hcc338⟩ := Kd.S_get HO_8.out z33 x9_2 p338 (by first | exact q338 | exact of_decide_eq_true (by first | (with_reducible assumption) | assumption) | (have e_ := (Kd.S_reads' HO_8.out).1; omega))
                                  obtain ⟨ve338_1, rfl, ge338_1⟩ := k33_openM hMe338
                                  have hv338_1 := hcc338 1 _ rfl
                                  rw [add_field _ _ 1 (by omega)] at hv338_1
                                  replace hv338_1 := Option.some.inj (hv338_1.symm.trans hx338_1)
                                  rw [hv338_1] at ge338_1
                                  have HL338_1 := Aside0.mk (show Kd.R k35 35 _ _ _ _ ((rd_T33 t332 x9_2).f1) from ge338_1)
                                  clear hv338_1 ge338_1
                                  clear hcc338 hce338
                                  have HR338_1 := Aside0.mk hi338_1
                                  have HC338_1 := Aside0.mk hl338_1
                                  clear hi338_1 hl338_1
                                  replace p338 := eq_true p338
                                  replace q338 := eq_true q338
                                  have p339 : 0 ≤ (x9_2 : Int) := of_decide_eq_true (by first | (with_reducible assumption) | assumption)
                                  have q339 : x9_2 < (t314.length : Int) := of_decide_eq_true (by first | (with_reducible assumption) | assumption)
                                  obtain ⟨ad339, A339_1, c339_1, e339, hx339_0, hx339_1, hl339_1, hi339_1⟩ := at_T33 (Kd.S_reads' HO_6.out).2.2 x9_2 p339 q339
                                  obtain rfl : ad335 = ad339 := (by injection e339)
                                  obtain ⟨ce339, hce339, hMe339, hcc339⟩ := Kd.S_get HO_6.out z33 x9_2 p339 (by first | exact q339 | exact of_decide_eq_true (by first | (with_reducible assumption) | assumption) | (have e_ := (Kd.S_reads' HO_6.out).1; omega))
                                  obtain ⟨ve339_1, rfl, ge339_1⟩ := k33_openM hMe339
                                  have hv339_1 := hcc339 1 _ rfl
                                  rw [add_field _ _ 1 (by omega)] at hv339_1
                                  replace hv339_1 := Option.some.inj (hv339_1.symm.trans hx339_1)
                                  rw [hv339_1] at ge339_1
                                  have HL339_1 := Aside0.mk (show Kd.R k35 35 _ _ _ _ ((rd_T33 t314 x9_2).f1) from ge339_1)
                                  clear hv339_1 ge339_1
                                  clear hcc339 hce339
                                  have HR339_1 := Aside0.mk hi339_1
                                  have HC339_1 := Aside0.mk hl339_1
                                  clear hi339_1 hl339_1
                                  replace p339 := eq_true p339
                                  replace q339 := eq_true q339
                                  have ea_ := Option.some.inj (hx335_1.symm.trans hx339_1)
                                  injection ea_ with ea_ en_ ec_
                                  subst ea_
                                  subst ec_
                                  clear en_
                                  have p340 : 0 ≤ (x9_2 : Int) := of_decide_eq_true (by first | (with_reducible assumption) | assumption)
                                  have q340 : x9_2 < (t317.length : Int) := of_decide_eq_true (by first | (with_reducible assumption) | assumption)
                                  obtain ⟨ad340, A340_1, c340_1, e340, hx340_0, hx340_1, hl340_1, hi340_1⟩ := at_T33 (Kd.S_reads' HO_7.out).2.2 x9_2 p340 q340
                                  obtain rfl : ad336 = ad340 := (by injection e340)
                                  obtain ⟨ce340, hce340, hMe340, hcc340⟩ := Kd.S_get HO_7.out z33 x9_2 p340 (by first | exact q340 | exact of_decide_eq_true (by first | (with_reducible assumption) | assumption) | (have e_ := (Kd.S_reads' HO_7.out).1; omega))
                                  obtain ⟨ve340_1, rfl, ge340_1⟩ := k33_openM hMe340
                                  have hv340_1 := hcc340 1 _ rfl
                                  rw [add_field _ _ 1 (by omega)] at hv340_1
                                  replace hv340_1 := Option.some.inj (hv340_1.symm.trans hx340_1)
                                  rw [hv340_1] at ge340_1
                                  have HL340_1 := Aside0.mk (show Kd.R k35 35 _ _ _ _ ((rd_T33 t317 x9_2).f1) from ge340_1)
                                  clear hv340_1 ge340_1
                                  clear hcc340 hce340
                                  have HR340_1 := Aside0.mk hi340_1
                                  have HC340_1 := Aside0.mk hl340_1
                                  clear hi340_1 hl340_1
                                  replace p340 := eq_true p340
                                  replace q340 := eq_true q340
                                  have ea_ := Option.some.inj (hx336_1.symm.trans hx340_1)
                                  injection ea_ with ea_ en_ ec_
                                  subst ea_
                                  subst ec_
                                  clear en_
                                  go_wp2
                                  repeat (go_quiet (fail); try go_wp2)
                                  go_meet
                                  case rel => exact ⟨_, (true), (by first | rfl | (simp; done) | (simp [*]; done)), H', ⟨by have := HJ11.out; have := HK2.out; first | omega | exact Nat.le_refl _⟩, ⟨by (with_reducible repeat (first | apply Kd.S_alloc | apply Kd.S_drewN | apply Kd.S_drew)); exact HO_6.out⟩, ⟨by (with_reducible repeat (first | apply Kd.S_alloc | apply Kd.S_drewN | apply Kd.S_drew)); exact HO_7.out⟩, ⟨by (with_reducible repeat (first | apply Kd.S_alloc | apply Kd.S_drewN | apply Kd.S_drew)); exact HO_8.out⟩, ⟨by (with_reducible repeat (first | refine blk_drewN ?_ _ | refine blk_drew ?_ | refine blk_alloc ?_ _)); exact BK311.out⟩, ⟨by repeat (first | (with_reducible first | exact HB.out | apply below_alloc | apply pw_below_drewN | apply below_drew1 | refine below_set ?_ GE311.out) | exact HB.out)⟩⟩
                              · rw [if_neg c46] at H
                                have c46b0 : (((rd_T33 t314 x9_2).f0) == ((rd_T33 t332 x9_2).f0)) = false := beq_eq_false_iff_ne.mpr c46
                                have c46b1 : (((rd_T33 t314 x9_2).f0) != ((rd_T33 t332 x9_2).f0)) = true := bne_iff_ne.mpr c46
                                have H' := Aside0.mk H
                                clear H
                                have p335 : 0 ≤ (x9_2 : Int) := of_decide_eq_true (by first | (with_reducible assumption) | assumption)
                                have q335 : x9_2 < (t314.length : Int) := of_decide_eq_true (by first | (with_reducible assumption) | assumption)
                                obtain ⟨ad335, A335_1, c335_1, e335, hx335_0, hx335_1, hl335_1, hi335_1⟩ := at_T33 (Kd.S_reads' HO_6.out).2.2 x9_2 p335 q335
                                cases e335
                                obtain ⟨ce335, hce335, hMe335, hcc335⟩ := Kd.S_get HO_6.out z33 x9_2 p335 (by first | exact q335 | exact of_decide_eq_true (by first | (with_reducible assumption) | assumption) | (have e_ := (Kd.S_reads' HO_6.out).1; omega))
                                obtain ⟨ve335_1, rfl, ge335_1⟩ := k33_openM hMe335
                                have hv335_1 := hcc335 1 _ rfl
                                rw [add_field _ _ 1 (by omega)] at hv335_1
                                replace hv335_1 := Option.some.inj (hv335_1.symm.trans hx335_1)
                                rw [hv335_1] at ge335_1
                                have HL335_1 := Aside0.mk (show Kd.R k35 35 _ _ _ _ ((rd_T33 t314 x9_2).f1) from ge335_1)
                                clear hv335_1 ge335_1
                                clear hcc335 hce335
                                have HR335_1 := Aside0.mk hi335_1
                                have HC335_1 := Aside0.mk hl335_1
                                clear hi335_1 hl335_1
                                replace p335 := eq_true p335
                                replace q335 := eq_true q335
                                obtain ⟨Ao52, co52, eo52⟩ := Kd.S_slice HO_7.out
                                subst eo52
                                have p336 : 0 ≤ (x9_2 : Int) := of_decide_eq_true (by first | (with_reducible assumption) | assumption)
                                have q336 : x9_2 < (t317.length : Int) := of_decide_eq_true (by first | (with_reducible assumption) | assumption)
                                obtain ⟨ad336, A336_1, c336_1, e336, hx336_0, hx336_1, hl336_1, hi336_1⟩ := at_T33 (Kd.S_reads' HO_7.out).2.2 x9_2 p336 q336
                                cases e336
                                obtain ⟨ce336, hce336, hMe336, hcc336⟩ := Kd.S_get HO_7.out z33 x9_2 p336 (by first | exact q336 | exact of_decide_eq_true (by first | (with_reducible assumption) | assumption) | (have e_ := (Kd.S_reads' HO_7.out).1; omega))
                                obtain ⟨ve336_1, rfl, ge336_1⟩ := k33_openM hMe336
                                have hv336_1 := hcc336 1 _ rfl
                                rw [add_field _ _ 1 (by omega)] at hv336_1
                                replace hv336_1 := Option.some.inj (hv336_1.symm.trans hx336_1)
                                rw [hv336_1] at ge336_1
                                have HL336_1 := Aside0.mk (show Kd.R k35 35 _ _ _ _ ((rd_T33 t317 x9_2).f1) from ge336_1)
                                clear hv336_1 ge336_1
                                clear hcc336 hce336
                                have HR336_1 := Aside0.mk hi336_1
                                have HC336_1 := Aside0.mk hl336_1
                                clear hi336_1 hl336_1
                                replace p336 := eq_true p336
                                replace q336 := eq_true q336
                                have p337 : 0 ≤ (x9_2 : Int) := of_decide_eq_true (by first | (with_reducible assumption) | assumption)
                                have q337 : x9_2 < (t314.length : Int) := of_decide_eq_true (by first | (with_reducible assumption) | assumption)
                                obtain ⟨ad337, A337_1, c337_1, e337, hx337_0, hx337_1, hl337_1, hi337_1⟩ := at_T33 (Kd.S_reads' HO_6.out).2.2 x9_2 p337 q337
                                obtain rfl : ad335 = ad337 := (by injection e337)
                                obtain ⟨ce337, hce337, hMe337, hcc337⟩ := Kd.S_get HO_6.out z33 x9_2 p337 (by first | exact q337 | exact of_decide_eq_true (by first | (with_reducible assumption) | assumption) | (have e_ := (Kd.S_reads' HO_6.out).1; omega))
                                obtain ⟨ve337_1, rfl, ge337_1⟩ := k33_openM hMe337
                                have hv337_1 := hcc337 1 _ rfl
                                rw [add_field _ _ 1 (by omega)] at hv337_1
                                replace hv337_1 := Option.some.inj (hv337_1.symm.trans hx337_1)
                                rw [hv337_1] at ge337_1
                                have HL337_1 := Aside0.mk (show Kd.R k35 35 _ _ _ _ ((rd_T33 t314 x9_2).f1) from ge337_1)
                                clear hv337_1 ge337_1
                                clear hcc337 hce337
                                have HR337_1 := Aside0.mk hi337_1
                                have HC337_1 := Aside0.mk hl337_1
                                clear hi337_1 hl337_1
                                replace p337 := eq_true p337
                                replace q337 := eq_true q337
                                have ea_ := Option.some.inj (hx335_1.symm.trans hx337_1)
                                injection ea_ with ea_ en_ ec_
                                subst ea_
                                subst ec_
                                clear en_
                                obtain ⟨Ao53, co53, eo53⟩ := Kd.S_slice HO_8.out
                                subst eo53
                                have p338 : 0 ≤ (x9_2 : Int) := of_decide_eq_true (by first | (with_reducible assumption) | assumption)
                                have q338 : x9_2 < (t332.length : Int) := of_decide_eq_true (by first | (with_reducible assumption) | assumption)
                                obtain ⟨ad338, A338_1, c338_1, e338, hx338_0, hx338_1, hl338_1, hi338_1⟩ := at_T33 (Kd.S_reads' HO_8.out).2.2 x9_2 p338 q338
                                cases e338
                                obtain ⟨ce338, hce338, hMe338, hcc338⟩ := Kd.S_get HO_8.out z33 x9_2 p338 (by first | exact q338 | exact of_decide_eq_true (by first | (with_reducible assumption) | assumption) | (have e_ := (Kd.S_reads' HO_8.out).1; omega))
                                obtain ⟨ve338_1, rfl, ge338_1⟩ := k33_openM hMe338
                                have hv338_1 := hcc338 1 _ rfl
                                rw [add_field _ _ 1 (by omega)] at hv338_1
                                replace hv338_1 := Option.some.inj (hv338_1.symm.trans hx338_1)
                                rw [hv338_1] at ge338_1
                                have HL338_1 := Aside0.mk (show Kd.R k35 35 _ _ _ _ ((rd_T33 t332 x9_2).f1) from ge338_1)
                                clear hv338_1 ge338_1
                                clear hcc338 hce338
                                have HR338_1 := Aside0.mk hi338_1
                                have HC338_1 := Aside0.mk hl338_1
                                clear hi338_1 hl338_1
                                replace p338 := eq_true p338
                                replace q338 := eq_true q338
                                go_wp2
                                repeat (go_quiet (fail); try go_wp2)
                                go_meet
                                case rel => exact ⟨_, (true), (by first | rfl | (simp; done) | (simp [*]; done)), H', ⟨by have := HJ11.out; have := HK2.out; first | omega | exact Nat.le_refl _⟩, ⟨by (with_reducible repeat (first | apply Kd.S_alloc | apply Kd.S_drewN | apply Kd.S_drew)); exact HO_6.out⟩, ⟨by (with_reducible repeat (first | apply Kd.S_alloc | apply Kd.S_drewN | apply Kd.S_drew)); exact HO_7.out⟩, ⟨by (with_reducible repeat (first | apply Kd.S_alloc | apply Kd.S_drewN | apply Kd.S_drew)); exact HO_8.out⟩, ⟨by (with_reducible repeat (first | refine blk_drewN ?_ _ | refine blk_drew ?_ | refine blk_alloc ?_ _)); exact BK311.out⟩, ⟨by repeat (first | (with_reducible first | exact HB.out | apply below_alloc | apply pw_below_drewN | apply below_drew1 | refine below_set ?_ GE311.out) | exact HB.out)⟩⟩
                            · rw [if_neg c45] at H
                              exact absurd H (by simp)
                          · rw [if_neg c44] at H
                            have c44b0 : (((rd_T33 t314 x9_2).f0) == ((rd_T33 t317 x9_2).f0)) = false := beq_eq_false_iff_ne.mpr c44
                            have c44b1 : (((rd_T33 t314 x9_2).f0) != ((rd_T33 t317 x9_2).f0)) = true := bne_iff_ne.mpr c44
                            have H' := Aside0.mk H
                            clear H
                            have p335 : 0 ≤ (x9_2 : Int) := of_decide_eq_true (by first | (with_reducible assumption) | assumption)
                            have q335 : x9_2 < (t314.length : Int) := of_decide_eq_true (by first | (with_reducible assumption) | assumption)
                            obtain ⟨ad335, A335_1, c335_1, e335, hx335_0, hx335_1, hl335_1, hi335_1⟩ := at_T33 (Kd.S_reads' HO_6.out).2.2 x9_2 p335 q335
                            cases e335
                            obtain ⟨ce335, hce335, hMe335, hcc335⟩ := Kd.S_get HO_6.out z33 x9_2 p335 (by first | exact q335 | exact of_decide_eq_true (by first | (with_reducible assumption) | assumption) | (have e_ := (Kd.S_reads' HO_6.out).1; omega))
                            obtain ⟨ve335_1, rfl, ge335_1⟩ := k33_openM hMe335
                            have hv335_1 := hcc335 1 _ rfl
                            rw [add_field _ _ 1 (by omega)] at hv335_1
                            replace hv335_1 := Option.some.inj (hv335_1.symm.trans hx335_1)
                            rw [hv335_1] at ge335_1
                            have HL335_1 := Aside0.mk (show Kd.R k35 35 _ _ _ _ ((rd_T33 t314 x9_2).f1) from ge335_1)
                            clear hv335_1 ge335_1
                            clear hcc335 hce335
                            have HR335_1 := Aside0.mk hi335_1
                            have HC335_1 := Aside0.mk hl335_1
                            clear hi335_1 hl335_1
                            replace p335 := eq_true p335
                            replace q335 := eq_true q335
                            obtain ⟨Ao54, co54, eo54⟩ := Kd.S_slice HO_7.out
                            subst eo54
                            have p336 : 0 ≤ (x9_2 : Int) := of_decide_eq_true (by first | (with_reducible assumption) | assumption)
                            have q336 : x9_2 < (t317.length : Int) := of_decide_eq_true (by first | (with_reducible assumption) | assumption)
                            obtain ⟨ad336, A336_1, c336_1, e336, hx336_0, hx336_1, hl336_1, hi336_1⟩ := at_T33 (Kd.S_reads' HO_7.out).2.2 x9_2 p336 q336
                            cases e336
                            obtain ⟨ce336, hce336, hMe336, hcc336⟩ := Kd.S_get HO_7.out z33 x9_2 p336 (by first | exact q336 | exact of_decide_eq_true (by first | (with_reducible assumption) | assumption) | (have e_ := (Kd.S_reads' HO_7.out).1; omega))
                            obtain ⟨ve336_1, rfl, ge336_1⟩ := k33_openM hMe336
                            have hv336_1 := hcc336 1 _ rfl
                            rw [add_field _ _ 1 (by omega)] at hv336_1
                            replace hv336_1 := Option.some.inj (hv336_1.symm.trans hx336_1)
                            rw [hv336_1] at ge336_1
                            have HL336_1 := Aside0.mk (show Kd.R k35 35 _ _ _ _ ((rd_T33 t317 x9_2).f1) from ge336_1)
                            clear hv336_1 ge336_1
                            clear hcc336 hce336
                            have HR336_1 := Aside0.mk hi336_1
                            have HC336_1 := Aside0.mk hl336_1
                            clear hi336_1 hl336_1
                            replace p336 := eq_true p336
                            replace q336 := eq_true q336
                            go_wp2
                            repeat (go_quiet (fail); try go_wp2)
                            go_meet
                            case rel => exact ⟨_, (true), (by first | rfl | (simp; done) | (simp [*]; done)), H', ⟨by have := HJ11.out; have := HK2.out; first | omega | exact Nat.le_refl _⟩, ⟨by (with_reducible repeat (first | apply Kd.S_alloc | apply Kd.S_drewN | apply Kd.S_drew)); exact HO_6.out⟩, ⟨by (with_reducible repeat (first | apply Kd.S_alloc | apply Kd.S_drewN | apply Kd.S_drew)); exact HO_7.out⟩, ⟨by (with_reducible repeat (first | apply Kd.S_alloc | apply Kd.S_drewN | apply Kd.S_drew)); exact HO_8.out⟩, ⟨by (with_reducible repeat (first | refine blk_drewN ?_ _ | refine blk_drew ?_ | refine blk_alloc ?_ _)); exact BK311.out⟩, ⟨by repeat (first | (with_reducible first | exact HB.out | apply below_alloc | apply pw_below_drewN | apply below_drew1 | refine below_set ?_ GE311.out) | exact HB.out)⟩⟩
                        · rw [if_neg c43] at H
                          exact absurd H (by simp)
                      · rw [if_neg c42] at H
                        exact absurd H (by simp)
                    case rest =>
                      clear HC40
                      try clear c1
                      try clear p2
                      try clear c3
                      try clear p3
                      try clear q3
                      try clear hx3
                      try clear c4
                      try clear c5
                      try clear p6
                      try clear c9
                      try clear c10
                      try clear c15
                      try clear c16
                      try clear c17
                      try clear c32
                      try clear c32b0
                      try clear c32b1
                      try clear c33
                      try clear p33
                      try clear q33
                      try clear hx33
                      try clear c34
                      try clear p34
                      try clear q34
                      try clear hx34
                      try clear c38
                      try clear c39
                      try clear c39b0
                      try clear c42
                      try clear c42b0
                      try clear c43
                      try clear c43b0
                      try clear c44
                      try clear c44b0
                      try clear c44b1
                      try clear c45
                      try clear c45b0
                      try clear c46
                      try clear c46b0
                      try clear c46b1
                      try clear c47
                      try clear c47b0
                      try clear c47b1
                      try clear c47b2
                      try clear hcz15_0
                      try clear hcz15_1
                      try clear hcz15_2
                      try clear hcz15_3
                      try clear hcz17_0
                      try clear hcz17_1
                      try clear hcz17_2
                      try clear hcz17_3
                      try clear hcz19_0
                      try clear hcz19_1
                      try clear hcz19_2
                      try clear hcz19_3
                      try clear hfz15_0
                      try clear hfz15_1
                      try clear hfz15_2
                      try clear hfz15_3
                      try clear hfz17_0
                      try clear hfz17_1
                      try clear hfz17_2
                      try clear hfz17_3
                      try clear hfz19_0
                      try clear hfz19_1
                      try clear hfz19_2
                      try clear hfz19_3
                      try clear hx335_0
                      try clear hx335_1
                      try clear hx336_0
                      try clear hx336_1
                      try clear hx337_0
                      try clear hx337_1
                      try clear hx338_0
                      try clear hx338_1
                      try clear hx339_0
                      try clear hx339_1
                      try clear hx340_0
                      try clear hx340_1
                      try clear hx341_0
                      try clear hx341_1
                      try clear hx342_0
                      try clear hx342_1
                      try clear p2
                      try clear p335
                      try clear p336
                      try clear p337
                      try clear p338
                      try clear p339
                      try clear p340
                      try clear p341
                      try clear p342
                      try clear p6
                      try clear q335
                      try clear q336
                      try clear q337
                      try clear q338
                      try clear q339
                      try clear q340
                      try clear q341
                      try clear q342
                      obtain ⟨kq, x123_39, rfl, HA, HJ39, HO_6, HO_7, HO_8, BK311, HB⟩ := hcut
                      cases kq with
                      | zero => exact absurd HA.out (by simp [lambrequinlaw22_InterpMore.j2])
                      | succ kj39 =>
                        have H := HA.out
                        clear HA
                        simp only [lambrequinlaw22_InterpMore.j2] at H
                        by_cases c55 : x123_39 = true
                        · subst c55
                          have H1 : (some false) = some r := by rw [if_pos rfl] at H; exact H
                          clear H
                          have H := H1
                          clear H1
                          obtain rfl := Option.some.inj H
                          go_wp2
                          repeat (go_quiet (fail); try go_wp2)
                          go_ret
                          exact ⟨by first | rfl | (simp [errW_none, errW_some] <;> rfl) | (simp only [← hji7]; first | rfl | (simp [errW_none, errW_some] <;> rfl)) | (simp [*, errW_none, errW_some] <;> rfl), by repeat (first | (with_reducible first | exact HB.out | apply below_alloc | apply pw_below_drewN | apply below_drew1 | refine below_set ?_ GE311.out) | exact HB.out)⟩
                        · replace c55 := Bool.eq_false_iff.mpr c55
                          subst c55
                          have H1 : (lambrequinlaw22_InterpMore.l1 kj39 t312 t314 t317 t332 x9_2 0) = some r := by rw [if_neg (show ¬ (false = true) by decide)] at H; exact H
                          clear H
                          have H := H1
                          clear H1
                          have H' := Aside0.mk H
                          clear H
                          go_wp2
                          repeat (go_quiet (fail); try go_wp2)
                          go_loopg [10] kj39 (fun kq v10 w' => ∃ (x10_4 : Int), v10 = .int .i64 x10_4 ∧ Aside0 (lambrequinlaw22_InterpMore.l1 kq t312 t314 t317 t332 x9_2 x10_4 = some r) ∧ Aside0 (kq ≤ kj39) ∧ Aside0 (Kd.S k33 33 w' w.heap.size (fun k_ => some k_ ≠ (v318 : Value).ownBlock ∧ some k_ ≠ (v333 : Value).ownBlock) (.slice Ao41 t314.length co41) t314) ∧ Aside0 (Kd.S k33 33 w' w.heap.size (fun k_ => some k_ ≠ ((.slice Ao41 t314.length co41) : Value).ownBlock ∧ some k_ ≠ (v333 : Value).ownBlock) v318 t317) ∧ Aside0 (Kd.S k33 33 w' w.heap.size (fun k_ => some k_ ≠ ((.slice Ao41 t314.length co41) : Value).ownBlock ∧ some k_ ≠ (v318 : Value).ownBlock) v333 t332) ∧ Aside0 (w'.heap[gb311]? = some (.cells #[(.slice A0_0 l0_0.length c0_0), (.slice A0_1 l0_1.length c0_1), (.slice A0_2 l0_2.length c0_2), .int .i64 a0_3] 26 (0, 0))) ∧ Aside0 (Below w.heap.size w w'))
                          case atStart => exact ⟨(0), (by first | rfl | (simp; done) | (simp [*]; done)), H', ⟨Nat.le_refl _⟩, ⟨by (with_reducible repeat (first | apply Kd.S_alloc | apply Kd.S_drewN | apply Kd.S_drew)); exact HO_6.out⟩, ⟨by (with_reducible repeat (first | apply Kd.S_alloc | apply Kd.S_drewN | apply Kd.S_drew)); exact HO_7.out⟩, ⟨by (with_reducible repeat (first | apply Kd.S_alloc | apply Kd.S_drewN | apply Kd.S_drew)); exact HO_8.out⟩, ⟨by (with_reducible repeat (first | refine blk_drewN ?_ _ | refine blk_drew ?_ | refine blk_alloc ?_ _)); exact BK311.out⟩, ⟨by repeat (first | (with_reducible first | exact HB.out | apply below_alloc | apply pw_below_drewN | apply below_drew1 | refine below_set ?_ GE311.out) | exact HB.out)⟩⟩
                          case round =>
                            clear H'
                            try clear c1
                            try clear p2
                            try clear c3
                            try clear p3
                            try clear q3
                            try clear hx3
                            try clear c4
                            try clear c5
                            try clear p6
                            try clear c9
                            try clear c10
                            try clear c15
                            try clear c16
                            try clear c17
                            try clear c32
                            try clear c32b0
                            try clear c32b1
                            try clear c33
                            try clear p33
                            try clear q33
                            try clear hx33
                            try clear c34
                            try clear p34
                            try clear q34
                            try clear hx34
                            try clear c38
                            try clear c39
                            try clear c39b0
                            try clear c42
                            try clear c42b0
                            try clear c43
                            try clear c43b0
                            try clear c44
                            try clear c44b0
                            try clear c44b1
                            try clear c45
                            try clear c45b0
                            try clear c46
                            try clear c46b0
                            try clear c46b1
                            try clear c47
                            try clear c47b0
                            try clear c47b1
                            try clear c47b2
                            try clear c55
                            try clear hcz15_0
                            try clear hcz15_1
                            try clear hcz15_2
                            try clear hcz15_3
                            try clear hcz17_0
                            try clear hcz17_1
                            try clear hcz17_2
                            try clear hcz17_3
                            try clear hcz19_0
                            try clear hcz19_1
                            try clear hcz19_2
                            try clear hcz19_3
                            try clear hfz15_0
                            try clear hfz15_1
                            try clear hfz15_2
                            try clear hfz15_3
                            try clear hfz17_0
                            try clear hfz17_1
                            try clear hfz17_2
                            try clear hfz17_3
                            try clear hfz19_0
                            try clear hfz19_1
                            try clear hfz19_2
                            try clear hfz19_3
                            try clear hx335_0
                            try clear hx335_1
                            try clear hx336_0
                            try clear hx336_1
                            try clear hx337_0
                            try clear hx337_1
                            try clear hx338_0
                            try clear hx338_1
                            try clear hx339_0
                            try clear hx339_1
                            try clear hx340_0
                            try clear hx340_1
                            try clear hx341_0
                            try clear hx341_1
                            try clear hx342_0
                            try clear hx342_1
                            try clear p2
                            try clear p3
                            try clear p33
                            try clear p335
                            try clear p336
                            try clear p337
                            try clear p338
                            try clear p339
                            try clear p34
                            try clear p340
                            try clear p341
                            try clear p342
                            try clear p6
                            try clear q3
                            try clear q33
                            try clear q335
                            try clear q336
                            try clear q337
                            try clear q338
                            try clear q339
                            try clear q34
                            try clear q340
                            try clear q341
                            try clear q342
                            obtain ⟨x10_4, rfl, HA, HK4, HO_6, HO_7, HO_8, BK311, HB⟩ := hrel
                            cases gk with
                            | zero => exact absurd HA.out (by simp [lambrequinlaw22_InterpMore.l1])
                            | succ k4 =>
                              have H := HA.out
                              clear HA
                              simp only [lambrequinlaw22_InterpMore.l1] at H
                              by_cases c56 : 0 ≤ x9_2
                              · rw [if_pos c56] at H
                                have c56b0 : decide (0 ≤ x9_2) = true := decide_eq_true c56
                                clear c56
                                by_cases c57 : x9_2 < (t314.length : Int)
                                · rw [if_pos c57] at H
                                  have c57b0 : decide (x9_2 < (t314.length : Int)) = true := decide_eq_true c57
                                  clear c57
                                  by_cases c58 : x10_4 < (((rd_T33 t314 x9_2).f1).length : Int)
                                  · rw [if_pos c58] at H
                                    have c58b0 : decide (x10_4 < (((rd_T33 t314 x9_2).f1).length : Int)) = true := decide_eq_true c58
                                    clear c58
                                    by_cases c59 : 0 ≤ x10_4
                                    · rw [if_pos c59] at H
                                      have c59b0 : decide (0 ≤ x10_4) = true := decide_eq_true c59
                                      clear c59
                                      by_cases c60 : x9_2 < (t317.length : Int)
                                      · rw [if_pos c60] at H
                                        have c60b0 : decide (x9_2 < (t317.length : Int)) = true := decide_eq_true c60
                                        clear c60
                                        by_cases c61 : x10_4 < (((rd_T33 t317 x9_2).f1).length : Int)
                                        · rw [if_pos c61] at H
                                          have c61b0 : decide (x10_4 < (((rd_T33 t317 x9_2).f1).length : Int)) = true := decide_eq_true c61
                                          clear c61
                                          by_cases c62 : (!((((rd_T35 ((rd_T33 t314 x9_2).f1) x10_4).f0).toList) == (((rd_T35 ((rd_T33 t317 x9_2).f1) x10_4).f0).toList)) || (!(((rd_T35 ((rd_T33 t314 x9_2).f1) x10_4).f1) == ((rd_T35 ((rd_T33 t317 x9_2).f1) x10_4).f1)) || (!(((rd_T35 ((rd_T33 t314 x9_2).f1) x10_4).f2) == ((rd_T35 ((rd_T33 t317 x9_2).f1) x10_4).f2)) || (!(((rd_T35 ((rd_T33 t314 x9_2).f1) x10_4).f3) == ((rd_T35 ((rd_T33 t317 x9_2).f1) x10_4).f3)))))) = true
                                          · rw [if_pos c62] at H
                                            have c62b0 : (!((((rd_T35 ((rd_T33 t314 x9_2).f1) x10_4).f0).toList) == (((rd_T35 ((rd_T33 t317 x9_2).f1) x10_4).f0).toList)) || (!(((rd_T35 ((rd_T33 t314 x9_2).f1) x10_4).f1) == ((rd_T35 ((rd_T33 t317 x9_2).f1) x10_4).f1)) || (!(((rd_T35 ((rd_T33 t314 x9_2).f1) x10_4).f2) == ((rd_T35 ((rd_T33 t317 x9_2).f1) x10_4).f2)) || (!(((rd_T35 ((rd_T33 t314 x9_2).f1) x10_4).f3) == ((rd_T35 ((rd_T33 t317 x9_2).f1) x10_4).f3)))))) = true := c62
                                            clear c62
                                            obtain rfl := Option.some.inj H
                                            have p343 : 0 ≤ (x9_2 : Int) := of_decide_eq_true (by first | (with_reducible assumption) | assumption)
                                            have q343 : x9_2 < (t314.length : Int) := of_decide_eq_true (by first | (with_reducible assumption) | assumption)
                                            obtain ⟨ad343, A343_1, c343_1, e343, hx343_0, hx343_1, hl343_1, hi343_1⟩ := at_T33 (Kd.S_reads' HO_6.out).2.2 x9_2 p343 q343
                                            cases e343
                                            obtain ⟨ce343, hce343, hMe343, hcc343⟩ := Kd.S_get HO_6.out z33 x9_2 p343 (by first | exact q343 | exact of_decide_eq_true (by first | (with_reducible assumption) | assumption) | (have e_ := (Kd.S_reads' HO_6.out).1; omega))
                                            obtain ⟨ve343_1, rfl, ge343_1⟩ := k33_openM hMe343
                                            have hv343_1 := hcc343 1 _ rfl
                                            rw [add_field _ _ 1 (by omega)] at hv343_1
                                            replace hv343_1 := Option.some.inj (hv343_1.symm.trans hx343_1)
                                            rw [hv343_1] at ge343_1
                                            have HL343_1 := Aside0.mk (show Kd.R k35 35 _ _ _ _ ((rd_T33 t314 x9_2).f1) from ge343_1)
                                            clear hv343_1 ge343_1
                                            clear hcc343 hce343
                                            have HR343_1 := Aside0.mk hi343_1
                                            have HC343_1 := Aside0.mk hl343_1
                                            clear hi343_1 hl343_1
                                            replace p343 := eq_true p343
                                            replace q343 := eq_true q343
                                            have p344 : 0 ≤ (x9_2 : Int) := of_decide_eq_true (by first | (with_reducible assumption) | assumption)
                                            have q344 : x9_2 < (t314.length : Int) := of_decide_eq_true (by first | (with_reducible assumption) | assumption)
                                            obtain ⟨ad344, A344_1, c344_1, e344, hx344_0, hx344_1, hl344_1, hi344_1⟩ := at_T33 (Kd.S_reads' HO_6.out).2.2 x9_2 p344 q344
                                            obtain rfl : ad343 = ad344 := (by injection e344)
                                            obtain ⟨ce344, hce344, hMe344, hcc344⟩ := Kd.S_get HO_6.out z33 x9_2 p344 (by first | exact q344 | exact of_decide_eq_true (by first | (with_reducible assumption) | assumption) | (have e_ := (Kd.S_reads' HO_6.out).1; omega))
                                            obtain ⟨ve344_1, rfl, ge344_1⟩ := k33_openM hMe344
                                            have hv344_1 := hcc344 1 _ rfl
                                            rw [add_field _ _ 1 (by omega)] at hv344_1
                                            replace hv344_1 := Option.some.inj (hv344_1.symm.trans hx344_1)
                                            rw [hv344_1] at ge344_1
                                            have HL344_1 := Aside0.mk (show Kd.R k35 35 _ _ _ _ ((rd_T33 t314 x9_2).f1) from ge344_1)
                                            clear hv344_1 ge344_1
                                            clear hcc344 hce344
                                            have HR344_1 := Aside0.mk hi344_1
                                            have HC344_1 := Aside0.mk hl344_1
                                            clear hi344_1 hl344_1
                                            replace p344 := eq_true p344
                                            replace q344 := eq_true q344
                                            have ea_ := Option.some.inj (hx343_1.symm.trans hx344_1)
                                            injection ea_ with ea_ en_ ec_
                                            subst ea_
                                            subst ec_
                                            clear en_
                                            have p345 : 0 ≤ (x10_4 : Int) := of_decide_eq_true (by first | (with_reducible assumption) | assumption)
                                            have q345 : x10_4 < (((rd_T33 t314 x9_2).f1).length : Int) := of_decide_eq_true (by first | (with_reducible assumption) | assumption)
                                            obtain ⟨ad345, e345, hx345_0, hx345_1, hx345_2, hx345_3⟩ := at_T35 (by repeat (first | (with_reducible exact HR344_1.out) | (with_reducible refine Kd.C_alloc ?_ _) | (with_reducible refine Kd.C_drewN ?_ _) | (with_reducible refine Kd.C_drew ?_) | exact HR344_1.out)) x10_4 p345 q345
                                            cases e345
                                            replace p345 := eq_true p345
                                            replace q345 := eq_true q345
                                            obtain ⟨Ao63, co63, eo63⟩ := Kd.S_slice HO_7.out
                                            subst eo63
                                            have p346 : 0 ≤ (x9_2 : Int) := of_decide_eq_true (by first | (with_reducible assumption) | assumption)
                                            have q346 : x9_2 < (t317.length : Int) := of_decide_eq_true (by first | (with_reducible assumption) | assumption)
                                            obtain ⟨ad346, A346_1, c346_1, e346, hx346_0, hx346_1, hl346_1, hi346_1⟩ := at_T33 (Kd.S_reads' HO_7.out).2.2 x9_2 p346 q346
                                            cases e346
                                            obtain ⟨ce346, hce346, hMe346, hcc346⟩ := Kd.S_get HO_7.out z33 x9_2 p346 (by first | exact q346 | exact of_decide_eq_true (by first | (with_reducible assumption) | assumption) | (have e_ := (Kd.S_reads' HO_7.out).1; omega))
                                            obtain ⟨ve346_1, rfl, ge346_1⟩ := k33_openM hMe346
                                            have hv346_1 := hcc346 1 _ rfl
                                            rw [add_field _ _ 1 (by omega)] at hv346_1
                                            replace hv346_1 := Option.some.inj (hv346_1.symm.trans hx346_1)
                                            rw [hv346_1] at ge346_1
                                            have HL346_1 := Aside0.mk (show Kd.R k35 35 _ _ _ _ ((rd_T33 t317 x9_2).f1) from ge346_1)
                                            clear hv346_1 ge346_1
                                            clear hcc346 hce346
                                            have HR346_1 := Aside0.mk hi346_1
                                            have HC346_1 := Aside0.mk hl346_1
                                            clear hi346_1 hl346_1
                                            replace p346 := eq_true p346
                                            replace q346 := eq_true q346
                                            have p347 : 0 ≤ (x10_4 : Int) := of_decide_eq_true (by first | (with_reducible assumption) | assumption)
                                            have q347 : x10_4 < (((rd_T33 t317 x9_2).f1).length : Int) := of_decide_eq_true (by first | (with_reducible assumption) | assumption)
                                            obtain ⟨ad347, e347, hx347_0, hx347_1, hx347_2, hx347_3⟩ := at_T35 (by repeat (first | (with_reducible exact HR346_1.out) | (with_reducible refine Kd.C_alloc ?_ _) | (with_reducible refine Kd.C_drewN ?_ _) | (with_reducible refine Kd.C_drew ?_) | exact HR346_1.out)) x10_4 p347 q347
                                            cases e347
                                            replace p347 := eq_true p347
                                            replace q347 := eq_true q347
                                            go_wp2
                                            repeat (go_quiet (fail); try go_wp2)
                                            go_ret
                                            exact ⟨by first | rfl | (simp [errW_none, errW_some] <;> rfl) | (simp only [← hji7]; first | rfl | (simp [errW_none, errW_some] <;> rfl)) | (simp [*, errW_none, errW_some] <;> rfl), by repeat (first | (with_reducible first | exact HB.out | apply below_alloc | apply pw_below_drewN | apply below_drew1 | refine below_set ?_ GE311.out) | exact HB.out)⟩
                                          · rw [if_neg c62] at H
                                            have c62b0 : (!((((rd_T35 ((rd_T33 t314 x9_2).f1) x10_4).f0).toList) == (((rd_T35 ((rd_T33 t317 x9_2).f1) x10_4).f0).toList)) || (!(((rd_T35 ((rd_T33 t314 x9_2).f1) x10_4).f1) == ((rd_T35 ((rd_T33 t317 x9_2).f1) x10_4).f1)) || (!(((rd_T35 ((rd_T33 t314 x9_2).f1) x10_4).f2) == ((rd_T35 ((rd_T33 t317 x9_2).f1) x10_4).f2)) || (!(((rd_T35 ((rd_T33 t314 x9_2).f1) x10_4).f3) == ((rd_T35 ((rd_T33 t317 x9_2).f1) x10_4).f3)))))) = false := by simpa using c62
                                            clear c62
                                            by_cases c64 : x9_2 < (t332.length : Int)
                                            · rw [if_pos c64] at H
                                              have c64b0 : decide (x9_2 < (t332.length : Int)) = true := decide_eq_true c64
                                              clear c64
                                              by_cases c65 : x10_4 < (((rd_T33 t332 x9_2).f1).length : Int)
                                              · rw [if_pos c65] at H
                                                have c65b0 : decide (x10_4 < (((rd_T33 t332 x9_2).f1).length : Int)) = true := decide_eq_true c65
                                                clear c65
                                                by_cases c66 : (!((((rd_T35 ((rd_T33 t314 x9_2).f1) x10_4).f0).toList) == (((rd_T35 ((rd_T33 t332 x9_2).f1) x10_4).f0).toList)) || (!(((rd_T35 ((rd_T33 t314 x9_2).f1) x10_4).f1) == ((rd_T35 ((rd_T33 t332 x9_2).f1) x10_4).f1)) || (!(((rd_T35 ((rd_T33 t314 x9_2).f1) x10_4).f2) == ((rd_T35 ((rd_T33 t332 x9_2).f1) x10_4).f2)) || (!(((rd_T35 ((rd_T33 t314 x9_2).f1) x10_4).f3) == ((rd_T35 ((rd_T33 t332 x9_2).f1) x10_4).f3)))))) = true
                                                · rw [if_pos c66] at H
                                                  have c66b0 : (!((((rd_T35 ((rd_T33 t314 x9_2).f1) x10_4).f0).toList) == (((rd_T35 ((rd_T33 t332 x9_2).f1) x10_4).f0).toList)) || (!(((rd_T35 ((rd_T33 t314 x9_2).f1) x10_4).f1) == ((rd_T35 ((rd_T33 t332 x9_2).f1) x10_4).f1)) || (!(((rd_T35 ((rd_T33 t314 x9_2).f1) x10_4).f2) == ((rd_T35 ((rd_T33 t332 x9_2).f1) x10_4).f2)) || (!(((rd_T35 ((rd_T33 t314 x9_2).f1) x10_4).f3) == ((rd_T35 ((rd_T33 t332 x9_2).f1) x10_4).f3)))))) = true := c66
                                                  clear c66
                                                  obtain rfl := Option.some.inj H
                                                  have p343 : 0 ≤ (x9_2 : Int) := of_decide_eq_true (by first | (with_reducible assumption) | assumption)
                                                  have q343 : x9_2 < (t314.length : Int) := of_decide_eq_true (by first | (with_reducible assumption) | assumption)
                                                  obtain ⟨ad343, A343_1, c343_1, e343, hx343_0, hx343_1, hl343_1, hi343_1⟩ := at_T33 (Kd.S_reads' HO_6.out).2.2 x9_2 p343 q343
                                                  cases e343
                                                  obtain ⟨ce343, hce343, hMe343, hcc343⟩ := Kd.S_get HO_6.out z33 x9_2 p343 (by first | exact q343 | exact of_decide_eq_true (by first | (with_reducible assumption) | assumption) | (have e_ := (Kd.S_reads' HO_6.out).1; omega))
                                                  obtain ⟨ve343_1, rfl, ge343_1⟩ := k33_openM hMe343
                                                  have hv343_1 := hcc343 1 _ rfl
                                                  rw [add_field _ _ 1 (by omega)] at hv343_1
                                                  replace hv343_1 := Option.some.inj (hv343_1.symm.trans hx343_1)
                                                  rw [hv343_1] at ge343_1
                                                  have HL343_1 := Aside0.mk (show Kd.R k35 35 _ _ _ _ ((rd_T33 t314 x9_2).f1) from ge343_1)
                                                  clear hv343_1 ge343_1
                                                  clear hcc343 hce343
                                                  have HR343_1 := Aside0.mk hi343_1
                                                  have HC343_1 := Aside0.mk hl343_1
                                                  clear hi343_1 hl343_1
                                                  replace p343 := eq_true p343
                                                  replace q343 := eq_true q343
                                                  have p344 : 0 ≤ (x9_2 : Int) := of_decide_eq_true (by first | (with_reducible assumption) | assumption)
                                                  have q344 : x9_2 < (t314.length : Int) := of_decide_eq_true (by first | (with_reducible assumption) | assumption)
                                                  obtain ⟨ad344, A344_1, c344_1, e344, hx344_0, hx344_1, hl344_1, hi344_1⟩ := at_T33 (Kd.S_reads' HO_6.out).2.2 x9_2 p344 q344
                                                  obtain rfl : ad343 = ad344 := (by injection e344)
                                                  obtain ⟨ce344, hce344, hMe344, hcc344⟩ := Kd.S_get HO_6.out z33 x9_2 p344 (by first | exact q344 | exact of_decide_eq_true (by first | (with_reducible assumption) | assumption) | (have e_ := (Kd.S_reads' HO_6.out).1; omega))
                                                  obtain ⟨ve344_1, rfl, ge344_1⟩ := k33_openM hMe344
                                                  have hv344_1 := hcc344 1 _ rfl
                                                  rw [add_field _ _ 1 (by omega)] at hv344_1
                                                  replace hv344_1 := Option.some.inj (hv344_1.symm.trans hx344_1)
                                                  rw [hv344_1] at ge344_1
                                                  have HL344_1 := Aside0.mk (show Kd.R k35 35 _ _ _ _ ((rd_T33 t314 x9_2).f1) from ge344_1)
                                                  clear hv344_1 ge344_1
                                                  clear hcc344 hce344
                                                  have HR344_1 := Aside0.mk hi344_1
                                                  have HC344_1 := Aside0.mk hl344_1
                                                  clear hi344_1 hl344_1
                                                  replace p344 := eq_true p344
                                                  replace q344 := eq_true q344
                                                  have ea_ := Option.some.inj (hx343_1.symm.trans hx344_1)
                                                  injection ea_ with ea_ en_ ec_
                                                  subst ea_
                                                  subst ec_
                                                  clear en_
                                                  have p345 : 0 ≤ (x10_4 : Int) := of_decide_eq_true (by first | (with_reducible assumption) | assumption)
                                                  have q345 : x10_4 < (((rd_T33 t314 x9_2).f1).length : Int) := of_decide_eq_true (by first | (with_reducible assumption) | assumption)
                                                  obtain ⟨ad345, e345, hx345_0, hx345_1, hx345_2, hx345_3⟩ := at_T35 (by repeat (first | (with_reducible exact HR344_1.out) | (with_reducible refine Kd.C_alloc ?_ _) | (with_reducible refine Kd.C_drewN ?_ _) | (with_reducible refine Kd.C_drew ?_) | exact HR344_1.out)) x10_4 p345 q345
                                                  cases e345
                                                  replace p345 := eq_true p345
                                                  replace q345 := eq_true q345
                                                  obtain ⟨Ao67, co67, eo67⟩ := Kd.S_slice HO_7.out
                                                  subst eo67
                                                  have p346 : 0 ≤ (x9_2 : Int) := of_decide_eq_true (by first | (with_reducible assumption) | assumption)
                                                  have q346 : x9_2 < (t317.length : Int) := of_decide_eq_true (by first | (with_reducible assumption) | assumption)
                                                  obtain ⟨ad346, A346_1, c346_1, e346, hx346_0, hx346_1, hl346_1, hi346_1⟩ := at_T33 (Kd.S_reads' HO_7.out).2.2 x9_2 p346 q346
                                                  cases e346
                                                  obtain ⟨ce346, hce346, hMe346, hcc346⟩ := Kd.S_get HO_7.out z33 x9_2 p346 (by first | exact q346 | exact of_decide_eq_true (by first | (with_reducible assumption) | assumption) | (have e_ := (Kd.S_reads' HO_7.out).1; omega))
                                                  obtain ⟨ve346_1, rfl, ge346_1⟩ := k33_openM hMe346
                                                  have hv346_1 := hcc346 1 _ rfl
                                                  rw [add_field _ _ 1 (by omega)] at hv346_1
                                                  replace hv346_1 := Option.some.inj (hv346_1.symm.trans hx346_1)
                                                  rw [hv346_1] at ge346_1
                                                  have HL346_1 := Aside0.mk (show Kd.R k35 35 _ _ _ _ ((rd_T33 t317 x9_2).f1) from ge346_1)
                                                  clear hv346_1 ge346_1
                                                  clear hcc346 hce346
                                                  have HR346_1 := Aside0.mk hi346_1
                                                  have HC346_1 := Aside0.mk hl346_1
                                                  clear hi346_1 hl346_1
                                                  replace p346 := eq_true p346
                                                  replace q346 := eq_true q346
                                                  have p347 : 0 ≤ (x10_4 : Int) := of_decide_eq_true (by first | (with_reducible assumption) | assumption)
                                                  have q347 : x10_4 < (((rd_T33 t317 x9_2).f1).length : Int) := of_decide_eq_true (by first | (with_reducible assumption) | assumption)
                                                  obtain ⟨ad347, e347, hx347_0, hx347_1, hx347_2, hx347_3⟩ := at_T35 (by repeat (first | (with_reducible exact HR346_1.out) | (with_reducible refine Kd.C_alloc ?_ _) | (with_reducible refine Kd.C_drewN ?_ _) | (with_reducible refine Kd.C_drew ?_) | exact HR346_1.out)) x10_4 p347 q347
                                                  cases e347
                                                  replace p347 := eq_true p347
                                                  replace q347 := eq_true q347
                                                  have p348 : 0 ≤ (x9_2 : Int) := of_decide_eq_true (by first | (with_reducible assumption) | assumption)
                                                  have q348 : x9_2 < (t314.length : Int) := of_decide_eq_true (by first | (with_reducible assumption) | assumption)
                                                  obtain ⟨ad348, A348_1, c348_1, e348, hx348_0, hx348_1, hl348_1, hi348_1⟩ := at_T33 (Kd.S_reads' HO_6.out).2.2 x9_2 p348 q348
                                                  obtain rfl : ad343 = ad348 := (by injection e348)
                                                  obtain ⟨ce348, hce348, hMe348, hcc348⟩ := Kd.S_get HO_6.out z33 x9_2 p348 (by first | exact q348 | exact of_decide_eq_true (by first | (with_reducible assumption) | assumption) | (have e_ := (Kd.S_reads' HO_6.out).1; omega))
                                                  obtain ⟨ve348_1, rfl, ge348_1⟩ := k33_openM hMe348
                                                  have hv348_1 := hcc348 1 _ rfl
                                                  rw [add_field _ _ 1 (by omega)] at hv348_1
                                                  replace hv348_1 := Option.some.inj (hv348_1.symm.trans hx348_1)
                                                  rw [hv348_1] at ge348_1
                                                  have HL348_1 := Aside0.mk (show Kd.R k35 35 _ _ _ _ ((rd_T33 t314 x9_2).f1) from ge348_1)
                                                  clear hv348_1 ge348_1
                                                  clear hcc348 hce348
                                                  have HR348_1 := Aside0.mk hi348_1
                                                  have HC348_1 := Aside0.mk hl348_1
                                                  clear hi348_1 hl348_1
                                                  replace p348 := eq_true p348
                                                  replace q348 := eq_true q348
                                                  have ea_ := Option.some.inj (hx343_1.symm.trans hx348_1)
                                                  injection ea_ with ea_ en_ ec_
                                                  subst ea_
                                                  subst ec_
                                                  clear en_
                                                  have p349 : 0 ≤ (x10_4 : Int) := of_decide_eq_true (by first | (with_reducible assumption) | assumption)
                                                  have q349 : x10_4 < (((rd_T33 t314 x9_2).f1).length : Int) := of_decide_eq_true (by first | (with_reducible assumption) | assumption)
                                                  obtain ⟨ad349, e349, hx349_0, hx349_1, hx349_2, hx349_3⟩ := at_T35 (by repeat (first | (with_reducible exact HR348_1.out) | (with_reducible refine Kd.C_alloc ?_ _) | (with_reducible refine Kd.C_drewN ?_ _) | (with_reducible refine Kd.C_drew ?_) | exact HR348_1.out)) x10_4 p349 q349
                                                  cases e349
                                                  replace p349 := eq_true p349
                                                  replace q349 := eq_true q349
                                                  obtain ⟨Ao68, co68, eo68⟩ := Kd.S_slice HO_8.out
                                                  subst eo68
                                                  have p350 : 0 ≤ (x9_2 : Int) := of_decide_eq_true (by first | (with_reducible assumption) | assumption)
                                                  have q350 : x9_2 < (t332.length : Int) := of_decide_eq_true (by first | (with_reducible assumption) | assumption)
                                                  obtain ⟨ad350, A350_1, c350_1, e350, hx350_0, hx350_1, hl350_1, hi350_1⟩ := at_T33 (Kd.S_reads' HO_8.out).2.2 x9_2 p350 q350
                                                  cases e350
                                                  obtain ⟨ce350, hce350, hMe350, hcc350⟩ := Kd.S_get HO_8.out z33 x9_2 p350 (by first | exact q350 | exact of_decide_eq_true (by first | (with_reducible assumption) | assumption) | (have e_ := (Kd.S_reads' HO_8.out).1; omega))
                                                  obtain ⟨ve350_1, rfl, ge350_1⟩ := k33_openM hMe350
                                                  have hv350_1 := hcc350 1 _ rfl
                                                  rw [add_field _ _ 1 (by omega)] at hv350_1
                                                  replace hv350_1 := Option.some.inj (hv350_1.symm.trans hx350_1)
                                                  rw [hv350_1] at ge350_1
                                                  have HL350_1 := Aside0.mk (show Kd.R k35 35 _ _ _ _ ((rd_T33 t332 x9_2).f1) from ge350_1)
                                                  clear hv350_1 ge350_1
                                                  clear hcc350 hce350
                                                  have HR350_1 := Aside0.mk hi350_1
                                                  have HC350_1 := Aside0.mk hl350_1
                                                  clear hi350_1 hl350_1
                                                  replace p350 := eq_true p350
                                                  replace q350 := eq_true q350
                                                  have p351 : 0 ≤ (x10_4 : Int) := of_decide_eq_true (by first | (with_reducible assumption) | assumption)
                                                  have q351 : x10_4 < (((rd_T33 t332 x9_2).f1).length : Int) := of_decide_eq_true (by first | (with_reducible assumption) | assumption)
                                                  obtain ⟨ad351, e351, hx351_0, hx351_1, hx351_2, hx351_3⟩ := at_T35 (by repeat (first | (with_reducible exact HR350_1.out) | (with_reducible refine Kd.C_alloc ?_ _) | (with_reducible refine Kd.C_drewN ?_ _) | (with_reducible refine Kd.C_drew ?_) | exact HR350_1.out)) x10_4 p351 q351
                                                  cases e351
                                                  replace p351 := eq_true p351
                                                  replace q351 := eq_true q351
                                                  go_wp2
                                                  repeat (go_quiet (fail); try go_wp2)
                                                  go_ret
                                                  exact ⟨by first | rfl | (simp [errW_none, errW_some] <;> rfl) | (simp only [← hji7]; first | rfl | (simp [errW_none, errW_some] <;> rfl)) | (simp [*, errW_none, errW_some] <;> rfl), by repeat (first | (with_reducible first | exact HB.out | apply below_alloc | apply pw_below_drewN | apply below_drew1 | refine below_set ?_ GE311.out) | exact HB.out)⟩
                                                · rw [if_neg c66] at H
                                                  have c66b0 : (!((((rd_T35 ((rd_T33 t314 x9_2).f1) x10_4).f0).toList) == (((rd_T35 ((rd_T33 t332 x9_2).f1) x10_4).f0).toList)) || (!(((rd_T35 ((rd_T33 t314 x9_2).f1) x10_4).f1) == ((rd_T35 ((rd_T33 t332 x9_2).f1) x10_4).f1)) || (!(((rd_T35 ((rd_T33 t314 x9_2).f1) x10_4).f2) == ((rd_T35 ((rd_T33 t332 x9_2).f1) x10_4).f2)) || (!(((rd_T35 ((rd_T33 t314 x9_2).f1) x10_4).f3) == ((rd_T35 ((rd_T33 t332 x9_2).f1) x10_4).f3)))))) = false := by simpa using c66
                                                  clear c66
                                                  have H' := Aside0.mk H
                                                  clear H
                                                  have p343 : 0 ≤ (x9_2 : Int) := of_decide_eq_true (by first | (with_reducible assumption) | assumption)
                                                  have q343 : x9_2 < (t314.length : Int) := of_decide_eq_true (by first | (with_reducible assumption) | assumption)
                                                  obtain ⟨ad343, A343_1, c343_1, e343, hx343_0, hx343_1, hl343_1, hi343_1⟩ := at_T33 (Kd.S_reads' HO_6.out).2.2 x9_2 p343 q343
                                                  cases e343
                                                  obtain ⟨ce343, hce343, hMe343, hcc343⟩ := Kd.S_get HO_6.out z33 x9_2 p343 (by first | exact q343 | exact of_decide_eq_true (by first | (with_reducible assumption) | assumption) | (have e_ := (Kd.S_reads' HO_6.out).1; omega))
                                                  obtain ⟨ve343_1, rfl, ge343_1⟩ := k33_openM hMe343
                                                  have hv343_1 := hcc343 1 _ rfl
                                                  rw [add_field _ _ 1 (by omega)] at hv343_1
                                                  replace hv343_1 := Option.some.inj (hv343_1.symm.trans hx343_1)
                                                  rw [hv343_1] at ge343_1
                                                  have HL343_1 := Aside0.mk (show Kd.R k35 35 _ _ _ _ ((rd_T33 t314 x9_2).f1) from ge343_1)
                                                  clear hv343_1 ge343_1
                                                  clear hcc343 hce343
                                                  have HR343_1 := Aside0.mk hi343_1
                                                  have HC343_1 := Aside0.mk hl343_1
                                                  clear hi343_1 hl343_1
                                                  replace p343 := eq_true p343
                                                  replace q343 := eq_true q343
                                                  have p344 : 0 ≤ (x9_2 : Int) := of_decide_eq_true (by first | (with_reducible assumption) | assumption)
                                                  have q344 : x9_2 < (t314.length : Int) := of_decide_eq_true (by first | (with_reducible assumption) | assumption)
                                                  obtain ⟨ad344, A344_1, c344_1, e344, hx344_0, hx344_1, hl344_1, hi344_1⟩ := at_T33 (Kd.S_reads' HO_6.out).2.2 x9_2 p344 q344
                                                  obtain rfl : ad343 = ad344 := (by injection e344)
                                                  obtain ⟨ce344, hce344, hMe344, hcc344⟩ := Kd.S_get HO_6.out z33 x9_2 p344 (by first | exact q344 | exact of_decide_eq_true (by first | (with_reducible assumption) | assumption) | (have e_ := (Kd.S_reads' HO_6.out).1; omega))
                                                  obtain ⟨ve344_1, rfl, ge344_1⟩ := k33_openM hMe344
                                                  have hv344_1 := hcc344 1 _ rfl
                                                  rw [add_field _ _ 1 (by omega)] at hv344_1
                                                  replace hv344_1 := Option.some.inj (hv344_1.symm.trans hx344_1)
                                                  rw [hv344_1] at ge344_1
                                                  have HL344_1 := Aside0.mk (show Kd.R k35 35 _ _ _ _ ((rd_T33 t314 x9_2).f1) from ge344_1)
                                                  clear hv344_1 ge344_1
                                                  clear hcc344 hce344
                                                  have HR344_1 := Aside0.mk hi344_1
                                                  have HC344_1 := Aside0.mk hl344_1
                                                  clear hi344_1 hl344_1
                                                  replace p344 := eq_true p344
                                                  replace q344 := eq_true q344
                                                  have ea_ := Option.some.inj (hx343_1.symm.trans hx344_1)
                                                  injection ea_ with ea_ en_ ec_
                                                  subst ea_
                                                  subst ec_
                                                  clear en_
                                                  have p345 : 0 ≤ (x10_4 : Int) := of_decide_eq_true (by first | (with_reducible assumption) | assumption)
                                                  have q345 : x10_4 < (((rd_T33 t314 x9_2).f1).length : Int) := of_decide_eq_true (by first | (with_reducible assumption) | assumption)
                                                  obtain ⟨ad345, e345, hx345_0, hx345_1, hx345_2, hx345_3⟩ := at_T35 (by repeat (first | (with_reducible exact HR344_1.out) | (with_reducible refine Kd.C_alloc ?_ _) | (with_reducible refine Kd.C_drewN ?_ _) | (with_reducible refine Kd.C_drew ?_) | exact HR344_1.out)) x10_4 p345 q345
                                                  cases e345
                                                  replace p345 := eq_true p345
                                                  replace q345 := eq_true q345
                                                  obtain ⟨Ao69, co69, eo69⟩ := Kd.S_slice HO_7.out
                                                  subst eo69
                                                  have p346 : 0 ≤ (x9_2 : Int) := of_decide_eq_true (by first | (with_reducible assumption) | assumption)
                                                  have q346 : x9_2 < (t317.length : Int) := of_decide_eq_true (by first | (with_reducible assumption) | assumption)
                                                  obtain ⟨ad346, A346_1, c346_1, e346, hx346_0, hx346_1, hl346_1, hi346_1⟩ := at_T33 (Kd.S_reads' HO_7.out).2.2 x9_2 p346 q346
                                                  cases e346
                                                  obtain ⟨ce346, hce346, hMe346, hcc346⟩ := Kd.S_get HO_7.out z33 x9_2 p346 (by first | exact q346 | exact of_decide_eq_true (by first | (with_reducible assumption) | assumption) | (have e_ := (Kd.S_reads' HO_7.out).1; omega))
                                                  obtain ⟨ve346_1, rfl, ge346_1⟩ := k33_openM hMe346
                                                  have hv346_1 := hcc346 1 _ rfl
                                                  rw [add_field _ _ 1 (by omega)] at hv346_1
                                                  replace hv346_1 := Option.some.inj (hv346_1.symm.trans hx346_1)
                                                  rw [hv346_1] at ge346_1
                                                  have HL346_1 := Aside0.mk (show Kd.R k35 35 _ _ _ _ ((rd_T33 t317 x9_2).f1) from ge346_1)
                                                  clear hv346_1 ge346_1
                                                  clear hcc346 hce346
                                                  have HR346_1 := Aside0.mk hi346_1
                                                  have HC346_1 := Aside0.mk hl346_1
                                                  clear hi346_1 hl346_1
                                                  replace p346 := eq_true p346
                                                  replace q346 := eq_true q346
                                                  have p347 : 0 ≤ (x10_4 : Int) := of_decide_eq_true (by first | (with_reducible assumption) | assumption)
                                                  have q347 : x10_4 < (((rd_T33 t317 x9_2).f1).length : Int) := of_decide_eq_true (by first | (with_reducible assumption) | assumption)
                                                  obtain ⟨ad347, e347, hx347_0, hx347_1, hx347_2, hx347_3⟩ := at_T35 (by repeat (first | (with_reducible exact HR346_1.out) | (with_reducible refine Kd.C_alloc ?_ _) | (with_reducible refine Kd.C_drewN ?_ _) | (with_reducible refine Kd.C_drew ?_) | exact HR346_1.out)) x10_4 p347 q347
                                                  cases e347
                                                  replace p347 := eq_true p347
                                                  replace q347 := eq_true q347
                                                  have p348 : 0 ≤ (x9_2 : Int) := of_decide_eq_true (by first | (with_reducible assumption) | assumption)
                                                  have q348 : x9_2 < (t314.length : Int) := of_decide_eq_true (by first | (with_reducible assumption) | assumption)
                                                  obtain ⟨ad348, A348_1, c348_1, e348, hx348_0, hx348_1, hl348_1, hi348_1⟩ := at_T33 (Kd.S_reads' HO_6.out).2.2 x9_2 p348 q348
                                                  obtain rfl : ad343 = ad348 := (by injection e348)
                                                  obtain ⟨ce348, hce348, hMe348, hcc348⟩ := Kd.S_get HO_6.out z33 x9_2 p348 (by first | exact q348 | exact of_decide_eq_true (by first | (with_reducible assumption) | assumption) | (have e_ := (Kd.S_reads' HO_6.out).1; omega))
                                                  obtain ⟨ve348_1, rfl, ge348_1⟩ := k33_openM hMe348
                                                  have hv348_1 := hcc348 1 _ rfl
                                                  rw [add_field _ _ 1 (by omega)] at hv348_1
                                                  replace hv348_1 := Option.some.inj (hv348_1.symm.trans hx348_1)
                                                  rw [hv348_1] at ge348_1
                                                  have HL348_1 := Aside0.mk (show Kd.R k35 35 _ _ _ _ ((rd_T33 t314 x9_2).f1) from ge348_1)
                                                  clear hv348_1 ge348_1
                                                  clear hcc348 hce348
                                                  have HR348_1 := Aside0.mk hi348_1
                                                  have HC348_1 := Aside0.mk hl348_1
                                                  clear hi348_1 hl348_1
                                                  replace p348 := eq_true p348
                                                  replace q348 := eq_true q348
                                                  have ea_ := Option.some.inj (hx343_1.symm.trans hx348_1)
                                                  injection ea_ with ea_ en_ ec_
                                                  subst ea_
                                                  subst ec_
                                                  clear en_
                                                  have p349 : 0 ≤ (x10_4 : Int) := of_decide_eq_true (by first | (with_reducible assumption) | assumption)
                                                  have q349 : x10_4 < (((rd_T33 t314 x9_2).f1).length : Int) := of_decide_eq_true (by first | (with_reducible assumption) | assumption)
                                                  obtain ⟨ad349, e349, hx349_0, hx349_1, hx349_2, hx349_3⟩ := at_T35 (by repeat (first | (with_reducible exact HR348_1.out) | (with_reducible refine Kd.C_alloc ?_ _) | (with_reducible refine Kd.C_drewN ?_ _) | (with_reducible refine Kd.C_drew ?_) | exact HR348_1.out)) x10_4 p349 q349
                                                  cases e349
                                                  replace p349 := eq_true p349
                                                  replace q349 := eq_true q349
                                                  obtain ⟨Ao70, co70, eo70⟩ := Kd.S_slice HO_8.out
                                                  subst eo70
                                                  have p350 : 0 ≤ (x9_2 : Int) := of_decide_eq_true (by first | (with_reducible assumption) | assumption)
                                                  have q350 : x9_2 < (t332.length : Int) := of_decide_eq_true (by first | (with_reducible assumption) | assumption)
                                                  obtain ⟨ad350, A350_1, c350_1, e350, hx350_0, hx350_1, hl350_1, hi350_1⟩ := at_T33 (Kd.S_reads' HO_8.out).2.2 x9_2 p350 q350
                                                  cases e350
                                                  obtain ⟨ce350, hce350, hMe350, hcc350⟩ := Kd.S_get HO_8.out z33 x9_2 p350 (by first | exact q350 | exact of_decide_eq_true (by first | (with_reducible assumption) | assumption) | (have e_ := (Kd.S_reads' HO_8.out).1; omega))
                                                  obtain ⟨ve350_1, rfl, ge350_1⟩ := k33_openM hMe350
                                                  have hv350_1 := hcc350 1 _ rfl
                                                  rw [add_field _ _ 1 (by omega)] at hv350_1
                                                  replace hv350_1 := Option.some.inj (hv350_1.symm.trans hx350_1)
                                                  rw [hv350_1] at ge350_1
                                                  have HL350_1 := Aside0.mk (show Kd.R k35 35 _ _ _ _ ((rd_T33 t332 x9_2).f1) from ge350_1)
                                                  clear hv350_1 ge350_1
                                                  clear hcc350 hce350
                                                  have HR350_1 := Aside0.mk hi350_1
                                                  have HC350_1 := Aside0.mk hl350_1
                                                  clear hi350_1 hl350_1
                                                  replace p350 := eq_true p350
                                                  replace q350 := eq_true q350
                                                  have p351 : 0 ≤ (x10_4 : Int) := of_decide_eq_true (by first | (with_reducible assumption) | assumption)
                                                  have q351 : x10_4 < (((rd_T33 t332 x9_2).f1).length : Int) := of_decide_eq_true (by first | (with_reducible assumption) | assumption)
                                                  obtain ⟨ad351, e351, hx351_0, hx351_1, hx351_2, hx351_3⟩ := at_T35 (by repeat (first | (with_reducible exact HR350_1.out) | (with_reducible refine Kd.C_alloc ?_ _) | (with_reducible refine Kd.C_drewN ?_ _) | (with_reducible refine Kd.C_drew ?_) | exact HR350_1.out)) x10_4 p351 q351
                                                  cases e351
                                                  replace p351 := eq_true p351
                                                  replace q351 := eq_true q351
                                                  go_wp2
                                                  repeat (go_quiet (fail); try go_wp2)
                                                  go_roundg k4
                                                  case measure => have := HJ11.out; have := HK2.out; have := HJ39.out; have := HK4.out; omega
                                                  case rel => exact ⟨(wrap64 (x10_4 + 1)), (by first | rfl | (simp; done) | (simp [*]; done)), H', ⟨by have := HJ11.out; have := HK2.out; have := HJ39.out; have := HK4.out; omega⟩, ⟨by (with_reducible repeat (first | apply Kd.S_alloc | apply Kd.S_drewN | apply Kd.S_drew)); exact HO_6.out⟩, ⟨by (with_reducible repeat (first | apply Kd.S_alloc | apply Kd.S_drewN | apply Kd.S_drew)); exact HO_7.out⟩, ⟨by (with_reducible repeat (first | apply Kd.S_alloc | apply Kd.S_drewN | apply Kd.S_drew)); exact HO_8.out⟩, ⟨by (with_reducible repeat (first | refine blk_drewN ?_ _ | refine blk_drew ?_ | refine blk_alloc ?_ _)); exact BK311.out⟩, ⟨by repeat (first | (with_reducible first | exact HB.out | apply below_alloc | apply pw_below_drewN | apply below_drew1 | refine below_set ?_ GE311.out) | exact HB.out)⟩⟩
                                              · rw [if_neg c65] at H
                                                exact absurd H (by simp)
                                            · rw [if_neg c64] at H
                                              exact absurd H (by simp)
                                        · rw [if_neg c61] at H
                                          exact absurd H (by simp)
                                      · rw [if_neg c60] at H
                                        exact absurd H (by simp)
                                    · rw [if_neg c59] at H
                                      exact absurd H (by simp)
                                  · rw [if_neg c58] at H
                                    have c58b0 : decide (x10_4 < (((rd_T33 t314 x9_2).f1).length : Int)) = false := decide_eq_false c58
                                    clear c58
                                    have H' := Aside0.mk H
                                    clear H
                                    have p343 : 0 ≤ (x9_2 : Int) := of_decide_eq_true (by first | (with_reducible assumption) | assumption)
                                    have q343 : x9_2 < (t314.length : Int) := of_decide_eq_true (by first | (with_reducible assumption) | assumption)
                                    obtain ⟨ad343, A343_1, c343_1, e343, hx343_0, hx343_1, hl343_1, hi343_1⟩ := at_T33 (Kd.S_reads' HO_6.out).2.2 x9_2 p343 q343
                                    cases e343
                                    obtain ⟨ce343, hce343, hMe343, hcc343⟩ := Kd.S_get HO_6.out z33 x9_2 p343 (by first | exact q343 | exact of_decide_eq_true (by first | (with_reducible assumption) | assumption) | (have e_ := (Kd.S_reads' HO_6.out).1; omega))
                                    obtain ⟨ve343_1, rfl, ge343_1⟩ := k33_openM hMe343
                                    have hv343_1 := hcc343 1 _ rfl
                                    rw [add_field _ _ 1 (by omega)] at hv343_1
                                    replace hv343_1 := Option.some.inj (hv343_1.symm.trans hx343_1)
                                    rw [hv343_1] at ge343_1
                                    have HL343_1 := Aside0.mk (show Kd.R k35 35 _ _ _ _ ((rd_T33 t314 x9_2).f1) from ge343_1)
                                    clear hv343_1 ge343_1
                                    clear hcc343 hce343
                                    have HR343_1 := Aside0.mk hi343_1
                                    have HC343_1 := Aside0.mk hl343_1
                                    clear hi343_1 hl343_1
                                    replace p343 := eq_true p343
                                    replace q343 := eq_true q343
                                    go_wp2
                                    repeat (go_quiet (fail); try go_wp2)
                                    go_roundg k4
                                    case measure => have := HJ11.out; have := HK2.out; have := HJ39.out; have := HK4.out; omega
                                    case rel => exact ⟨(wrap64 (x9_2 + 1)), (by first | rfl | (simp; done) | (simp [*]; done)), H', ⟨by have := HJ11.out; have := HK2.out; have := HJ39.out; have := HK4.out; omega⟩, ⟨by (with_reducible repeat (first | apply Kd.S_alloc | apply Kd.S_drewN | apply Kd.S_drew)); exact HO_6.out⟩, ⟨by (with_reducible repeat (first | apply Kd.S_alloc | apply Kd.S_drewN | apply Kd.S_drew)); exact HO_7.out⟩, ⟨by (with_reducible repeat (first | apply Kd.S_alloc | apply Kd.S_drewN | apply Kd.S_drew)); exact HO_8.out⟩, ⟨by (with_reducible repeat (first | refine blk_drewN ?_ _ | refine blk_drew ?_ | refine blk_alloc ?_ _)); exact BK311.out⟩, ⟨by repeat (first | (with_reducible first | exact HB.out | apply below_alloc | apply pw_below_drewN | apply below_drew1 | refine below_set ?_ GE311.out) | exact HB.out)⟩⟩
                                · rw [if_neg c57] at H
                                  exact absurd H (by simp)
                              · rw [if_neg c56] at H
                                exact absurd H (by simp)
                  · rw [if_neg c39] at H
                    have c39b0 : decide (x9_2 < (t314.length : Int)) = false := decide_eq_false c39
                    clear c39
                    obtain rfl := Option.some.inj H
                    obtain ⟨Ao71, co71, eo71⟩ := Kd.S_slice HO_6.out
                    subst eo71
                    go_wp2
                    repeat (go_quiet (fail); try go_wp2)
                    go_ret
                    exact ⟨by first | rfl | (simp [errW_none, errW_some] <;> rfl) | (simp only [← hji7]; first | rfl | (simp [errW_none, errW_some] <;> rfl)) | (simp [*, errW_none, errW_some] <;> rfl), by repeat (first | (with_reducible first | exact HB.out | apply below_alloc | apply pw_below_drewN | apply below_drew1 | refine below_set ?_ GE311.out) | exact HB.out)⟩
      · rw [if_neg c10] at H
        exact absurd H (by simp)
    · rw [if_neg c9] at H
      exact absurd H (by simp)
  · replace c5 := Bool.eq_false_iff.mpr c5
    subst c5
    have H1 : (some t312) = some r := by rw [if_neg (show ¬ (false = true) by decide)] at H; exact H
    clear H
    have H := H1
    clear H1
    obtain rfl := Option.some.inj H
    go_enter Try.func3, Try.ntmps3
    go_wp2_with (first | ((with_reducible refine gate_dst (N := 2) rfl ?_); (try (refine gate_guard (by rfl) ?_; dsimp only)); refine box_event ?hg (N := 2) ?hd (cs := #[.slice A0_0 l0_0.length c0_0, .slice A0_1 l0_1.length c0_1, .slice A0_2 l0_2.length c0_2, .int .i64 a0_3]) (t := 26) ?hr ?_; (case hd => rfl); (case hg => rfl); (case hr => first | (go_simp; done) | (go_simp; rfl)); intro gb311 hg w72 hbox hb; have n0_ := Aside0.mk (below_step (by repeat (first | (with_reducible first | exact HB.out | apply below_alloc | apply pw_below_drewN | apply below_drew1) | exact HB.out)) hb); have n1_ := Aside0.mk (hbox); have n2_ := Aside0.mk ((by rw [hg]; exact (below_size (by repeat (first | (with_reducible first | exact HB.out | apply below_alloc | apply pw_below_drewN | apply below_drew1) | exact HB.out))) : w.heap.size ≤ gb311)); have n3_ := Aside0.mk ((by rw [hg]; exact (below_size (by repeat (first | (with_reducible first | exact HB.out | apply below_alloc | apply pw_below_drewN | apply below_drew1) | exact HB.out))) : w.heap.size ≤ gb311)); clear HB; have HB := n0_; have BK311 := n1_; have GW311 := n2_; have GE311 := n3_; clear n0_ n1_ n2_ n3_; clear hb hbox hg) | ((with_reducible refine gate_callee (f := 15) rfl ?_); refine goesL_ (some 11) rfl rfl Try.func15 (by kernel_rfl) rfl #[] rfl (by (try simp only [List.map_toArray, List.map_cons, List.map_nil]); first | done | rfl | (simp only [List.length_drop, List.length_take]; rfl)) ?_; (with_reducible refine (lambrequinlaw22_shown.calls  t312 _ A3.out).mono ?_); rintro e w73 ⟨rfl, hb⟩; refine ⟨_, rfl, ?_⟩; have n0_ := Aside0.mk (blk_below (g := gb311) (o := .cells #[.slice A0_0 l0_0.length c0_0, .slice A0_1 l0_1.length c0_1, .slice A0_2 l0_2.length c0_2, .int .i64 a0_3] 26 (0, 0)) (by (with_reducible repeat (first | refine blk_drewN ?_ _ | refine blk_drew ?_ | refine blk_alloc ?_ _)); exact BK311.out) hb); have n1_ := Aside0.mk (below_step (by repeat (first | (with_reducible first | exact HB.out | apply below_alloc | apply pw_below_drewN | apply below_drew1 | refine below_set ?_ GE311.out) | exact HB.out)) hb); clear BK311; clear HB; have BK311 := n0_; have HB := n1_; clear n0_ n1_; (try clear hb); (try clear hb2); (try clear hk); (try clear hi); have hcz74_0 : w73.cell? ⟨gb311, 0, none⟩ = some (.slice A0_0 l0_0.length c0_0) := (blk_cell BK311.out 0).trans rfl; have hcz74_1 : w73.cell? ⟨gb311, 1, none⟩ = some (.slice A0_1 l0_1.length c0_1) := (blk_cell BK311.out 1).trans rfl; have hcz74_2 : w73.cell? ⟨gb311, 2, none⟩ = some (.slice A0_2 l0_2.length c0_2) := (blk_cell BK311.out 2).trans rfl; have hcz74_3 : w73.cell? ⟨gb311, 3, none⟩ = some (.int .i64 a0_3) := (blk_cell BK311.out 3).trans rfl; have hfz74_0 := blk_frozen BK311.out 0; have hfz74_1 := blk_frozen BK311.out 1; have hfz74_2 := blk_frozen BK311.out 2; have hfz74_3 := blk_frozen BK311.out 3) | ((with_reducible refine gate_callee (f := 16) rfl ?_); refine goesL_ (some 13) rfl rfl Try.func16 (by kernel_rfl) rfl #[.agg #[.slice A0_0 l0_0.length c0_0, .slice A0_1 l0_1.length c0_1, .slice A0_2 l0_2.length c0_2, .int .i64 a0_3]] rfl (by (try simp only [List.map_toArray, List.map_cons, List.map_nil]); first | done | rfl | (simp only [List.length_drop, List.length_take]; rfl)) ?_; (with_reducible refine (lambrequinlaw22_few.calls _ _ l0_0 _ _ l0_1 _ _ l0_2 a0_3 false _ ?side1 ?side2 ?side3 ?side4 ?side5 ?side6 A4.out).mono ?_); (case side1 => repeat (first | exact (Kd.C_below HR0_0.out HB.out) | (with_reducible refine Kd.C_alloc ?_ _) | (with_reducible refine Kd.C_drewN ?_ _) | (with_reducible refine Kd.C_drew ?_))); (case side2 => exact HC0_0.out); (case side3 => repeat (first | exact (Kd.C_below HR0_1.out HB.out) | (with_reducible refine Kd.C_alloc ?_ _) | (with_reducible refine Kd.C_drewN ?_ _) | (with_reducible refine Kd.C_drew ?_))); (case side4 => exact HC0_1.out); (case side5 => repeat (first | exact (Kd.C_below HR0_2.out HB.out) | (with_reducible refine Kd.C_alloc ?_ _) | (with_reducible refine Kd.C_drewN ?_ _) | (with_reducible refine Kd.C_drew ?_))); (case side6 => exact HC0_2.out); rintro e w75 ⟨rfl, hb⟩; refine ⟨_, rfl, ?_⟩; have n0_ := Aside0.mk (blk_below (g := gb311) (o := .cells #[.slice A0_0 l0_0.length c0_0, .slice A0_1 l0_1.length c0_1, .slice A0_2 l0_2.length c0_2, .int .i64 a0_3] 26 (0, 0)) (by (with_reducible repeat (first | refine blk_drewN ?_ _ | refine blk_drew ?_ | refine blk_alloc ?_ _)); exact BK311.out) hb); have n1_ := Aside0.mk (below_step (by repeat (first | (with_reducible first | exact HB.out | apply below_alloc | apply pw_below_drewN | apply below_drew1 | refine below_set ?_ GE311.out) | exact HB.out)) hb); clear BK311; clear HB; have BK311 := n0_; have HB := n1_; clear n0_ n1_; (try clear hb); (try clear hb2); (try clear hk); (try clear hi)))
    repeat (go_quiet (first | ((with_reducible refine gate_dst (N := 2) rfl ?_); (try (refine gate_guard (by rfl) ?_; dsimp only)); refine box_event ?hg (N := 2) ?hd (cs := #[.slice A0_0 l0_0.length c0_0, .slice A0_1 l0_1.length c0_1, .slice A0_2 l0_2.length c0_2, .int .i64 a0_3]) (t := 26) ?hr ?_; (case hd => rfl); (case hg => rfl); (case hr => first | (go_simp; done) | (go_simp; rfl)); intro gb311 hg w72 hbox hb; have n0_ := Aside0.mk (below_step (by repeat (first | (with_reducible first | exact HB.out | apply below_alloc | apply pw_below_drewN | apply below_drew1) | exact HB.out)) hb); have n1_ := Aside0.mk (hbox); have n2_ := Aside0.mk ((by rw [hg]; exact (below_size (by repeat (first | (with_reducible first | exact HB.out | apply below_alloc | apply pw_below_drewN | apply below_drew1) | exact HB.out))) : w.heap.size ≤ gb311)); have n3_ := Aside0.mk ((by rw [hg]; exact (below_size (by repeat (first | (with_reducible first | exact HB.out | apply below_alloc | apply pw_below_drewN | apply below_drew1) | exact HB.out))) : w.heap.size ≤ gb311)); clear HB; have HB := n0_; have BK311 := n1_; have GW311 := n2_; have GE311 := n3_; clear n0_ n1_ n2_ n3_; clear hb hbox hg) | ((with_reducible refine gate_callee (f := 15) rfl ?_); refine goesL_ (some 11) rfl rfl Try.func15 (by kernel_rfl) rfl #[] rfl (by (try simp only [List.map_toArray, List.map_cons, List.map_nil]); first | done | rfl | (simp only [List.length_drop, List.length_take]; rfl)) ?_; (with_reducible refine (lambrequinlaw22_shown.calls  t312 _ A3.out).mono ?_); rintro e w73 ⟨rfl, hb⟩; refine ⟨_, rfl, ?_⟩; have n0_ := Aside0.mk (blk_below (g := gb311) (o := .cells #[.slice A0_0 l0_0.length c0_0, .slice A0_1 l0_1.length c0_1, .slice A0_2 l0_2.length c0_2, .int .i64 a0_3] 26 (0, 0)) (by (with_reducible repeat (first | refine blk_drewN ?_ _ | refine blk_drew ?_ | refine blk_alloc ?_ _)); exact BK311.out) hb); have n1_ := Aside0.mk (below_step (by repeat (first | (with_reducible first | exact HB.out | apply below_alloc | apply pw_below_drewN | apply below_drew1 | refine below_set ?_ GE311.out) | exact HB.out)) hb); clear BK311; clear HB; have BK311 := n0_; have HB := n1_; clear n0_ n1_; (try clear hb); (try clear hb2); (try clear hk); (try clear hi); have hcz74_0 : w73.cell? ⟨gb311, 0, none⟩ = some (.slice A0_0 l0_0.length c0_0) := (blk_cell BK311.out 0).trans rfl; have hcz74_1 : w73.cell? ⟨gb311, 1, none⟩ = some (.slice A0_1 l0_1.length c0_1) := (blk_cell BK311.out 1).trans rfl; have hcz74_2 : w73.cell? ⟨gb311, 2, none⟩ = some (.slice A0_2 l0_2.length c0_2) := (blk_cell BK311.out 2).trans rfl; have hcz74_3 : w73.cell? ⟨gb311, 3, none⟩ = some (.int .i64 a0_3) := (blk_cell BK311.out 3).trans rfl; have hfz74_0 := blk_frozen BK311.out 0; have hfz74_1 := blk_frozen BK311.out 1; have hfz74_2 := blk_frozen BK311.out 2; have hfz74_3 := blk_frozen BK311.out 3) | ((with_reducible refine gate_callee (f := 16) rfl ?_); refine goesL_ (some 13) rfl rfl Try.func16 (by kernel_rfl) rfl #[.agg #[.slice A0_0 l0_0.length c0_0, .slice A0_1 l0_1.length c0_1, .slice A0_2 l0_2.length c0_2, .int .i64 a0_3]] rfl (by (try simp only [List.map_toArray, List.map_cons, List.map_nil]); first | done | rfl | (simp only [List.length_drop, List.length_take]; rfl)) ?_; (with_reducible refine (lambrequinlaw22_few.calls _ _ l0_0 _ _ l0_1 _ _ l0_2 a0_3 false _ ?side1 ?side2 ?side3 ?side4 ?side5 ?side6 A4.out).mono ?_); (case side1 => repeat (first | exact (Kd.C_below HR0_0.out HB.out) | (with_reducible refine Kd.C_alloc ?_ _) | (with_reducible refine Kd.C_drewN ?_ _) | (with_reducible refine Kd.C_drew ?_))); (case side2 => exact HC0_0.out); (case side3 => repeat (first | exact (Kd.C_below HR0_1.out HB.out) | (with_reducible refine Kd.C_alloc ?_ _) | (with_reducible refine Kd.C_drewN ?_ _) | (with_reducible refine Kd.C_drew ?_))); (case side4 => exact HC0_1.out); (case side5 => repeat (first | exact (Kd.C_below HR0_2.out HB.out) | (with_reducible refine Kd.C_alloc ?_ _) | (with_reducible refine Kd.C_drewN ?_ _) | (with_reducible refine Kd.C_drew ?_))); (case side6 => exact HC0_2.out); rintro e w75 ⟨rfl, hb⟩; refine ⟨_, rfl, ?_⟩; have n0_ := Aside0.mk (blk_below (g := gb311) (o := .cells #[.slice A0_0 l0_0.length c0_0, .slice A0_1 l0_1.length c0_1, .slice A0_2 l0_2.length c0_2, .int .i64 a0_3] 26 (0, 0)) (by (with_reducible repeat (first | refine blk_drewN ?_ _ | refine blk_drew ?_ | refine blk_alloc ?_ _)); exact BK311.out) hb); have n1_ := Aside0.mk (below_step (by repeat (first | (with_reducible first | exact HB.out | apply below_alloc | apply pw_below_drewN | apply below_drew1 | refine below_set ?_ GE311.out) | exact HB.out)) hb); clear BK311; clear HB; have BK311 := n0_; have HB := n1_; clear n0_ n1_; (try clear hb); (try clear hb2); (try clear hk); (try clear hi))); try go_wp2_with (first | ((with_reducible refine gate_dst (N := 2) rfl ?_); (try (refine gate_guard (by rfl) ?_; dsimp only)); refine box_event ?hg (N := 2) ?hd (cs := #[.slice A0_0 l0_0.length c0_0, .slice A0_1 l0_1.length c0_1, .slice A0_2 l0_2.length c0_2, .int .i64 a0_3]) (t := 26) ?hr ?_; (case hd => rfl); (case hg => rfl); (case hr => first | (go_simp; done) | (go_simp; rfl)); intro gb311 hg w72 hbox hb; have n0_ := Aside0.mk (below_step (by repeat (first | (with_reducible first | exact HB.out | apply below_alloc | apply pw_below_drewN | apply below_drew1) | exact HB.out)) hb); have n1_ := Aside0.mk (hbox); have n2_ := Aside0.mk ((by rw [hg]; exact (below_size (by repeat (first | (with_reducible first | exact HB.out | apply below_alloc | apply pw_below_drewN | apply below_drew1) | exact HB.out))) : w.heap.size ≤ gb311)); have n3_ := Aside0.mk ((by rw [hg]; exact (below_size (by repeat (first | (with_reducible first | exact HB.out | apply below_alloc | apply pw_below_drewN | apply below_drew1) | exact HB.out))) : w.heap.size ≤ gb311)); clear HB; have HB := n0_; have BK311 := n1_; have GW311 := n2_; have GE311 := n3_; clear n0_ n1_ n2_ n3_; clear hb hbox hg) | ((with_reducible refine gate_callee (f := 15) rfl ?_); refine goesL_ (some 11) rfl rfl Try.func15 (by kernel_rfl) rfl #[] rfl (by (try simp only [List.map_toArray, List.map_cons, List.map_nil]); first | done | rfl | (simp only [List.length_drop, List.length_take]; rfl)) ?_; (with_reducible refine (lambrequinlaw22_shown.calls  t312 _ A3.out).mono ?_); rintro e w73 ⟨rfl, hb⟩; refine ⟨_, rfl, ?_⟩; have n0_ := Aside0.mk (blk_below (g := gb311) (o := .cells #[.slice A0_0 l0_0.length c0_0, .slice A0_1 l0_1.length c0_1, .slice A0_2 l0_2.length c0_2, .int .i64 a0_3] 26 (0, 0)) (by (with_reducible repeat (first | refine blk_drewN ?_ _ | refine blk_drew ?_ | refine blk_alloc ?_ _)); exact BK311.out) hb); have n1_ := Aside0.mk (below_step (by repeat (first | (with_reducible first | exact HB.out | apply below_alloc | apply pw_below_drewN | apply below_drew1 | refine below_set ?_ GE311.out) | exact HB.out)) hb); clear BK311; clear HB; have BK311 := n0_; have HB := n1_; clear n0_ n1_; (try clear hb); (try clear hb2); (try clear hk); (try clear hi); have hcz74_0 : w73.cell? ⟨gb311, 0, none⟩ = some (.slice A0_0 l0_0.length c0_0) := (blk_cell BK311.out 0).trans rfl; have hcz74_1 : w73.cell? ⟨gb311, 1, none⟩ = some (.slice A0_1 l0_1.length c0_1) := (blk_cell BK311.out 1).trans rfl; have hcz74_2 : w73.cell? ⟨gb311, 2, none⟩ = some (.slice A0_2 l0_2.length c0_2) := (blk_cell BK311.out 2).trans rfl; have hcz74_3 : w73.cell? ⟨gb311, 3, none⟩ = some (.int .i64 a0_3) := (blk_cell BK311.out 3).trans rfl; have hfz74_0 := blk_frozen BK311.out 0; have hfz74_1 := blk_frozen BK311.out 1; have hfz74_2 := blk_frozen BK311.out 2; have hfz74_3 := blk_frozen BK311.out 3) | ((with_reducible refine gate_callee (f := 16) rfl ?_); refine goesL_ (some 13) rfl rfl Try.func16 (by kernel_rfl) rfl #[.agg #[.slice A0_0 l0_0.length c0_0, .slice A0_1 l0_1.length c0_1, .slice A0_2 l0_2.length c0_2, .int .i64 a0_3]] rfl (by (try simp only [List.map_toArray, List.map_cons, List.map_nil]); first | done | rfl | (simp only [List.length_drop, List.length_take]; rfl)) ?_; (with_reducible refine (lambrequinlaw22_few.calls _ _ l0_0 _ _ l0_1 _ _ l0_2 a0_3 false _ ?side1 ?side2 ?side3 ?side4 ?side5 ?side6 A4.out).mono ?_); (case side1 => repeat (first | exact (Kd.C_below HR0_0.out HB.out) | (with_reducible refine Kd.C_alloc ?_ _) | (with_reducible refine Kd.C_drewN ?_ _) | (with_reducible refine Kd.C_drew ?_))); (case side2 => exact HC0_0.out); (case side3 => repeat (first | exact (Kd.C_below HR0_1.out HB.out) | (with_reducible refine Kd.C_alloc ?_ _) | (with_reducible refine Kd.C_drewN ?_ _) | (with_reducible refine Kd.C_drew ?_))); (case side4 => exact HC0_1.out); (case side5 => repeat (first | exact (Kd.C_below HR0_2.out HB.out) | (with_reducible refine Kd.C_alloc ?_ _) | (with_reducible refine Kd.C_drewN ?_ _) | (with_reducible refine Kd.C_drew ?_))); (case side6 => exact HC0_2.out); rintro e w75 ⟨rfl, hb⟩; refine ⟨_, rfl, ?_⟩; have n0_ := Aside0.mk (blk_below (g := gb311) (o := .cells #[.slice A0_0 l0_0.length c0_0, .slice A0_1 l0_1.length c0_1, .slice A0_2 l0_2.length c0_2, .int .i64 a0_3] 26 (0, 0)) (by (with_reducible repeat (first | refine blk_drewN ?_ _ | refine blk_drew ?_ | refine blk_alloc ?_ _)); exact BK311.out) hb); have n1_ := Aside0.mk (below_step (by repeat (first | (with_reducible first | exact HB.out | apply below_alloc | apply pw_below_drewN | apply below_drew1 | refine below_set ?_ GE311.out) | exact HB.out)) hb); clear BK311; clear HB; have BK311 := n0_; have HB := n1_; clear n0_ n1_; (try clear hb); (try clear hb2); (try clear hk); (try clear hi))))
    go_ret
    exact ⟨by first | rfl | (simp [errW_none, errW_some] <;> rfl) | (simp [*, errW_none, errW_some] <;> rfl), by repeat (first | (with_reducible first | exact HB.out | apply below_alloc | apply pw_below_drewN | apply below_drew1 | refine below_set ?_ GE311.out) | exact HB.out)⟩

end Go.Proofs.Ytmacollhnnachaa.Pr
